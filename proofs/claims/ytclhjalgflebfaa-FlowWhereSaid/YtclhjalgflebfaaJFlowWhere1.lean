/- What the row of FlowWhere rests on, part 1: contracts of the functions that it reaches, and the plain law. -/
import Derived.Test.YtclhjalgflebfaaJFlowWhere0
namespace Go.Proofs.Ytclhjalgflebfaa.Q
open Go.RowKit Go.Proofs.YtclhjalgflebfaaW.PrintWords Go.Proofs.YtclhjalgflebfaaW.PrintLast Go.Proofs.YtclhjalgflebfaaW.PrintMore
attribute [local go_sem] max2_int min2_int max_two min_two max_three min_three max_four min_four   -- for this text's walks alone
set_option linter.unusedVariables false
set_option linter.unusedSimpArgs false

/-! ### truantlaw09_awake: function 14 -/
def truantlaw09_awake.f (k : Nat)  : Option (Bool) := (truantlaw09_four.f).bind fun bt279 => ((flow_Order.f bt279.1 bt279.2.1 bt279.2.2.1 bt279.2.2.2.1 bt279.2.2.2.2.1 bt279.2.2.2.2.2).bind fun t294 => ((flow_Ahead.f k bt279.1 bt279.2.1 bt279.2.2.1 bt279.2.2.2.1 bt279.2.2.2.2.1 bt279.2.2.2.2.2).bind fun t297 => ((flow_Where.f k bt279.1 bt279.2.1 bt279.2.2.1 bt279.2.2.2.1 bt279.2.2.2.2.1 bt279.2.2.2.2.2).bind fun t300 => ((flow_Reached.f bt279.1 bt279.2.1 bt279.2.2.1 bt279.2.2.2.1 bt279.2.2.2.2.1 bt279.2.2.2.2.2).bind fun t303 => ((flow_Next.f bt279.1 bt279.2.1 bt279.2.2.1 bt279.2.2.2.1 bt279.2.2.2.2.1 bt279.2.2.2.2.2 0).bind fun t306 => (if (t294.length : Int) = 4 then (if 0 < (t294.length : Int) then (if (rd t294 0) = 0 then (if 1 < (t294.length : Int) then (if (rd t294 1) = 2 then (if 2 < (t294.length : Int) then (if (rd t294 2) = 1 then (if 3 < (t294.length : Int) then (if (rd t294 3) = 3 then (if (t297.length : Int) = 5 then (if 3 < (t297.length : Int) then (if ((rd_L2 t297 3).length : Int) = 2 then (if 0 < (t297.length : Int) then (if ((rd_L2 t297 0).length : Int) = 1 then (if (t300.length : Int) = 2 then (if 0 < (t300.length : Int) then (if (rd t300 0) = (-1) then (if 1 < (t300.length : Int) then (if (rd t300 1) = 0 then (if (t303.length : Int) = 5 then (if 3 < (t303.length : Int) then (if rdOf false t303 3 = true then (if 4 < (t303.length : Int) then (if rdOf false t303 4 = true then (none) else (if (t306.length : Int) = 2 then ((flow_Back.f bt279.1 bt279.2.1 bt279.2.2.1 bt279.2.2.2.1 bt279.2.2.2.2.1 bt279.2.2.2.2.2).bind fun t319 => (some ((t319.length : Int) == 0))) else (none))) else (none)) else (none)) else (none)) else (none)) else (none)) else (none)) else (none)) else (none)) else (none)) else (none)) else (none)) else (none)) else (none)) else (none)) else (none)) else (none)) else (none)) else (none)) else (none)) else (none)) else (none)) else (none)) else (none)))))))
theorem truantlaw09_awake.mono : ∀ k, LeO (truantlaw09_awake.f k ) (truantlaw09_awake.f (k + 1) ) := by
 intro  k
 unfold truantlaw09_awake.f
 repeat' first
   | (with_reducible exact flow_Ahead.mono _ _ _ _ _ _ _)
   | (with_reducible exact flow_Where.mono _ _ _ _ _ _ _)
   | (with_reducible exact LeO.refl _)
   | (with_reducible exact LeO.none _)
   | (with_reducible refine LeO.ite ?_ ?_)
   | (with_reducible refine LeO.bind ?_ (fun _ => ?_))
   | exact flow_Ahead.mono _ _ _ _ _ _ _
   | exact flow_Where.mono _ _ _ _ _ _ _
   | exact LeO.none _
   | refine LeO.ite ?_ ?_
   | refine LeO.bind ?_ (fun _ => ?_)
set_option maxHeartbeats 8000000 in
set_option maxRecDepth 100000 in
theorem truantlaw09_awake.calls (k : Nat)  (r : Bool) (w : World) (h : truantlaw09_awake.f k  = some r) :
  Calls Try.prog 14 #[] w fun e w' => e = .returned (.bool r) ∧ Below w.heap.size w w' := by
 have hu26 := Try.underlying26
 have HB := Aside0.mk (Below.refl w.heap.size w)
 have H : ((truantlaw09_four.f).bind fun bt279 => ((flow_Order.f bt279.1 bt279.2.1 bt279.2.2.1 bt279.2.2.2.1 bt279.2.2.2.2.1 bt279.2.2.2.2.2).bind fun t294 => ((flow_Ahead.f k bt279.1 bt279.2.1 bt279.2.2.1 bt279.2.2.2.1 bt279.2.2.2.2.1 bt279.2.2.2.2.2).bind fun t297 => ((flow_Where.f k bt279.1 bt279.2.1 bt279.2.2.1 bt279.2.2.2.1 bt279.2.2.2.2.1 bt279.2.2.2.2.2).bind fun t300 => ((flow_Reached.f bt279.1 bt279.2.1 bt279.2.2.1 bt279.2.2.2.1 bt279.2.2.2.2.1 bt279.2.2.2.2.2).bind fun t303 => ((flow_Next.f bt279.1 bt279.2.1 bt279.2.2.1 bt279.2.2.2.1 bt279.2.2.2.2.1 bt279.2.2.2.2.2 0).bind fun t306 => (if (t294.length : Int) = 4 then (if 0 < (t294.length : Int) then (if (rd t294 0) = 0 then (if 1 < (t294.length : Int) then (if (rd t294 1) = 2 then (if 2 < (t294.length : Int) then (if (rd t294 2) = 1 then (if 3 < (t294.length : Int) then (if (rd t294 3) = 3 then (if (t297.length : Int) = 5 then (if 3 < (t297.length : Int) then (if ((rd_L2 t297 3).length : Int) = 2 then (if 0 < (t297.length : Int) then (if ((rd_L2 t297 0).length : Int) = 1 then (if (t300.length : Int) = 2 then (if 0 < (t300.length : Int) then (if (rd t300 0) = (-1) then (if 1 < (t300.length : Int) then (if (rd t300 1) = 0 then (if (t303.length : Int) = 5 then (if 3 < (t303.length : Int) then (if rdOf false t303 3 = true then (if 4 < (t303.length : Int) then (if rdOf false t303 4 = true then (none) else (if (t306.length : Int) = 2 then ((flow_Back.f bt279.1 bt279.2.1 bt279.2.2.1 bt279.2.2.2.1 bt279.2.2.2.2.1 bt279.2.2.2.2.2).bind fun t319 => (some ((t319.length : Int) == 0))) else (none))) else (none)) else (none)) else (none)) else (none)) else (none)) else (none)) else (none)) else (none)) else (none)) else (none)) else (none)) else (none)) else (none)) else (none)) else (none)) else (none)) else (none)) else (none)) else (none)) else (none)) else (none)) else (none)) else (none)))))))) = some r := h
 clear h
 replace H := Option.bind_eq_some_iff.mp H
 obtain ⟨⟨t279, t280, t283, t284, t287, t290⟩, A10, H⟩ := H
 replace H : ((flow_Order.f t279 t280 t283 t284 t287 t290).bind fun t294 => ((flow_Ahead.f k t279 t280 t283 t284 t287 t290).bind fun t297 => ((flow_Where.f k t279 t280 t283 t284 t287 t290).bind fun t300 => ((flow_Reached.f t279 t280 t283 t284 t287 t290).bind fun t303 => ((flow_Next.f t279 t280 t283 t284 t287 t290 0).bind fun t306 => (if (t294.length : Int) = 4 then (if 0 < (t294.length : Int) then (if (rd t294 0) = 0 then (if 1 < (t294.length : Int) then (if (rd t294 1) = 2 then (if 2 < (t294.length : Int) then (if (rd t294 2) = 1 then (if 3 < (t294.length : Int) then (if (rd t294 3) = 3 then (if (t297.length : Int) = 5 then (if 3 < (t297.length : Int) then (if ((rd_L2 t297 3).length : Int) = 2 then (if 0 < (t297.length : Int) then (if ((rd_L2 t297 0).length : Int) = 1 then (if (t300.length : Int) = 2 then (if 0 < (t300.length : Int) then (if (rd t300 0) = (-1) then (if 1 < (t300.length : Int) then (if (rd t300 1) = 0 then (if (t303.length : Int) = 5 then (if 3 < (t303.length : Int) then (if rdOf false t303 3 = true then (if 4 < (t303.length : Int) then (if rdOf false t303 4 = true then (none) else (if (t306.length : Int) = 2 then ((flow_Back.f t279 t280 t283 t284 t287 t290).bind fun t319 => (some ((t319.length : Int) == 0))) else (none))) else (none)) else (none)) else (none)) else (none)) else (none)) else (none)) else (none)) else (none)) else (none)) else (none)) else (none)) else (none)) else (none)) else (none)) else (none)) else (none)) else (none)) else (none)) else (none)) else (none)) else (none)) else (none)) else (none))))))) = some r := H
 have A1 := Aside0.mk A10
 clear A10
 replace H := Option.bind_eq_some_iff.mp H
 obtain ⟨t294, A20, H⟩ := H
 replace H : ((flow_Ahead.f k t279 t280 t283 t284 t287 t290).bind fun t297 => ((flow_Where.f k t279 t280 t283 t284 t287 t290).bind fun t300 => ((flow_Reached.f t279 t280 t283 t284 t287 t290).bind fun t303 => ((flow_Next.f t279 t280 t283 t284 t287 t290 0).bind fun t306 => (if (t294.length : Int) = 4 then (if 0 < (t294.length : Int) then (if (rd t294 0) = 0 then (if 1 < (t294.length : Int) then (if (rd t294 1) = 2 then (if 2 < (t294.length : Int) then (if (rd t294 2) = 1 then (if 3 < (t294.length : Int) then (if (rd t294 3) = 3 then (if (t297.length : Int) = 5 then (if 3 < (t297.length : Int) then (if ((rd_L2 t297 3).length : Int) = 2 then (if 0 < (t297.length : Int) then (if ((rd_L2 t297 0).length : Int) = 1 then (if (t300.length : Int) = 2 then (if 0 < (t300.length : Int) then (if (rd t300 0) = (-1) then (if 1 < (t300.length : Int) then (if (rd t300 1) = 0 then (if (t303.length : Int) = 5 then (if 3 < (t303.length : Int) then (if rdOf false t303 3 = true then (if 4 < (t303.length : Int) then (if rdOf false t303 4 = true then (none) else (if (t306.length : Int) = 2 then ((flow_Back.f t279 t280 t283 t284 t287 t290).bind fun t319 => (some ((t319.length : Int) == 0))) else (none))) else (none)) else (none)) else (none)) else (none)) else (none)) else (none)) else (none)) else (none)) else (none)) else (none)) else (none)) else (none)) else (none)) else (none)) else (none)) else (none)) else (none)) else (none)) else (none)) else (none)) else (none)) else (none)) else (none)))))) = some r := H
 have A2 := Aside0.mk A20
 clear A20
 replace H := Option.bind_eq_some_iff.mp H
 obtain ⟨t297, A30, H⟩ := H
 replace H : ((flow_Where.f k t279 t280 t283 t284 t287 t290).bind fun t300 => ((flow_Reached.f t279 t280 t283 t284 t287 t290).bind fun t303 => ((flow_Next.f t279 t280 t283 t284 t287 t290 0).bind fun t306 => (if (t294.length : Int) = 4 then (if 0 < (t294.length : Int) then (if (rd t294 0) = 0 then (if 1 < (t294.length : Int) then (if (rd t294 1) = 2 then (if 2 < (t294.length : Int) then (if (rd t294 2) = 1 then (if 3 < (t294.length : Int) then (if (rd t294 3) = 3 then (if (t297.length : Int) = 5 then (if 3 < (t297.length : Int) then (if ((rd_L2 t297 3).length : Int) = 2 then (if 0 < (t297.length : Int) then (if ((rd_L2 t297 0).length : Int) = 1 then (if (t300.length : Int) = 2 then (if 0 < (t300.length : Int) then (if (rd t300 0) = (-1) then (if 1 < (t300.length : Int) then (if (rd t300 1) = 0 then (if (t303.length : Int) = 5 then (if 3 < (t303.length : Int) then (if rdOf false t303 3 = true then (if 4 < (t303.length : Int) then (if rdOf false t303 4 = true then (none) else (if (t306.length : Int) = 2 then ((flow_Back.f t279 t280 t283 t284 t287 t290).bind fun t319 => (some ((t319.length : Int) == 0))) else (none))) else (none)) else (none)) else (none)) else (none)) else (none)) else (none)) else (none)) else (none)) else (none)) else (none)) else (none)) else (none)) else (none)) else (none)) else (none)) else (none)) else (none)) else (none)) else (none)) else (none)) else (none)) else (none)) else (none))))) = some r := H
 have A3 := Aside0.mk A30
 clear A30
 replace H := Option.bind_eq_some_iff.mp H
 obtain ⟨t300, A40, H⟩ := H
 replace H : ((flow_Reached.f t279 t280 t283 t284 t287 t290).bind fun t303 => ((flow_Next.f t279 t280 t283 t284 t287 t290 0).bind fun t306 => (if (t294.length : Int) = 4 then (if 0 < (t294.length : Int) then (if (rd t294 0) = 0 then (if 1 < (t294.length : Int) then (if (rd t294 1) = 2 then (if 2 < (t294.length : Int) then (if (rd t294 2) = 1 then (if 3 < (t294.length : Int) then (if (rd t294 3) = 3 then (if (t297.length : Int) = 5 then (if 3 < (t297.length : Int) then (if ((rd_L2 t297 3).length : Int) = 2 then (if 0 < (t297.length : Int) then (if ((rd_L2 t297 0).length : Int) = 1 then (if (t300.length : Int) = 2 then (if 0 < (t300.length : Int) then (if (rd t300 0) = (-1) then (if 1 < (t300.length : Int) then (if (rd t300 1) = 0 then (if (t303.length : Int) = 5 then (if 3 < (t303.length : Int) then (if rdOf false t303 3 = true then (if 4 < (t303.length : Int) then (if rdOf false t303 4 = true then (none) else (if (t306.length : Int) = 2 then ((flow_Back.f t279 t280 t283 t284 t287 t290).bind fun t319 => (some ((t319.length : Int) == 0))) else (none))) else (none)) else (none)) else (none)) else (none)) else (none)) else (none)) else (none)) else (none)) else (none)) else (none)) else (none)) else (none)) else (none)) else (none)) else (none)) else (none)) else (none)) else (none)) else (none)) else (none)) else (none)) else (none)) else (none)))) = some r := H
 have A4 := Aside0.mk A40
 clear A40
 replace H := Option.bind_eq_some_iff.mp H
 obtain ⟨t303, A50, H⟩ := H
 replace H : ((flow_Next.f t279 t280 t283 t284 t287 t290 0).bind fun t306 => (if (t294.length : Int) = 4 then (if 0 < (t294.length : Int) then (if (rd t294 0) = 0 then (if 1 < (t294.length : Int) then (if (rd t294 1) = 2 then (if 2 < (t294.length : Int) then (if (rd t294 2) = 1 then (if 3 < (t294.length : Int) then (if (rd t294 3) = 3 then (if (t297.length : Int) = 5 then (if 3 < (t297.length : Int) then (if ((rd_L2 t297 3).length : Int) = 2 then (if 0 < (t297.length : Int) then (if ((rd_L2 t297 0).length : Int) = 1 then (if (t300.length : Int) = 2 then (if 0 < (t300.length : Int) then (if (rd t300 0) = (-1) then (if 1 < (t300.length : Int) then (if (rd t300 1) = 0 then (if (t303.length : Int) = 5 then (if 3 < (t303.length : Int) then (if rdOf false t303 3 = true then (if 4 < (t303.length : Int) then (if rdOf false t303 4 = true then (none) else (if (t306.length : Int) = 2 then ((flow_Back.f t279 t280 t283 t284 t287 t290).bind fun t319 => (some ((t319.length : Int) == 0))) else (none))) else (none)) else (none)) else (none)) else (none)) else (none)) else (none)) else (none)) else (none)) else (none)) else (none)) else (none)) else (none)) else (none)) else (none)) else (none)) else (none)) else (none)) else (none)) else (none)) else (none)) else (none)) else (none)) else (none))) = some r := H
 have A5 := Aside0.mk A50
 clear A50
 replace H := Option.bind_eq_some_iff.mp H
 obtain ⟨t306, A60, H⟩ := H
 replace H : (if (t294.length : Int) = 4 then (if 0 < (t294.length : Int) then (if (rd t294 0) = 0 then (if 1 < (t294.length : Int) then (if (rd t294 1) = 2 then (if 2 < (t294.length : Int) then (if (rd t294 2) = 1 then (if 3 < (t294.length : Int) then (if (rd t294 3) = 3 then (if (t297.length : Int) = 5 then (if 3 < (t297.length : Int) then (if ((rd_L2 t297 3).length : Int) = 2 then (if 0 < (t297.length : Int) then (if ((rd_L2 t297 0).length : Int) = 1 then (if (t300.length : Int) = 2 then (if 0 < (t300.length : Int) then (if (rd t300 0) = (-1) then (if 1 < (t300.length : Int) then (if (rd t300 1) = 0 then (if (t303.length : Int) = 5 then (if 3 < (t303.length : Int) then (if rdOf false t303 3 = true then (if 4 < (t303.length : Int) then (if rdOf false t303 4 = true then (none) else (if (t306.length : Int) = 2 then ((flow_Back.f t279 t280 t283 t284 t287 t290).bind fun t319 => (some ((t319.length : Int) == 0))) else (none))) else (none)) else (none)) else (none)) else (none)) else (none)) else (none)) else (none)) else (none)) else (none)) else (none)) else (none)) else (none)) else (none)) else (none)) else (none)) else (none)) else (none)) else (none)) else (none)) else (none)) else (none)) else (none)) else (none)) = some r := H
 have A6 := Aside0.mk A60
 clear A60
 by_cases c7 : (t294.length : Int) = 4
 ·rw [if_pos c7] at H
  have c7b0 : ((t294.length : Int) == 4) = true := beq_iff_eq.mpr c7
  have c7b1 : ((t294.length : Int) != 4) = false := bne_eq_false_iff_eq.mpr c7
  clear c7
  by_cases c8 : 0 < (t294.length : Int)
  ·rw [if_pos c8] at H
   have c8b0 : decide (0 < (t294.length : Int)) = true := decide_eq_true c8
   have c8b1 : decide (0 < t294.length) = true := decide_eq_true (by omega)
   clear c8
   by_cases c9 : (rd t294 0) = 0
   ·rw [if_pos c9] at H
    have c9b0 : ((rd t294 0) == 0) = true := beq_iff_eq.mpr c9
    have c9b1 : ((rd t294 0) != 0) = false := bne_eq_false_iff_eq.mpr c9
    clear c9
    by_cases c10 : 1 < (t294.length : Int)
    ·rw [if_pos c10] at H
     have c10b0 : decide (1 < (t294.length : Int)) = true := decide_eq_true c10
     have c10b1 : decide (1 < t294.length) = true := decide_eq_true (by omega)
     clear c10
     by_cases c11 : (rd t294 1) = 2
     ·rw [if_pos c11] at H
      have c11b0 : ((rd t294 1) == 2) = true := beq_iff_eq.mpr c11
      have c11b1 : ((rd t294 1) != 2) = false := bne_eq_false_iff_eq.mpr c11
      clear c11
      by_cases c12 : 2 < (t294.length : Int)
      ·rw [if_pos c12] at H
       have c12b0 : decide (2 < (t294.length : Int)) = true := decide_eq_true c12
       have c12b1 : decide (2 < t294.length) = true := decide_eq_true (by omega)
       clear c12
       by_cases c13 : (rd t294 2) = 1
       ·rw [if_pos c13] at H
        have c13b0 : ((rd t294 2) == 1) = true := beq_iff_eq.mpr c13
        have c13b1 : ((rd t294 2) != 1) = false := bne_eq_false_iff_eq.mpr c13
        clear c13
        by_cases c14 : 3 < (t294.length : Int)
        ·rw [if_pos c14] at H
         have c14b0 : decide (3 < (t294.length : Int)) = true := decide_eq_true c14
         have c14b1 : decide (3 < t294.length) = true := decide_eq_true (by omega)
         clear c14
         by_cases c15 : (rd t294 3) = 3
         ·rw [if_pos c15] at H
          have c15b0 : ((rd t294 3) == 3) = true := beq_iff_eq.mpr c15
          have c15b1 : ((rd t294 3) != 3) = false := bne_eq_false_iff_eq.mpr c15
          clear c15
          by_cases c16 : (t297.length : Int) = 5
          ·rw [if_pos c16] at H
           have c16b0 : ((t297.length : Int) == 5) = true := beq_iff_eq.mpr c16
           have c16b1 : ((t297.length : Int) != 5) = false := bne_eq_false_iff_eq.mpr c16
           clear c16
           by_cases c17 : 3 < (t297.length : Int)
           ·rw [if_pos c17] at H
            have c17b0 : decide (3 < (t297.length : Int)) = true := decide_eq_true c17
            have c17b1 : decide (3 < t297.length) = true := decide_eq_true (by omega)
            clear c17
            by_cases c18 : ((rd_L2 t297 3).length : Int) = 2
            ·rw [if_pos c18] at H
             have c18b0 : (((rd_L2 t297 3).length : Int) == 2) = true := beq_iff_eq.mpr c18
             have c18b1 : (((rd_L2 t297 3).length : Int) != 2) = false := bne_eq_false_iff_eq.mpr c18
             clear c18
             by_cases c19 : 0 < (t297.length : Int)
             ·rw [if_pos c19] at H
              have c19b0 : decide (0 < (t297.length : Int)) = true := decide_eq_true c19
              have c19b1 : decide (0 < t297.length) = true := decide_eq_true (by omega)
              clear c19
              by_cases c20 : ((rd_L2 t297 0).length : Int) = 1
              ·rw [if_pos c20] at H
               have c20b0 : (((rd_L2 t297 0).length : Int) == 1) = true := beq_iff_eq.mpr c20
               have c20b1 : (((rd_L2 t297 0).length : Int) != 1) = false := bne_eq_false_iff_eq.mpr c20
               clear c20
               by_cases c21 : (t300.length : Int) = 2
               ·rw [if_pos c21] at H
                have c21b0 : ((t300.length : Int) == 2) = true := beq_iff_eq.mpr c21
                have c21b1 : ((t300.length : Int) != 2) = false := bne_eq_false_iff_eq.mpr c21
                clear c21
                by_cases c22 : 0 < (t300.length : Int)
                ·rw [if_pos c22] at H
                 have c22b0 : decide (0 < (t300.length : Int)) = true := decide_eq_true c22
                 have c22b1 : decide (0 < t300.length) = true := decide_eq_true (by omega)
                 clear c22
                 by_cases c23 : (rd t300 0) = (-1)
                 ·rw [if_pos c23] at H
                  have c23b0 : ((rd t300 0) == (-1)) = true := beq_iff_eq.mpr c23
                  have c23b1 : ((rd t300 0) != (-1)) = false := bne_eq_false_iff_eq.mpr c23
                  clear c23
                  by_cases c24 : 1 < (t300.length : Int)
                  ·rw [if_pos c24] at H
                   have c24b0 : decide (1 < (t300.length : Int)) = true := decide_eq_true c24
                   have c24b1 : decide (1 < t300.length) = true := decide_eq_true (by omega)
                   clear c24
                   by_cases c25 : (rd t300 1) = 0
                   ·rw [if_pos c25] at H
                    have c25b0 : ((rd t300 1) == 0) = true := beq_iff_eq.mpr c25
                    have c25b1 : ((rd t300 1) != 0) = false := bne_eq_false_iff_eq.mpr c25
                    clear c25
                    by_cases c26 : (t303.length : Int) = 5
                    ·rw [if_pos c26] at H
                     have c26b0 : ((t303.length : Int) == 5) = true := beq_iff_eq.mpr c26
                     have c26b1 : ((t303.length : Int) != 5) = false := bne_eq_false_iff_eq.mpr c26
                     clear c26
                     by_cases c27 : 3 < (t303.length : Int)
                     ·rw [if_pos c27] at H
                      have c27b0 : decide (3 < (t303.length : Int)) = true := decide_eq_true c27
                      have c27b1 : decide (3 < t303.length) = true := decide_eq_true (by omega)
                      clear c27
                      obtain ⟨bq28, hbq28⟩ : ∃ b_ : Bool, b_ = (rdOf false t303 3) := ⟨_, rfl⟩
                      replace H : (if bq28 = true then (if 4 < (t303.length : Int) then (if rdOf false t303 4 = true then (none) else (if (t306.length : Int) = 2 then ((flow_Back.f t279 t280 t283 t284 t287 t290).bind fun t319 => (some ((t319.length : Int) == 0))) else (none))) else (none)) else (none)) = some r := by rw [← hbq28] at H; exact H
                      have Nbq28 := Aside0.mk hbq28
                      clear hbq28
                      by_cases c29 : bq28 = true
                      ·subst c29
                       have H1 : (if 4 < (t303.length : Int) then (if rdOf false t303 4 = true then (none) else (if (t306.length : Int) = 2 then ((flow_Back.f t279 t280 t283 t284 t287 t290).bind fun t319 => (some ((t319.length : Int) == 0))) else (none))) else (none)) = some r := by rw [if_pos rfl] at H; exact H
                       clear H
                       have H := H1
                       clear H1
                       by_cases c30 : 4 < (t303.length : Int)
                       ·rw [if_pos c30] at H
                        have c30b0 : decide (4 < (t303.length : Int)) = true := decide_eq_true c30
                        have c30b1 : decide (4 < t303.length) = true := decide_eq_true (by omega)
                        clear c30
                        obtain ⟨bq31, hbq31⟩ : ∃ b_ : Bool, b_ = (rdOf false t303 4) := ⟨_, rfl⟩
                        replace H : (if bq31 = true then (none) else (if (t306.length : Int) = 2 then ((flow_Back.f t279 t280 t283 t284 t287 t290).bind fun t319 => (some ((t319.length : Int) == 0))) else (none))) = some r := by rw [← hbq31] at H; exact H
                        have Nbq31 := Aside0.mk hbq31
                        clear hbq31
                        by_cases c32 : bq31 = true
                        ·subst c32
                         have H1 : (none) = some r := by rw [if_pos rfl] at H; exact H
                         clear H
                         have H := H1
                         clear H1
                         exact absurd H (by simp)
                        ·replace c32 := Bool.eq_false_iff.mpr c32
                         subst c32
                         have H1 : (if (t306.length : Int) = 2 then ((flow_Back.f t279 t280 t283 t284 t287 t290).bind fun t319 => (some ((t319.length : Int) == 0))) else (none)) = some r := by rw [if_neg (show ¬ (false = true) by decide)] at H; exact H
                         clear H
                         have H := H1
                         clear H1
                         by_cases c33 : (t306.length : Int) = 2
                         ·rw [if_pos c33] at H
                          have c33b0 : ((t306.length : Int) == 2) = true := beq_iff_eq.mpr c33
                          have c33b1 : ((t306.length : Int) != 2) = false := bne_eq_false_iff_eq.mpr c33
                          clear c33
                          replace H := Option.bind_eq_some_iff.mp H
                          obtain ⟨t319, A340, H⟩ := H
                          replace H : (some ((t319.length : Int) == 0)) = some r := H
                          have A34 := Aside0.mk A340
                          clear A340
                          obtain rfl := Option.some.inj H
                          go_enter Try.func14, Try.ntmps14
                          go_wp2_with (first | ((with_reducible refine gate_callee (f := 48) rfl ?_); refine goesL_ (some 7) rfl rfl Try.func48 (by kernel_rfl) rfl #[] rfl (by (try simp only [List.map_toArray, List.map_cons, List.map_nil]); first | done | rfl | (simp only [List.length_drop, List.length_take]; rfl)) ?_; (with_reducible refine (truantlaw09_four.calls  t279 t280 t283 t284 t287 t290 _ A1.out).mono ?_); rintro e w35 ⟨v281, v285, v288, v291, rfl, ho0, ho1, ho2, ho3, hb⟩; refine ⟨_, rfl, ?_⟩; have n0_ := Aside0.mk (Kd.R_lower (Kd.R_mono (ok' := fun k_ => some k_ ≠ (v285 : Value).ownBlock) ho0 (fun _ hk_ => hk_.2)) (below_size (by repeat (first | (with_reducible first | exact HB.out | apply below_alloc | apply pw_below_drewN | apply below_drew1) | exact HB.out)))); have n1_ := Aside0.mk (Kd.R_lower (Kd.R_mono (ok' := fun k_ => some k_ ≠ (v281 : Value).ownBlock) ho1 (fun _ hk_ => hk_.2)) (below_size (by repeat (first | (with_reducible first | exact HB.out | apply below_alloc | apply pw_below_drewN | apply below_drew1) | exact HB.out)))); have n2_ := Aside0.mk (Kd.N_lower (Kd.N_mono (ok' := fun k_ => some k_ ≠ (v281 : Value).ownBlock ∧ some k_ ≠ (v285 : Value).ownBlock ∧ some k_ ≠ (v291 : Value).ownBlock) ho2 (fun k_ hk_ => ⟨hk_.2.1, hk_.2.2.1, hk_.2.2.2⟩)) (below_size (by repeat (first | (with_reducible first | exact HB.out | apply below_alloc | apply pw_below_drewN | apply below_drew1) | exact HB.out)))); have n3_ := Aside0.mk (Kd.N_lower (Kd.N_mono (ok' := fun k_ => some k_ ≠ (v281 : Value).ownBlock ∧ some k_ ≠ (v285 : Value).ownBlock ∧ some k_ ≠ (v288 : Value).ownBlock) ho3 (fun k_ hk_ => ⟨hk_.2.1, hk_.2.2.1, hk_.2.2.2⟩)) (below_size (by repeat (first | (with_reducible first | exact HB.out | apply below_alloc | apply pw_below_drewN | apply below_drew1) | exact HB.out)))); have n4_ := Aside0.mk (below_step (by repeat (first | (with_reducible first | exact HB.out | apply below_alloc | apply pw_below_drewN | apply below_drew1) | exact HB.out)) hb); clear HB; have HO282 := n0_; have HO286 := n1_; have HO289 := n2_; have HO292 := n3_; have HB := n4_; clear n0_ n1_ n2_ n3_ n4_; (try clear hb); (try clear hb2); (try clear hk); (try clear hi); (try clear ho0); (try clear ho1); (try clear ho2); (try clear ho3)) | ((with_reducible refine gate_dst (N := 1) rfl ?_); (try (refine gate_guard (by rfl) ?_; dsimp only)); refine box_event ?hg (N := 1) ?hd (cs := #[.string (⟨#[]⟩ : ByteArray), .slice none 0 0, .string (⟨#[]⟩ : ByteArray), .slice none 0 0, .slice none 0 0, .slice none 0 0]) (t := 26) ?hr ?_; (case hd => rfl); (case hg => rfl); (case hr => first | (go_simp; done) | (go_simp; rfl)); intro gb293 hg w36 hbox hb; have n0_ := Aside0.mk (Kd.R_below (by (with_reducible repeat (first | apply Kd.R_alloc | apply Kd.R_drewN | apply Kd.R_drew)); exact HO282.out) hb); have n1_ := Aside0.mk (Kd.R_below (by (with_reducible repeat (first | apply Kd.R_alloc | apply Kd.R_drewN | apply Kd.R_drew)); exact HO286.out) hb); have n2_ := Aside0.mk (Kd.N_below (Kd.N_elderB (by (with_reducible repeat (first | apply Kd.N_alloc | apply Kd.N_drewN | apply Kd.N_drew)); exact HO289.out) gb293 (Nat.le_of_eq hg.symm)) hb); have n3_ := Aside0.mk (Kd.N_below (Kd.N_elderB (by (with_reducible repeat (first | apply Kd.N_alloc | apply Kd.N_drewN | apply Kd.N_drew)); exact HO292.out) gb293 (Nat.le_of_eq hg.symm)) hb); have n4_ := Aside0.mk (below_step (by repeat (first | (with_reducible first | exact HB.out | apply below_alloc | apply pw_below_drewN | apply below_drew1) | exact HB.out)) hb); have n5_ := Aside0.mk (hbox); have n6_ := Aside0.mk ((by rw [hg]; exact (below_size (by repeat (first | (with_reducible first | exact HB.out | apply below_alloc | apply pw_below_drewN | apply below_drew1) | exact HB.out))) : w.heap.size ≤ gb293)); have n7_ := Aside0.mk ((by rw [hg]; exact (below_size (by repeat (first | (with_reducible first | exact HB.out | apply below_alloc | apply pw_below_drewN | apply below_drew1) | exact HB.out))) : w.heap.size ≤ gb293)); clear HO282; clear HO286; clear HO289; clear HO292; clear HB; have HO282 := n0_; have HO286 := n1_; have HO289 := n2_; have HO292 := n3_; have HB := n4_; have BK293 := n5_; have GW293 := n6_; have GE293 := n7_; clear n0_ n1_ n2_ n3_ n4_ n5_ n6_ n7_; clear hb hbox hg; have hcz37_0 : w36.cell? ⟨gb293, 0, none⟩ = some (.string (⟨#[]⟩ : ByteArray)) := (blk_cell BK293.out 0).trans rfl; have hcz37_1 : w36.cell? ⟨gb293, 1, none⟩ = some (.slice none 0 0) := (blk_cell BK293.out 1).trans rfl; have hcz37_2 : w36.cell? ⟨gb293, 2, none⟩ = some (.string (⟨#[]⟩ : ByteArray)) := (blk_cell BK293.out 2).trans rfl; have hcz37_3 : w36.cell? ⟨gb293, 3, none⟩ = some (.slice none 0 0) := (blk_cell BK293.out 3).trans rfl; have hcz37_4 : w36.cell? ⟨gb293, 4, none⟩ = some (.slice none 0 0) := (blk_cell BK293.out 4).trans rfl; have hcz37_5 : w36.cell? ⟨gb293, 5, none⟩ = some (.slice none 0 0) := (blk_cell BK293.out 5).trans rfl; have hfz37_0 := blk_frozen BK293.out 0; have hfz37_1 := blk_frozen BK293.out 1; have hfz37_2 := blk_frozen BK293.out 2; have hfz37_3 := blk_frozen BK293.out 3; have hfz37_4 := blk_frozen BK293.out 4; have hfz37_5 := blk_frozen BK293.out 5; obtain ⟨Ao38, co38, eo38⟩ := Kd.R_slice HO282.out; subst eo38; obtain ⟨Ao39, co39, eo39⟩ := Kd.R_slice HO286.out; subst eo39; obtain ⟨Ao40, co40, eo40⟩ := Kd.N_slice HO289.out; subst eo40; obtain ⟨Ao41, co41, eo41⟩ := Kd.N_slice HO292.out; subst eo41) | ((with_reducible refine gate_callee (f := 22) rfl ?_); refine goesL_ (some 9) rfl rfl Try.func22 (by kernel_rfl) rfl #[.agg #[.string t279, .slice Ao38 t280.length co38, .string t283, .slice Ao39 t284.length co39, .slice Ao40 t287.length co40, .slice Ao41 t290.length co41]] rfl (by (try simp only [List.map_toArray, List.map_cons, List.map_nil]); first | done | rfl | (simp only [List.length_drop, List.length_take]; rfl)) ?_; (with_reducible refine (flow_Order.calls t279 _ _ t280 t283 _ _ t284 _ _ t287 _ _ t290 t294 _ ?side1 ?side2 ?side3 ?side4 ?side5 ?side6 ?side7 ?side8 A2.out).mono ?_); (case side1 => refine (Kd.R_reads' (e := 9) (base := w.heap.size) (ok := fun k_ => some k_ ≠ (.slice Ao39 t284.length co39 : Value).ownBlock) (n := t280.length) (c := co38) ?_).2.2; exact (by (with_reducible repeat (first | apply Kd.R_alloc | apply Kd.R_drewN | apply Kd.R_drew)); exact (Kd.R_mono (Kd.R_far (p := ⟨gb293, 5, none⟩) (Kd.R_far (p := ⟨gb293, 4, none⟩) (Kd.R_far (p := ⟨gb293, 3, none⟩) (Kd.R_far (p := ⟨gb293, 2, none⟩) (Kd.R_far (p := ⟨gb293, 1, none⟩) (Kd.R_far (p := ⟨gb293, 0, none⟩) (Kd.R_types HO282.out BK293.out (by decide)) (fun _ hk => hk.2) (.string t279)) (fun _ hk => hk.2) (.slice Ao38 t280.length co38)) (fun _ hk => hk.2) (.string t283)) (fun _ hk => hk.2) (.slice Ao39 t284.length co39)) (fun _ hk => hk.2) (.slice Ao40 t287.length co40)) (fun _ hk => hk.2) (.slice Ao41 t290.length co41)) (fun _ h_ => h_.1)))); (case side2 => exact (Kd.R_reads' HO282.out).2.1); (case side3 => refine (Kd.R_reads' (e := 9) (base := w.heap.size) (ok := fun k_ => some k_ ≠ (.slice Ao38 t280.length co38 : Value).ownBlock) (n := t284.length) (c := co39) ?_).2.2; exact (by (with_reducible repeat (first | apply Kd.R_alloc | apply Kd.R_drewN | apply Kd.R_drew)); exact (Kd.R_mono (Kd.R_far (p := ⟨gb293, 5, none⟩) (Kd.R_far (p := ⟨gb293, 4, none⟩) (Kd.R_far (p := ⟨gb293, 3, none⟩) (Kd.R_far (p := ⟨gb293, 2, none⟩) (Kd.R_far (p := ⟨gb293, 1, none⟩) (Kd.R_far (p := ⟨gb293, 0, none⟩) (Kd.R_types HO286.out BK293.out (by decide)) (fun _ hk => hk.2) (.string t279)) (fun _ hk => hk.2) (.slice Ao38 t280.length co38)) (fun _ hk => hk.2) (.string t283)) (fun _ hk => hk.2) (.slice Ao39 t284.length co39)) (fun _ hk => hk.2) (.slice Ao40 t287.length co40)) (fun _ hk => hk.2) (.slice Ao41 t290.length co41)) (fun _ h_ => h_.1)))); (case side4 => exact (Kd.R_reads' HO286.out).2.1); (case side5 => refine (Kd.N_reads' (e := 58) (base := w.heap.size) (ok := fun k_ => ((some k_ ≠ (.slice Ao38 t280.length co38 : Value).ownBlock ∧ (some k_ ≠ (.slice Ao39 t284.length co39 : Value).ownBlock ∧ some k_ ≠ (.slice Ao41 t290.length co41 : Value).ownBlock)) ∧ k_ ≠ gb293)) (n := t287.length) (c := co40) ?_).2.2; exact (by (with_reducible repeat (first | apply Kd.N_alloc | apply Kd.N_drewN | apply Kd.N_drew)); exact (Kd.N_mono (Kd.N_far (p := ⟨gb293, 5, none⟩) (Kd.N_far (p := ⟨gb293, 4, none⟩) (Kd.N_far (p := ⟨gb293, 3, none⟩) (Kd.N_far (p := ⟨gb293, 2, none⟩) (Kd.N_far (p := ⟨gb293, 1, none⟩) (Kd.N_far (p := ⟨gb293, 0, none⟩) (Kd.N_mono HO289.out (fun k_ hk => (⟨hk, hk.2⟩ : _ ∧ k_ ≠ gb293))) (fun _ hk => hk.2) (.string t279)) (fun _ hk => hk.2) (.slice Ao38 t280.length co38)) (fun _ hk => hk.2) (.string t283)) (fun _ hk => hk.2) (.slice Ao39 t284.length co39)) (fun _ hk => hk.2) (.slice Ao40 t287.length co40)) (fun _ hk => hk.2) (.slice Ao41 t290.length co41)) (fun _ h_ => h_.1)))); (case side6 => exact (Kd.N_reads' HO289.out).2.1); (case side7 => refine (Kd.N_reads' (e := 40) (base := w.heap.size) (ok := fun k_ => ((some k_ ≠ (.slice Ao38 t280.length co38 : Value).ownBlock ∧ (some k_ ≠ (.slice Ao39 t284.length co39 : Value).ownBlock ∧ some k_ ≠ (.slice Ao40 t287.length co40 : Value).ownBlock)) ∧ k_ ≠ gb293)) (n := t290.length) (c := co41) ?_).2.2; exact (by (with_reducible repeat (first | apply Kd.N_alloc | apply Kd.N_drewN | apply Kd.N_drew)); exact (Kd.N_mono (Kd.N_far (p := ⟨gb293, 5, none⟩) (Kd.N_far (p := ⟨gb293, 4, none⟩) (Kd.N_far (p := ⟨gb293, 3, none⟩) (Kd.N_far (p := ⟨gb293, 2, none⟩) (Kd.N_far (p := ⟨gb293, 1, none⟩) (Kd.N_far (p := ⟨gb293, 0, none⟩) (Kd.N_mono HO292.out (fun k_ hk => (⟨hk, hk.2⟩ : _ ∧ k_ ≠ gb293))) (fun _ hk => hk.2) (.string t279)) (fun _ hk => hk.2) (.slice Ao38 t280.length co38)) (fun _ hk => hk.2) (.string t283)) (fun _ hk => hk.2) (.slice Ao39 t284.length co39)) (fun _ hk => hk.2) (.slice Ao40 t287.length co40)) (fun _ hk => hk.2) (.slice Ao41 t290.length co41)) (fun _ h_ => h_.1)))); (case side8 => exact (Kd.N_reads' HO292.out).2.1); rintro e w42 ⟨v295, rfl, ho0, hb⟩; refine ⟨_, rfl, ?_⟩; have n0_ := Aside0.mk (Kd.R_below (by (with_reducible repeat (first | apply Kd.R_alloc | apply Kd.R_drewN | apply Kd.R_drew)); exact (Kd.R_mono (Kd.R_far (p := ⟨gb293, 5, none⟩) (Kd.R_far (p := ⟨gb293, 4, none⟩) (Kd.R_far (p := ⟨gb293, 3, none⟩) (Kd.R_far (p := ⟨gb293, 2, none⟩) (Kd.R_far (p := ⟨gb293, 1, none⟩) (Kd.R_far (p := ⟨gb293, 0, none⟩) (Kd.R_types HO282.out BK293.out (by decide)) (fun _ hk => hk.2) (.string t279)) (fun _ hk => hk.2) (.slice Ao38 t280.length co38)) (fun _ hk => hk.2) (.string t283)) (fun _ hk => hk.2) (.slice Ao39 t284.length co39)) (fun _ hk => hk.2) (.slice Ao40 t287.length co40)) (fun _ hk => hk.2) (.slice Ao41 t290.length co41)) (fun _ h_ => h_.1))) hb); have n1_ := Aside0.mk (Kd.R_below (by (with_reducible repeat (first | apply Kd.R_alloc | apply Kd.R_drewN | apply Kd.R_drew)); exact (Kd.R_mono (Kd.R_far (p := ⟨gb293, 5, none⟩) (Kd.R_far (p := ⟨gb293, 4, none⟩) (Kd.R_far (p := ⟨gb293, 3, none⟩) (Kd.R_far (p := ⟨gb293, 2, none⟩) (Kd.R_far (p := ⟨gb293, 1, none⟩) (Kd.R_far (p := ⟨gb293, 0, none⟩) (Kd.R_types HO286.out BK293.out (by decide)) (fun _ hk => hk.2) (.string t279)) (fun _ hk => hk.2) (.slice Ao38 t280.length co38)) (fun _ hk => hk.2) (.string t283)) (fun _ hk => hk.2) (.slice Ao39 t284.length co39)) (fun _ hk => hk.2) (.slice Ao40 t287.length co40)) (fun _ hk => hk.2) (.slice Ao41 t290.length co41)) (fun _ h_ => h_.1))) hb); have n2_ := Aside0.mk (Kd.N_elder' (by (with_reducible repeat (first | apply Kd.N_alloc | apply Kd.N_drewN | apply Kd.N_drew)); exact (Kd.N_mono (Kd.N_far (p := ⟨gb293, 5, none⟩) (Kd.N_far (p := ⟨gb293, 4, none⟩) (Kd.N_far (p := ⟨gb293, 3, none⟩) (Kd.N_far (p := ⟨gb293, 2, none⟩) (Kd.N_far (p := ⟨gb293, 1, none⟩) (Kd.N_far (p := ⟨gb293, 0, none⟩) (Kd.N_mono HO289.out (fun k_ hk => (⟨hk, hk.2⟩ : _ ∧ k_ ≠ gb293))) (fun _ hk => hk.2) (.string t279)) (fun _ hk => hk.2) (.slice Ao38 t280.length co38)) (fun _ hk => hk.2) (.string t283)) (fun _ hk => hk.2) (.slice Ao39 t284.length co39)) (fun _ hk => hk.2) (.slice Ao40 t287.length co40)) (fun _ hk => hk.2) (.slice Ao41 t290.length co41)) (fun _ h_ => h_.1))) (Kd.R_base ho0) hb); have n3_ := Aside0.mk (Kd.N_elder' (by (with_reducible repeat (first | apply Kd.N_alloc | apply Kd.N_drewN | apply Kd.N_drew)); exact (Kd.N_mono (Kd.N_far (p := ⟨gb293, 5, none⟩) (Kd.N_far (p := ⟨gb293, 4, none⟩) (Kd.N_far (p := ⟨gb293, 3, none⟩) (Kd.N_far (p := ⟨gb293, 2, none⟩) (Kd.N_far (p := ⟨gb293, 1, none⟩) (Kd.N_far (p := ⟨gb293, 0, none⟩) (Kd.N_mono HO292.out (fun k_ hk => (⟨hk, hk.2⟩ : _ ∧ k_ ≠ gb293))) (fun _ hk => hk.2) (.string t279)) (fun _ hk => hk.2) (.slice Ao38 t280.length co38)) (fun _ hk => hk.2) (.string t283)) (fun _ hk => hk.2) (.slice Ao39 t284.length co39)) (fun _ hk => hk.2) (.slice Ao40 t287.length co40)) (fun _ hk => hk.2) (.slice Ao41 t290.length co41)) (fun _ h_ => h_.1))) (Kd.R_base ho0) hb); have n4_ := Aside0.mk (Kd.R_lower ho0 (below_size (by repeat (first | (with_reducible first | exact HB.out | apply below_alloc | apply pw_below_drewN | apply below_drew1 | refine below_set ?_ GE293.out) | exact HB.out)))); have n5_ := Aside0.mk (blk_below (g := gb293) (o := .cells #[.string t279, .slice Ao38 t280.length co38, .string t283, .slice Ao39 t284.length co39, .slice Ao40 t287.length co40, .slice Ao41 t290.length co41] 26 (0, 0)) (by (with_reducible repeat (first | refine blk_drewN ?_ _ | refine blk_drew ?_ | refine blk_alloc ?_ _)); refine blk_put (cs := #[.string t279, .slice Ao38 t280.length co38, .string t283, .slice Ao39 t284.length co39, .slice Ao40 t287.length co40, .slice none 0 0]) ?_ 5 _ rfl; (with_reducible repeat (first | refine blk_drewN ?_ _ | refine blk_drew ?_ | refine blk_alloc ?_ _)); refine blk_put (cs := #[.string t279, .slice Ao38 t280.length co38, .string t283, .slice Ao39 t284.length co39, .slice none 0 0, .slice none 0 0]) ?_ 4 _ rfl; (with_reducible repeat (first | refine blk_drewN ?_ _ | refine blk_drew ?_ | refine blk_alloc ?_ _)); refine blk_put (cs := #[.string t279, .slice Ao38 t280.length co38, .string t283, .slice none 0 0, .slice none 0 0, .slice none 0 0]) ?_ 3 _ rfl; (with_reducible repeat (first | refine blk_drewN ?_ _ | refine blk_drew ?_ | refine blk_alloc ?_ _)); refine blk_put (cs := #[.string t279, .slice Ao38 t280.length co38, .string (⟨#[]⟩ : ByteArray), .slice none 0 0, .slice none 0 0, .slice none 0 0]) ?_ 2 _ rfl; (with_reducible repeat (first | refine blk_drewN ?_ _ | refine blk_drew ?_ | refine blk_alloc ?_ _)); refine blk_put (cs := #[.string t279, .slice none 0 0, .string (⟨#[]⟩ : ByteArray), .slice none 0 0, .slice none 0 0, .slice none 0 0]) ?_ 1 _ rfl; (with_reducible repeat (first | refine blk_drewN ?_ _ | refine blk_drew ?_ | refine blk_alloc ?_ _)); refine blk_put (cs := #[.string (⟨#[]⟩ : ByteArray), .slice none 0 0, .string (⟨#[]⟩ : ByteArray), .slice none 0 0, .slice none 0 0, .slice none 0 0]) ?_ 0 _ rfl; (with_reducible repeat (first | refine blk_drewN ?_ _ | refine blk_drew ?_ | refine blk_alloc ?_ _)); exact BK293.out) hb); have n6_ := Aside0.mk (below_step (by repeat (first | (with_reducible first | exact HB.out | apply below_alloc | apply pw_below_drewN | apply below_drew1 | refine below_set ?_ GE293.out) | exact HB.out)) hb); clear HO282; clear HO286; clear HO289; clear HO292; clear BK293; clear HB; have HO282 := n0_; have HO286 := n1_; have HO289 := n2_; have HO292 := n3_; have HO296 := n4_; have BK293 := n5_; have HB := n6_; clear n0_ n1_ n2_ n3_ n4_ n5_ n6_; (try clear hb); (try clear hb2); (try clear hk); (try clear hi); (try clear ho0); have hcz43_0 : w42.cell? ⟨gb293, 0, none⟩ = some (.string t279) := (blk_cell BK293.out 0).trans rfl; have hcz43_1 : w42.cell? ⟨gb293, 1, none⟩ = some (.slice Ao38 t280.length co38) := (blk_cell BK293.out 1).trans rfl; have hcz43_2 : w42.cell? ⟨gb293, 2, none⟩ = some (.string t283) := (blk_cell BK293.out 2).trans rfl; have hcz43_3 : w42.cell? ⟨gb293, 3, none⟩ = some (.slice Ao39 t284.length co39) := (blk_cell BK293.out 3).trans rfl; have hcz43_4 : w42.cell? ⟨gb293, 4, none⟩ = some (.slice Ao40 t287.length co40) := (blk_cell BK293.out 4).trans rfl; have hcz43_5 : w42.cell? ⟨gb293, 5, none⟩ = some (.slice Ao41 t290.length co41) := (blk_cell BK293.out 5).trans rfl; have hfz43_0 := blk_frozen BK293.out 0; have hfz43_1 := blk_frozen BK293.out 1; have hfz43_2 := blk_frozen BK293.out 2; have hfz43_3 := blk_frozen BK293.out 3; have hfz43_4 := blk_frozen BK293.out 4; have hfz43_5 := blk_frozen BK293.out 5) | ((with_reducible refine gate_callee (f := 16) rfl ?_); refine goesL_ (some 11) rfl rfl Try.func16 (by kernel_rfl) rfl #[.agg #[.string t279, .slice Ao38 t280.length co38, .string t283, .slice Ao39 t284.length co39, .slice Ao40 t287.length co40, .slice Ao41 t290.length co41]] rfl (by (try simp only [List.map_toArray, List.map_cons, List.map_nil]); first | done | rfl | (simp only [List.length_drop, List.length_take]; rfl)) ?_; (with_reducible refine (flow_Ahead.calls k t279 _ _ t280 t283 _ _ t284 _ _ t287 _ _ t290 t297 _ ?side1 ?side2 ?side3 ?side4 ?side5 ?side6 ?side7 ?side8 A3.out).mono ?_); (case side1 => repeat (first | exact (Kd.R_reads' HO282.out).2.2 | (with_reducible refine Kd.C_alloc ?_ _) | (with_reducible refine Kd.C_drewN ?_ _) | (with_reducible refine Kd.C_drew ?_))); (case side2 => exact (Kd.R_reads' HO282.out).2.1); (case side3 => repeat (first | exact (Kd.R_reads' HO286.out).2.2 | (with_reducible refine Kd.C_alloc ?_ _) | (with_reducible refine Kd.C_drewN ?_ _) | (with_reducible refine Kd.C_drew ?_))); (case side4 => exact (Kd.R_reads' HO286.out).2.1); (case side5 => repeat (first | exact (Kd.N_reads' HO289.out).2.2 | (with_reducible refine Kd.C_alloc ?_ _) | (with_reducible refine Kd.C_drewN ?_ _) | (with_reducible refine Kd.C_drew ?_))); (case side6 => exact (Kd.N_reads' HO289.out).2.1); (case side7 => repeat (first | exact (Kd.N_reads' HO292.out).2.2 | (with_reducible refine Kd.C_alloc ?_ _) | (with_reducible refine Kd.C_drewN ?_ _) | (with_reducible refine Kd.C_drew ?_))); (case side8 => exact (Kd.N_reads' HO292.out).2.1); rintro e w44 ⟨v298, rfl, ho0, hb⟩; refine ⟨_, rfl, ?_⟩; have n0_ := Aside0.mk (Kd.R_below (by (with_reducible repeat (first | apply Kd.R_alloc | apply Kd.R_drewN | apply Kd.R_drew)); exact HO282.out) hb); have n1_ := Aside0.mk (Kd.R_below (by (with_reducible repeat (first | apply Kd.R_alloc | apply Kd.R_drewN | apply Kd.R_drew)); exact HO286.out) hb); have n2_ := Aside0.mk (Kd.N_elder' (by (with_reducible repeat (first | apply Kd.N_alloc | apply Kd.N_drewN | apply Kd.N_drew)); exact HO289.out) (by first | exact Kd.N_base ho0 | exact Kd.S_base ho0 | exact Kd.R_base ho0) hb); have n3_ := Aside0.mk (Kd.N_elder' (by (with_reducible repeat (first | apply Kd.N_alloc | apply Kd.N_drewN | apply Kd.N_drew)); exact HO292.out) (by first | exact Kd.N_base ho0 | exact Kd.S_base ho0 | exact Kd.R_base ho0) hb); have n4_ := Aside0.mk (Kd.R_below (by (with_reducible repeat (first | apply Kd.R_alloc | apply Kd.R_drewN | apply Kd.R_drew)); exact HO296.out) hb); have n5_ := Aside0.mk (Kd.N_lower (Kd.N_mono (ok' := fun k_ => some k_ ≠ (.slice Ao38 t280.length co38 : Value).ownBlock ∧ some k_ ≠ (.slice Ao39 t284.length co39 : Value).ownBlock ∧ some k_ ≠ (.slice Ao40 t287.length co40 : Value).ownBlock ∧ some k_ ≠ (.slice Ao41 t290.length co41 : Value).ownBlock ∧ some k_ ≠ (v295 : Value).ownBlock ∧ k_ ≠ gb293) (Kd.S_N (Kd.S_bound ho0)) (fun k_ hk_ => ⟨(Kd.fresh' (Kd.R_lt (by (with_reducible repeat (first | apply Kd.R_alloc | apply Kd.R_drewN | apply Kd.R_drew)); exact HO282.out)) k_ hk_.2.1), (Kd.fresh' (Kd.R_lt (by (with_reducible repeat (first | apply Kd.R_alloc | apply Kd.R_drewN | apply Kd.R_drew)); exact HO286.out)) k_ hk_.2.1), (Kd.fresh' (Kd.N_lt (by (with_reducible repeat (first | apply Kd.N_alloc | apply Kd.N_drewN | apply Kd.N_drew)); exact HO289.out)) k_ hk_.2.1), (Kd.fresh' (Kd.N_lt (by (with_reducible repeat (first | apply Kd.N_alloc | apply Kd.N_drewN | apply Kd.N_drew)); exact HO292.out)) k_ hk_.2.1), (Kd.fresh' (Kd.R_lt (by (with_reducible repeat (first | apply Kd.R_alloc | apply Kd.R_drewN | apply Kd.R_drew)); exact HO296.out)) k_ hk_.2.1), (Kd.freshB (g := gb293) (o := .cells #[.string t279, .slice Ao38 t280.length co38, .string t283, .slice Ao39 t284.length co39, .slice Ao40 t287.length co40, .slice Ao41 t290.length co41] 26 (0, 0)) (by (with_reducible repeat (first | refine blk_drewN ?_ _ | refine blk_drew ?_ | refine blk_alloc ?_ _)); exact BK293.out) k_ hk_.2.1)⟩)) (below_size (by repeat (first | (with_reducible first | exact HB.out | apply below_alloc | apply pw_below_drewN | apply below_drew1 | refine below_set ?_ GE293.out) | exact HB.out)))); have n6_ := Aside0.mk (blk_below (g := gb293) (o := .cells #[.string t279, .slice Ao38 t280.length co38, .string t283, .slice Ao39 t284.length co39, .slice Ao40 t287.length co40, .slice Ao41 t290.length co41] 26 (0, 0)) (by (with_reducible repeat (first | refine blk_drewN ?_ _ | refine blk_drew ?_ | refine blk_alloc ?_ _)); exact BK293.out) hb); have n7_ := Aside0.mk (below_step (by repeat (first | (with_reducible first | exact HB.out | apply below_alloc | apply pw_below_drewN | apply below_drew1 | refine below_set ?_ GE293.out) | exact HB.out)) hb); clear HO282; clear HO286; clear HO289; clear HO292; clear HO296; clear BK293; clear HB; have HO282 := n0_; have HO286 := n1_; have HO289 := n2_; have HO292 := n3_; have HO296 := n4_; have HO299 := n5_; have BK293 := n6_; have HB := n7_; clear n0_ n1_ n2_ n3_ n4_ n5_ n6_ n7_; (try clear hb); (try clear hb2); (try clear hk); (try clear hi); (try clear ho0); have hcz45_0 : w44.cell? ⟨gb293, 0, none⟩ = some (.string t279) := (blk_cell BK293.out 0).trans rfl; have hcz45_1 : w44.cell? ⟨gb293, 1, none⟩ = some (.slice Ao38 t280.length co38) := (blk_cell BK293.out 1).trans rfl; have hcz45_2 : w44.cell? ⟨gb293, 2, none⟩ = some (.string t283) := (blk_cell BK293.out 2).trans rfl; have hcz45_3 : w44.cell? ⟨gb293, 3, none⟩ = some (.slice Ao39 t284.length co39) := (blk_cell BK293.out 3).trans rfl; have hcz45_4 : w44.cell? ⟨gb293, 4, none⟩ = some (.slice Ao40 t287.length co40) := (blk_cell BK293.out 4).trans rfl; have hcz45_5 : w44.cell? ⟨gb293, 5, none⟩ = some (.slice Ao41 t290.length co41) := (blk_cell BK293.out 5).trans rfl; have hfz45_0 := blk_frozen BK293.out 0; have hfz45_1 := blk_frozen BK293.out 1; have hfz45_2 := blk_frozen BK293.out 2; have hfz45_3 := blk_frozen BK293.out 3; have hfz45_4 := blk_frozen BK293.out 4; have hfz45_5 := blk_frozen BK293.out 5) | ((with_reducible refine gate_callee (f := 25) rfl ?_); refine goesL_ (some 13) rfl rfl Try.func25 (by kernel_rfl) rfl #[.agg #[.string t279, .slice Ao38 t280.length co38, .string t283, .slice Ao39 t284.length co39, .slice Ao40 t287.length co40, .slice Ao41 t290.length co41]] rfl (by (try simp only [List.map_toArray, List.map_cons, List.map_nil]); first | done | rfl | (simp only [List.length_drop, List.length_take]; rfl)) ?_; (with_reducible refine (flow_Where.calls k t279 _ _ t280 t283 _ _ t284 _ _ t287 _ _ t290 t300 _ ?side1 ?side2 ?side3 ?side4 ?side5 ?side6 ?side7 ?side8 A4.out).mono ?_); (case side1 => repeat (first | exact (Kd.R_reads' HO282.out).2.2 | (with_reducible refine Kd.C_alloc ?_ _) | (with_reducible refine Kd.C_drewN ?_ _) | (with_reducible refine Kd.C_drew ?_))); (case side2 => exact (Kd.R_reads' HO282.out).2.1); (case side3 => repeat (first | exact (Kd.R_reads' HO286.out).2.2 | (with_reducible refine Kd.C_alloc ?_ _) | (with_reducible refine Kd.C_drewN ?_ _) | (with_reducible refine Kd.C_drew ?_))); (case side4 => exact (Kd.R_reads' HO286.out).2.1); (case side5 => repeat (first | exact (Kd.N_reads' HO289.out).2.2 | (with_reducible refine Kd.C_alloc ?_ _) | (with_reducible refine Kd.C_drewN ?_ _) | (with_reducible refine Kd.C_drew ?_))); (case side6 => exact (Kd.N_reads' HO289.out).2.1); (case side7 => repeat (first | exact (Kd.N_reads' HO292.out).2.2 | (with_reducible refine Kd.C_alloc ?_ _) | (with_reducible refine Kd.C_drewN ?_ _) | (with_reducible refine Kd.C_drew ?_))); (case side8 => exact (Kd.N_reads' HO292.out).2.1); rintro e w46 ⟨v301, rfl, ho0, hb⟩; refine ⟨_, rfl, ?_⟩; have n0_ := Aside0.mk (Kd.R_below (by (with_reducible repeat (first | apply Kd.R_alloc | apply Kd.R_drewN | apply Kd.R_drew)); exact HO282.out) hb); have n1_ := Aside0.mk (Kd.R_below (by (with_reducible repeat (first | apply Kd.R_alloc | apply Kd.R_drewN | apply Kd.R_drew)); exact HO286.out) hb); have n2_ := Aside0.mk (Kd.N_elder' (by (with_reducible repeat (first | apply Kd.N_alloc | apply Kd.N_drewN | apply Kd.N_drew)); exact HO289.out) (Kd.R_base ho0) hb); have n3_ := Aside0.mk (Kd.N_elder' (by (with_reducible repeat (first | apply Kd.N_alloc | apply Kd.N_drewN | apply Kd.N_drew)); exact HO292.out) (Kd.R_base ho0) hb); have n4_ := Aside0.mk (Kd.R_elder' (by (with_reducible repeat (first | apply Kd.R_alloc | apply Kd.R_drewN | apply Kd.R_drew)); exact HO296.out) (Kd.R_base ho0) hb); have n5_ := Aside0.mk (Kd.N_elder' (by (with_reducible repeat (first | apply Kd.N_alloc | apply Kd.N_drewN | apply Kd.N_drew)); exact HO299.out) (Kd.R_base ho0) hb); have n6_ := Aside0.mk (Kd.R_lower (Kd.R_new' ho0 (Kd.R_lt (by (with_reducible repeat (first | apply Kd.R_alloc | apply Kd.R_drewN | apply Kd.R_drew)); exact HO296.out))) (below_size (by repeat (first | (with_reducible first | exact HB.out | apply below_alloc | apply pw_below_drewN | apply below_drew1 | refine below_set ?_ GE293.out) | exact HB.out)))); have n7_ := Aside0.mk (blk_below (g := gb293) (o := .cells #[.string t279, .slice Ao38 t280.length co38, .string t283, .slice Ao39 t284.length co39, .slice Ao40 t287.length co40, .slice Ao41 t290.length co41] 26 (0, 0)) (by (with_reducible repeat (first | refine blk_drewN ?_ _ | refine blk_drew ?_ | refine blk_alloc ?_ _)); exact BK293.out) hb); have n8_ := Aside0.mk (below_step (by repeat (first | (with_reducible first | exact HB.out | apply below_alloc | apply pw_below_drewN | apply below_drew1 | refine below_set ?_ GE293.out) | exact HB.out)) hb); clear HO282; clear HO286; clear HO289; clear HO292; clear HO296; clear HO299; clear BK293; clear HB; have HO282 := n0_; have HO286 := n1_; have HO289 := n2_; have HO292 := n3_; have HO296 := n4_; have HO299 := n5_; have HO302 := n6_; have BK293 := n7_; have HB := n8_; clear n0_ n1_ n2_ n3_ n4_ n5_ n6_ n7_ n8_; (try clear hb); (try clear hb2); (try clear hk); (try clear hi); (try clear ho0); have hcz47_0 : w46.cell? ⟨gb293, 0, none⟩ = some (.string t279) := (blk_cell BK293.out 0).trans rfl; have hcz47_1 : w46.cell? ⟨gb293, 1, none⟩ = some (.slice Ao38 t280.length co38) := (blk_cell BK293.out 1).trans rfl; have hcz47_2 : w46.cell? ⟨gb293, 2, none⟩ = some (.string t283) := (blk_cell BK293.out 2).trans rfl; have hcz47_3 : w46.cell? ⟨gb293, 3, none⟩ = some (.slice Ao39 t284.length co39) := (blk_cell BK293.out 3).trans rfl; have hcz47_4 : w46.cell? ⟨gb293, 4, none⟩ = some (.slice Ao40 t287.length co40) := (blk_cell BK293.out 4).trans rfl; have hcz47_5 : w46.cell? ⟨gb293, 5, none⟩ = some (.slice Ao41 t290.length co41) := (blk_cell BK293.out 5).trans rfl; have hfz47_0 := blk_frozen BK293.out 0; have hfz47_1 := blk_frozen BK293.out 1; have hfz47_2 := blk_frozen BK293.out 2; have hfz47_3 := blk_frozen BK293.out 3; have hfz47_4 := blk_frozen BK293.out 4; have hfz47_5 := blk_frozen BK293.out 5) | ((with_reducible refine gate_callee (f := 17) rfl ?_); refine goesL_ (some 15) rfl rfl Try.func17 (by kernel_rfl) rfl #[.agg #[.string t279, .slice Ao38 t280.length co38, .string t283, .slice Ao39 t284.length co39, .slice Ao40 t287.length co40, .slice Ao41 t290.length co41]] rfl (by (try simp only [List.map_toArray, List.map_cons, List.map_nil]); first | done | rfl | (simp only [List.length_drop, List.length_take]; rfl)) ?_; (with_reducible refine (flow_Reached.calls t279 _ _ t280 t283 _ _ t284 _ _ t287 _ _ t290 t303 _ ?side1 ?side2 ?side3 ?side4 ?side5 ?side6 ?side7 ?side8 A5.out).mono ?_); (case side1 => repeat (first | exact (Kd.R_reads' HO282.out).2.2 | (with_reducible refine Kd.C_alloc ?_ _) | (with_reducible refine Kd.C_drewN ?_ _) | (with_reducible refine Kd.C_drew ?_))); (case side2 => exact (Kd.R_reads' HO282.out).2.1); (case side3 => repeat (first | exact (Kd.R_reads' HO286.out).2.2 | (with_reducible refine Kd.C_alloc ?_ _) | (with_reducible refine Kd.C_drewN ?_ _) | (with_reducible refine Kd.C_drew ?_))); (case side4 => exact (Kd.R_reads' HO286.out).2.1); (case side5 => repeat (first | exact (Kd.N_reads' HO289.out).2.2 | (with_reducible refine Kd.C_alloc ?_ _) | (with_reducible refine Kd.C_drewN ?_ _) | (with_reducible refine Kd.C_drew ?_))); (case side6 => exact (Kd.N_reads' HO289.out).2.1); (case side7 => repeat (first | exact (Kd.N_reads' HO292.out).2.2 | (with_reducible refine Kd.C_alloc ?_ _) | (with_reducible refine Kd.C_drewN ?_ _) | (with_reducible refine Kd.C_drew ?_))); (case side8 => exact (Kd.N_reads' HO292.out).2.1); rintro e w48 ⟨v304, rfl, ho0, hb⟩; refine ⟨_, rfl, ?_⟩; have n0_ := Aside0.mk (Kd.R_below (by (with_reducible repeat (first | apply Kd.R_alloc | apply Kd.R_drewN | apply Kd.R_drew)); exact HO282.out) hb); have n1_ := Aside0.mk (Kd.R_below (by (with_reducible repeat (first | apply Kd.R_alloc | apply Kd.R_drewN | apply Kd.R_drew)); exact HO286.out) hb); have n2_ := Aside0.mk (Kd.N_elder' (by (with_reducible repeat (first | apply Kd.N_alloc | apply Kd.N_drewN | apply Kd.N_drew)); exact HO289.out) (Kd.R_base ho0) hb); have n3_ := Aside0.mk (Kd.N_elder' (by (with_reducible repeat (first | apply Kd.N_alloc | apply Kd.N_drewN | apply Kd.N_drew)); exact HO292.out) (Kd.R_base ho0) hb); have n4_ := Aside0.mk (Kd.R_below (by (with_reducible repeat (first | apply Kd.R_alloc | apply Kd.R_drewN | apply Kd.R_drew)); exact HO296.out) hb); have n5_ := Aside0.mk (Kd.N_elder' (by (with_reducible repeat (first | apply Kd.N_alloc | apply Kd.N_drewN | apply Kd.N_drew)); exact HO299.out) (Kd.R_base ho0) hb); have n6_ := Aside0.mk (Kd.R_below (by (with_reducible repeat (first | apply Kd.R_alloc | apply Kd.R_drewN | apply Kd.R_drew)); exact HO302.out) hb); have n7_ := Aside0.mk (Kd.R_lower ho0 (below_size (by repeat (first | (with_reducible first | exact HB.out | apply below_alloc | apply pw_below_drewN | apply below_drew1 | refine below_set ?_ GE293.out) | exact HB.out)))); have n8_ := Aside0.mk (blk_below (g := gb293) (o := .cells #[.string t279, .slice Ao38 t280.length co38, .string t283, .slice Ao39 t284.length co39, .slice Ao40 t287.length co40, .slice Ao41 t290.length co41] 26 (0, 0)) (by (with_reducible repeat (first | refine blk_drewN ?_ _ | refine blk_drew ?_ | refine blk_alloc ?_ _)); exact BK293.out) hb); have n9_ := Aside0.mk (below_step (by repeat (first | (with_reducible first | exact HB.out | apply below_alloc | apply pw_below_drewN | apply below_drew1 | refine below_set ?_ GE293.out) | exact HB.out)) hb); clear HO282; clear HO286; clear HO289; clear HO292; clear HO296; clear HO299; clear HO302; clear BK293; clear HB; have HO282 := n0_; have HO286 := n1_; have HO289 := n2_; have HO292 := n3_; have HO296 := n4_; have HO299 := n5_; have HO302 := n6_; have HO305 := n7_; have BK293 := n8_; have HB := n9_; clear n0_ n1_ n2_ n3_ n4_ n5_ n6_ n7_ n8_ n9_; (try clear hb); (try clear hb2); (try clear hk); (try clear hi); (try clear ho0); have hcz49_0 : w48.cell? ⟨gb293, 0, none⟩ = some (.string t279) := (blk_cell BK293.out 0).trans rfl; have hcz49_1 : w48.cell? ⟨gb293, 1, none⟩ = some (.slice Ao38 t280.length co38) := (blk_cell BK293.out 1).trans rfl; have hcz49_2 : w48.cell? ⟨gb293, 2, none⟩ = some (.string t283) := (blk_cell BK293.out 2).trans rfl; have hcz49_3 : w48.cell? ⟨gb293, 3, none⟩ = some (.slice Ao39 t284.length co39) := (blk_cell BK293.out 3).trans rfl; have hcz49_4 : w48.cell? ⟨gb293, 4, none⟩ = some (.slice Ao40 t287.length co40) := (blk_cell BK293.out 4).trans rfl; have hcz49_5 : w48.cell? ⟨gb293, 5, none⟩ = some (.slice Ao41 t290.length co41) := (blk_cell BK293.out 5).trans rfl; have hfz49_0 := blk_frozen BK293.out 0; have hfz49_1 := blk_frozen BK293.out 1; have hfz49_2 := blk_frozen BK293.out 2; have hfz49_3 := blk_frozen BK293.out 3; have hfz49_4 := blk_frozen BK293.out 4; have hfz49_5 := blk_frozen BK293.out 5) | ((with_reducible refine gate_callee (f := 20) rfl ?_); refine goesL_ (some 17) rfl rfl Try.func20 (by kernel_rfl) rfl #[.agg #[.string t279, .slice Ao38 t280.length co38, .string t283, .slice Ao39 t284.length co39, .slice Ao40 t287.length co40, .slice Ao41 t290.length co41], .int .i64 0] rfl (by (try simp only [List.map_toArray, List.map_cons, List.map_nil]); first | done | rfl | (simp only [List.length_drop, List.length_take]; rfl)) ?_; (with_reducible refine (flow_Next.calls t279 _ _ t280 t283 _ _ t284 _ _ t287 _ _ t290 0 t306 _ ?side1 ?side2 ?side3 ?side4 ?side5 ?side6 ?side7 ?side8 A6.out).mono ?_); (case side1 => repeat (first | exact (Kd.R_reads' HO282.out).2.2 | (with_reducible refine Kd.C_alloc ?_ _) | (with_reducible refine Kd.C_drewN ?_ _) | (with_reducible refine Kd.C_drew ?_))); (case side2 => exact (Kd.R_reads' HO282.out).2.1); (case side3 => repeat (first | exact (Kd.R_reads' HO286.out).2.2 | (with_reducible refine Kd.C_alloc ?_ _) | (with_reducible refine Kd.C_drewN ?_ _) | (with_reducible refine Kd.C_drew ?_))); (case side4 => exact (Kd.R_reads' HO286.out).2.1); (case side5 => repeat (first | exact (Kd.N_reads' HO289.out).2.2 | (with_reducible refine Kd.C_alloc ?_ _) | (with_reducible refine Kd.C_drewN ?_ _) | (with_reducible refine Kd.C_drew ?_))); (case side6 => exact (Kd.N_reads' HO289.out).2.1); (case side7 => repeat (first | exact (Kd.N_reads' HO292.out).2.2 | (with_reducible refine Kd.C_alloc ?_ _) | (with_reducible refine Kd.C_drewN ?_ _) | (with_reducible refine Kd.C_drew ?_))); (case side8 => exact (Kd.N_reads' HO292.out).2.1); rintro e w50 ⟨v307, rfl, ho0, hb⟩; refine ⟨_, rfl, ?_⟩; have n0_ := Aside0.mk (Kd.R_below (by (with_reducible repeat (first | apply Kd.R_alloc | apply Kd.R_drewN | apply Kd.R_drew)); exact HO282.out) hb); have n1_ := Aside0.mk (Kd.R_below (by (with_reducible repeat (first | apply Kd.R_alloc | apply Kd.R_drewN | apply Kd.R_drew)); exact HO286.out) hb); have n2_ := Aside0.mk (Kd.N_elder' (by (with_reducible repeat (first | apply Kd.N_alloc | apply Kd.N_drewN | apply Kd.N_drew)); exact HO289.out) (Kd.R_base ho0) hb); have n3_ := Aside0.mk (Kd.N_elder' (by (with_reducible repeat (first | apply Kd.N_alloc | apply Kd.N_drewN | apply Kd.N_drew)); exact HO292.out) (Kd.R_base ho0) hb); have n4_ := Aside0.mk (Kd.R_elder' (by (with_reducible repeat (first | apply Kd.R_alloc | apply Kd.R_drewN | apply Kd.R_drew)); exact HO296.out) (Kd.R_base ho0) hb); have n5_ := Aside0.mk (Kd.N_elder' (by (with_reducible repeat (first | apply Kd.N_alloc | apply Kd.N_drewN | apply Kd.N_drew)); exact HO299.out) (Kd.R_base ho0) hb); have n6_ := Aside0.mk (Kd.R_elder' (by (with_reducible repeat (first | apply Kd.R_alloc | apply Kd.R_drewN | apply Kd.R_drew)); exact HO302.out) (Kd.R_base ho0) hb); have n7_ := Aside0.mk (Kd.R_below (by (with_reducible repeat (first | apply Kd.R_alloc | apply Kd.R_drewN | apply Kd.R_drew)); exact HO305.out) hb); have n8_ := Aside0.mk (Kd.R_lower (Kd.R_new' (Kd.R_new' ho0 (Kd.R_lt (by (with_reducible repeat (first | apply Kd.R_alloc | apply Kd.R_drewN | apply Kd.R_drew)); exact HO296.out))) (Kd.R_lt (by (with_reducible repeat (first | apply Kd.R_alloc | apply Kd.R_drewN | apply Kd.R_drew)); exact HO302.out))) (below_size (by repeat (first | (with_reducible first | exact HB.out | apply below_alloc | apply pw_below_drewN | apply below_drew1 | refine below_set ?_ GE293.out) | exact HB.out)))); have n9_ := Aside0.mk (blk_below (g := gb293) (o := .cells #[.string t279, .slice Ao38 t280.length co38, .string t283, .slice Ao39 t284.length co39, .slice Ao40 t287.length co40, .slice Ao41 t290.length co41] 26 (0, 0)) (by (with_reducible repeat (first | refine blk_drewN ?_ _ | refine blk_drew ?_ | refine blk_alloc ?_ _)); exact BK293.out) hb); have n10_ := Aside0.mk (below_step (by repeat (first | (with_reducible first | exact HB.out | apply below_alloc | apply pw_below_drewN | apply below_drew1 | refine below_set ?_ GE293.out) | exact HB.out)) hb); clear HO282; clear HO286; clear HO289; clear HO292; clear HO296; clear HO299; clear HO302; clear HO305; clear BK293; clear HB; have HO282 := n0_; have HO286 := n1_; have HO289 := n2_; have HO292 := n3_; have HO296 := n4_; have HO299 := n5_; have HO302 := n6_; have HO305 := n7_; have HO308 := n8_; have BK293 := n9_; have HB := n10_; clear n0_ n1_ n2_ n3_ n4_ n5_ n6_ n7_ n8_ n9_ n10_; (try clear hb); (try clear hb2); (try clear hk); (try clear hi); (try clear ho0); obtain ⟨Ao51, co51, eo51⟩ := Kd.R_slice HO296.out; subst eo51; have p309 : 0 ≤ (0 : Int) := (by omega); have q309 : 0 < (t294.length : Int) := of_decide_eq_true (by first | (with_reducible assumption) | assumption); obtain ⟨ad309, e309, hx309_0⟩ := Kd.at_int (Kd.R_reads' HO296.out).2.2 0 p309 q309; cases e309; have qi309 : (0 < t294.length) = True := eq_true (by omega); (try rw [show ((0 : Int)).toNat = 0 from rfl] at hx309_0); (try rw [Addr.add_zero'] at hx309_0); replace p309 := eq_true p309; replace q309 := eq_true q309; have p310 : 0 ≤ (1 : Int) := (by omega); have q310 : 1 < (t294.length : Int) := of_decide_eq_true (by first | (with_reducible assumption) | assumption); obtain ⟨ad310, e310, hx310_0⟩ := Kd.at_int (Kd.R_reads' HO296.out).2.2 1 p310 q310; obtain rfl : ad309 = ad310 := (by injection e310); (try simp only [show (1 : Int).toNat = 1 from rfl, Nat.reduceMul, Nat.reduceEqDiff, Go.Addr.add, ↓reduceIte] at hx310_0); have qi310 : (1 < t294.length) = True := eq_true (by omega); (try rw [show ((1 : Int)).toNat = 1 from rfl] at hx310_0); replace p310 := eq_true p310; replace q310 := eq_true q310; have p311 : 0 ≤ (2 : Int) := (by omega); have q311 : 2 < (t294.length : Int) := of_decide_eq_true (by first | (with_reducible assumption) | assumption); obtain ⟨ad311, e311, hx311_0⟩ := Kd.at_int (Kd.R_reads' HO296.out).2.2 2 p311 q311; obtain rfl : ad309 = ad311 := (by injection e311); (try simp only [show (2 : Int).toNat = 2 from rfl, Nat.reduceMul, Nat.reduceEqDiff, Go.Addr.add, ↓reduceIte] at hx311_0); have qi311 : (2 < t294.length) = True := eq_true (by omega); (try rw [show ((2 : Int)).toNat = 2 from rfl] at hx311_0); replace p311 := eq_true p311; replace q311 := eq_true q311; have p312 : 0 ≤ (3 : Int) := (by omega); have q312 : 3 < (t294.length : Int) := of_decide_eq_true (by first | (with_reducible assumption) | assumption); obtain ⟨ad312, e312, hx312_0⟩ := Kd.at_int (Kd.R_reads' HO296.out).2.2 3 p312 q312; obtain rfl : ad309 = ad312 := (by injection e312); (try simp only [show (3 : Int).toNat = 3 from rfl, Nat.reduceMul, Nat.reduceEqDiff, Go.Addr.add, ↓reduceIte] at hx312_0); have qi312 : (3 < t294.length) = True := eq_true (by omega); (try rw [show ((3 : Int)).toNat = 3 from rfl] at hx312_0); replace p312 := eq_true p312; replace q312 := eq_true q312; obtain ⟨Ao52, co52, eo52⟩ := Kd.N_slice HO299.out; subst eo52; have p313 : 0 ≤ (3 : Int) := (by omega); have q313 : 3 < (t297.length : Int) := of_decide_eq_true (by first | (with_reducible assumption) | assumption); obtain ⟨ad313, A313_0, c313_0, e313, hx313_0, hl313_0, hi313_0⟩ := at_L2 (Kd.N_reads' HO299.out).2.2 3 p313 q313; cases e313; obtain ⟨ce313, hce313, hMe313, hcc313⟩ := Kd.N_get HO299.out [] 3 p313 (by first | exact q313 | exact of_decide_eq_true (by first | (with_reducible assumption) | assumption) | (have e_ := (Kd.N_reads' HO299.out).1; omega)); obtain ⟨ua313_0, uc313_0, rfl, ul313_0, ge313_0⟩ := Kd.FK_slice_open hMe313; have hv313_0 := hcc313 0 _ rfl; rw [Nat.add_zero, show ((Kd.slice 3 (Kd.int .i64))).sz = 1 from rfl, Nat.mul_one] at hv313_0; replace hv313_0 := Option.some.inj (hv313_0.symm.trans hx313_0); injection hv313_0 with hva_ hvn_ hvc_; rw [hva_] at ge313_0; rw [hvc_] at ul313_0; have HL313_0 := Aside0.mk (show Kd.V (Kd.int .i64) 3 _ w.heap.size _ _ (rd_L2 t297 3) from Kd.V_mk ul313_0 ge313_0); clear hva_ hvn_ hvc_ ge313_0 ul313_0; clear hcc313 hce313; (try simp only [show (3 : Int).toNat = 3 from rfl, Nat.reduceMul, Nat.reduceEqDiff, Go.Addr.add, ↓reduceIte] at hx313_0); have qi313 : (3 < t297.length) = True := eq_true (by omega); (try rw [show ((3 : Int)).toNat = 3 from rfl] at hx313_0); have HR313_0 := Aside0.mk hi313_0; have HC313_0 := Aside0.mk hl313_0; clear hi313_0 hl313_0; replace p313 := eq_true p313; replace q313 := eq_true q313; have p314 : 0 ≤ (0 : Int) := (by omega); have q314 : 0 < (t297.length : Int) := of_decide_eq_true (by first | (with_reducible assumption) | assumption); obtain ⟨ad314, A314_0, c314_0, e314, hx314_0, hl314_0, hi314_0⟩ := at_L2 (Kd.N_reads' HO299.out).2.2 0 p314 q314; obtain rfl : ad313 = ad314 := (by injection e314); obtain ⟨ce314, hce314, hMe314, hcc314⟩ := Kd.N_get HO299.out [] 0 p314 (by first | exact q314 | exact of_decide_eq_true (by first | (with_reducible assumption) | assumption) | (have e_ := (Kd.N_reads' HO299.out).1; omega)); obtain ⟨ua314_0, uc314_0, rfl, ul314_0, ge314_0⟩ := Kd.FK_slice_open hMe314; have hv314_0 := hcc314 0 _ rfl; rw [Nat.add_zero, show ((Kd.slice 3 (Kd.int .i64))).sz = 1 from rfl, Nat.mul_one] at hv314_0; replace hv314_0 := Option.some.inj (hv314_0.symm.trans hx314_0); injection hv314_0 with hva_ hvn_ hvc_; rw [hva_] at ge314_0; rw [hvc_] at ul314_0; have HL314_0 := Aside0.mk (show Kd.V (Kd.int .i64) 3 _ w.heap.size _ _ (rd_L2 t297 0) from Kd.V_mk ul314_0 ge314_0); clear hva_ hvn_ hvc_ ge314_0 ul314_0; clear hcc314 hce314; have qi314 : (0 < t297.length) = True := eq_true (by omega); (try rw [show ((0 : Int)).toNat = 0 from rfl] at hx314_0); (try rw [Addr.add_zero'] at hx314_0); have HR314_0 := Aside0.mk hi314_0; have HC314_0 := Aside0.mk hl314_0; clear hi314_0 hl314_0; replace p314 := eq_true p314; replace q314 := eq_true q314; obtain ⟨Ao53, co53, eo53⟩ := Kd.R_slice HO302.out; subst eo53; have p315 : 0 ≤ (0 : Int) := (by omega); have q315 : 0 < (t300.length : Int) := of_decide_eq_true (by first | (with_reducible assumption) | assumption); obtain ⟨ad315, e315, hx315_0⟩ := Kd.at_int (Kd.R_reads' HO302.out).2.2 0 p315 q315; cases e315; have qi315 : (0 < t300.length) = True := eq_true (by omega); (try rw [show ((0 : Int)).toNat = 0 from rfl] at hx315_0); (try rw [Addr.add_zero'] at hx315_0); replace p315 := eq_true p315; replace q315 := eq_true q315; have p316 : 0 ≤ (1 : Int) := (by omega); have q316 : 1 < (t300.length : Int) := of_decide_eq_true (by first | (with_reducible assumption) | assumption); obtain ⟨ad316, e316, hx316_0⟩ := Kd.at_int (Kd.R_reads' HO302.out).2.2 1 p316 q316; obtain rfl : ad315 = ad316 := (by injection e316); (try simp only [show (1 : Int).toNat = 1 from rfl, Nat.reduceMul, Nat.reduceEqDiff, Go.Addr.add, ↓reduceIte] at hx316_0); have qi316 : (1 < t300.length) = True := eq_true (by omega); (try rw [show ((1 : Int)).toNat = 1 from rfl] at hx316_0); replace p316 := eq_true p316; replace q316 := eq_true q316; obtain ⟨Ao54, co54, eo54⟩ := Kd.R_slice HO305.out; subst eo54; have p317 : 0 ≤ (3 : Int) := (by omega); have q317 : 3 < (t303.length : Int) := of_decide_eq_true (by first | (with_reducible assumption) | assumption); obtain ⟨ad317, e317, hx317_0⟩ := Kd.at_bool (Kd.R_reads' HO305.out).2.2 3 p317 q317; (try rw [← Nbq28.out] at hx317_0); (try rw [← Nbq31.out] at hx317_0); cases e317; (try simp only [show (3 : Int).toNat = 3 from rfl, Nat.reduceMul, Nat.reduceEqDiff, Go.Addr.add, ↓reduceIte] at hx317_0); have qi317 : (3 < t303.length) = True := eq_true (by omega); (try rw [show ((3 : Int)).toNat = 3 from rfl] at hx317_0); replace p317 := eq_true p317; replace q317 := eq_true q317; have p318 : 0 ≤ (4 : Int) := (by omega); have q318 : 4 < (t303.length : Int) := of_decide_eq_true (by first | (with_reducible assumption) | assumption); obtain ⟨ad318, e318, hx318_0⟩ := Kd.at_bool (Kd.R_reads' HO305.out).2.2 4 p318 q318; (try rw [← Nbq28.out] at hx318_0); (try rw [← Nbq31.out] at hx318_0); obtain rfl : ad317 = ad318 := (by injection e318); (try simp only [show (4 : Int).toNat = 4 from rfl, Nat.reduceMul, Nat.reduceEqDiff, Go.Addr.add, ↓reduceIte] at hx318_0); have qi318 : (4 < t303.length) = True := eq_true (by omega); (try rw [show ((4 : Int)).toNat = 4 from rfl] at hx318_0); replace p318 := eq_true p318; replace q318 := eq_true q318; obtain ⟨Ao55, co55, eo55⟩ := Kd.R_slice HO308.out; subst eo55; have hcz56_0 : w50.cell? ⟨gb293, 0, none⟩ = some (.string t279) := (blk_cell BK293.out 0).trans rfl; have hcz56_1 : w50.cell? ⟨gb293, 1, none⟩ = some (.slice Ao38 t280.length co38) := (blk_cell BK293.out 1).trans rfl; have hcz56_2 : w50.cell? ⟨gb293, 2, none⟩ = some (.string t283) := (blk_cell BK293.out 2).trans rfl; have hcz56_3 : w50.cell? ⟨gb293, 3, none⟩ = some (.slice Ao39 t284.length co39) := (blk_cell BK293.out 3).trans rfl; have hcz56_4 : w50.cell? ⟨gb293, 4, none⟩ = some (.slice Ao40 t287.length co40) := (blk_cell BK293.out 4).trans rfl; have hcz56_5 : w50.cell? ⟨gb293, 5, none⟩ = some (.slice Ao41 t290.length co41) := (blk_cell BK293.out 5).trans rfl; have hfz56_0 := blk_frozen BK293.out 0; have hfz56_1 := blk_frozen BK293.out 1; have hfz56_2 := blk_frozen BK293.out 2; have hfz56_3 := blk_frozen BK293.out 3; have hfz56_4 := blk_frozen BK293.out 4; have hfz56_5 := blk_frozen BK293.out 5) | (go_at_call 26; (with_reducible refine (flow_Back.calls t279 _ _ t280 t283 _ _ t284 _ _ t287 _ _ t290 t319 _ ?side1 ?side2 ?side3 ?side4 ?side5 ?side6 ?side7 ?side8 A34.out).mono ?_); (case side1 => repeat (first | exact (Kd.R_reads' HO282.out).2.2 | (with_reducible refine Kd.C_alloc ?_ _) | (with_reducible refine Kd.C_drewN ?_ _) | (with_reducible refine Kd.C_drew ?_))); (case side2 => exact (Kd.R_reads' HO282.out).2.1); (case side3 => repeat (first | exact (Kd.R_reads' HO286.out).2.2 | (with_reducible refine Kd.C_alloc ?_ _) | (with_reducible refine Kd.C_drewN ?_ _) | (with_reducible refine Kd.C_drew ?_))); (case side4 => exact (Kd.R_reads' HO286.out).2.1); (case side5 => repeat (first | exact (Kd.N_reads' HO289.out).2.2 | (with_reducible refine Kd.C_alloc ?_ _) | (with_reducible refine Kd.C_drewN ?_ _) | (with_reducible refine Kd.C_drew ?_))); (case side6 => exact (Kd.N_reads' HO289.out).2.1); (case side7 => repeat (first | exact (Kd.N_reads' HO292.out).2.2 | (with_reducible refine Kd.C_alloc ?_ _) | (with_reducible refine Kd.C_drewN ?_ _) | (with_reducible refine Kd.C_drew ?_))); (case side8 => exact (Kd.N_reads' HO292.out).2.1); rintro e w57 ⟨v320, rfl, ho0, hb⟩; have n0_ := Aside0.mk (Kd.R_below (by (with_reducible repeat (first | apply Kd.R_alloc | apply Kd.R_drewN | apply Kd.R_drew)); exact HO282.out) hb); have n1_ := Aside0.mk (Kd.R_below (by (with_reducible repeat (first | apply Kd.R_alloc | apply Kd.R_drewN | apply Kd.R_drew)); exact HO286.out) hb); have n2_ := Aside0.mk (Kd.N_elder' (by (with_reducible repeat (first | apply Kd.N_alloc | apply Kd.N_drewN | apply Kd.N_drew)); exact HO289.out) (Kd.R_base ho0) hb); have n3_ := Aside0.mk (Kd.N_elder' (by (with_reducible repeat (first | apply Kd.N_alloc | apply Kd.N_drewN | apply Kd.N_drew)); exact HO292.out) (Kd.R_base ho0) hb); have n4_ := Aside0.mk (Kd.R_below (by (with_reducible repeat (first | apply Kd.R_alloc | apply Kd.R_drewN | apply Kd.R_drew)); exact HO296.out) hb); have n5_ := Aside0.mk (Kd.N_elder' (by (with_reducible repeat (first | apply Kd.N_alloc | apply Kd.N_drewN | apply Kd.N_drew)); exact HO299.out) (Kd.R_base ho0) hb); have n6_ := Aside0.mk (Kd.R_below (by (with_reducible repeat (first | apply Kd.R_alloc | apply Kd.R_drewN | apply Kd.R_drew)); exact HO302.out) hb); have n7_ := Aside0.mk (Kd.R_below (by (with_reducible repeat (first | apply Kd.R_alloc | apply Kd.R_drewN | apply Kd.R_drew)); exact HO305.out) hb); have n8_ := Aside0.mk (Kd.R_below (by (with_reducible repeat (first | apply Kd.R_alloc | apply Kd.R_drewN | apply Kd.R_drew)); exact HO308.out) hb); have n9_ := Aside0.mk (Kd.V_elder' (by (with_reducible repeat (first | apply Kd.V_alloc | apply Kd.V_drewN | apply Kd.V_drew)); exact HL313_0.out) (Kd.R_base ho0) hb); have n10_ := Aside0.mk (Kd.V_elder' (by (with_reducible repeat (first | apply Kd.V_alloc | apply Kd.V_drewN | apply Kd.V_drew)); exact HL314_0.out) (Kd.R_base ho0) hb); have n11_ := Aside0.mk (Kd.R_lower ho0 (below_size (by repeat (first | (with_reducible first | exact HB.out | apply below_alloc | apply pw_below_drewN | apply below_drew1 | refine below_set ?_ GE293.out) | exact HB.out)))); have n12_ := Aside0.mk (blk_below (g := gb293) (o := .cells #[.string t279, .slice Ao38 t280.length co38, .string t283, .slice Ao39 t284.length co39, .slice Ao40 t287.length co40, .slice Ao41 t290.length co41] 26 (0, 0)) (by (with_reducible repeat (first | refine blk_drewN ?_ _ | refine blk_drew ?_ | refine blk_alloc ?_ _)); exact BK293.out) hb); have n13_ := Aside0.mk (Kd.C_below (by repeat (first | (with_reducible exact HR313_0.out) | (with_reducible refine Kd.C_alloc ?_ _) | (with_reducible refine Kd.C_drewN ?_ _) | (with_reducible refine Kd.C_drew ?_) | exact HR313_0.out)) hb); have n14_ := Aside0.mk (Kd.C_below (by repeat (first | (with_reducible exact HR314_0.out) | (with_reducible refine Kd.C_alloc ?_ _) | (with_reducible refine Kd.C_drewN ?_ _) | (with_reducible refine Kd.C_drew ?_) | exact HR314_0.out)) hb); have n15_ := Aside0.mk (below_step (by repeat (first | (with_reducible first | exact HB.out | apply below_alloc | apply pw_below_drewN | apply below_drew1 | refine below_set ?_ GE293.out) | exact HB.out)) hb); clear HO282; clear HO286; clear HO289; clear HO292; clear HO296; clear HO299; clear HO302; clear HO305; clear HO308; clear HL313_0; clear HL314_0; clear BK293; clear HR313_0; clear HR314_0; clear HB; have HO282 := n0_; have HO286 := n1_; have HO289 := n2_; have HO292 := n3_; have HO296 := n4_; have HO299 := n5_; have HO302 := n6_; have HO305 := n7_; have HO308 := n8_; have HL313_0 := n9_; have HL314_0 := n10_; have HO321 := n11_; have BK293 := n12_; have HR313_0 := n13_; have HR314_0 := n14_; have HB := n15_; clear n0_ n1_ n2_ n3_ n4_ n5_ n6_ n7_ n8_ n9_ n10_ n11_ n12_ n13_ n14_ n15_; (try clear hb); (try clear hb2); (try clear hk); (try clear hi); (try clear ho0); obtain ⟨Ao58, co58, eo58⟩ := Kd.R_slice HO321.out; subst eo58))
                          go_ret
                          exact ⟨by first | rfl | (simp [errW_none, errW_some] <;> rfl) | (simp [*, errW_none, errW_some] <;> rfl), by repeat (first | (with_reducible first | exact HB.out | apply below_alloc | apply pw_below_drewN | apply below_drew1 | refine below_set ?_ GE293.out) | exact HB.out)⟩
                         ·rw [if_neg c33] at H
                          exact absurd H (by simp)
                       ·rw [if_neg c30] at H
                        exact absurd H (by simp)
                      ·replace c29 := Bool.eq_false_iff.mpr c29
                       subst c29
                       have H1 : (none) = some r := by rw [if_neg (show ¬ (false = true) by decide)] at H; exact H
                       clear H
                       have H := H1
                       clear H1
                       exact absurd H (by simp)
                     ·rw [if_neg c27] at H
                      exact absurd H (by simp)
                    ·rw [if_neg c26] at H
                     exact absurd H (by simp)
                   ·rw [if_neg c25] at H
                    exact absurd H (by simp)
                  ·rw [if_neg c24] at H
                   exact absurd H (by simp)
                 ·rw [if_neg c23] at H
                  exact absurd H (by simp)
                ·rw [if_neg c22] at H
                 exact absurd H (by simp)
               ·rw [if_neg c21] at H
                exact absurd H (by simp)
              ·rw [if_neg c20] at H
               exact absurd H (by simp)
             ·rw [if_neg c19] at H
              exact absurd H (by simp)
            ·rw [if_neg c18] at H
             exact absurd H (by simp)
           ·rw [if_neg c17] at H
            exact absurd H (by simp)
          ·rw [if_neg c16] at H
           exact absurd H (by simp)
         ·rw [if_neg c15] at H
          exact absurd H (by simp)
        ·rw [if_neg c14] at H
         exact absurd H (by simp)
       ·rw [if_neg c13] at H
        exact absurd H (by simp)
      ·rw [if_neg c12] at H
       exact absurd H (by simp)
     ·rw [if_neg c11] at H
      exact absurd H (by simp)
    ·rw [if_neg c10] at H
     exact absurd H (by simp)
   ·rw [if_neg c9] at H
    exact absurd H (by simp)
  ·rw [if_neg c8] at H
   exact absurd H (by simp)
 ·rw [if_neg c7] at H
  exact absurd H (by simp)

end Go.Proofs.Ytclhjalgflebfaa.Q

namespace Go.Proofs.Ytclhjalgflebfaa.Q
open Go.RowKit Go.Proofs.YtclhjalgflebfaaW.PrintWords Go.Proofs.YtclhjalgflebfaaW.PrintLast Go.Proofs.YtclhjalgflebfaaW.PrintMore
attribute [local go_sem] max2_int min2_int max_two min_two max_three min_three max_four min_four   -- for this text's walks alone
set_option linter.unusedVariables false
set_option linter.unusedSimpArgs false

/-! ### truantlaw09_wide: function 15 -/
mutual
def truantlaw09_wide.j0 : Nat → Bool → ByteArray → List ByteArray → ByteArray → List ByteArray → List (S58) → List (S40) → Option (Bool)
 | 0, _, _, _, _, _, _, _ => none
 | k + 1, x14, x323000, x323001, x323002, x323003, x323004, x323005 => if x14 = true then (some true) else (truantlaw09_wide.l0 k 0 0 x323000 x323001 x323002 x323003 x323004 x323005)
def truantlaw09_wide.l0 : Nat → Int → Int → ByteArray → List ByteArray → ByteArray → List ByteArray → List (S58) → List (S40) → Option (Bool)
 | 0, _, _, _, _, _, _, _, _ => none
 | k + 1, x3, x4, x323000, x323001, x323002, x323003, x323004, x323005 => if x4 < (x323005.length : Int) then (if 0 ≤ x4 then (truantlaw09_wide.l0 k (wrap64 (x3 + (((rd_T40 x323005 x4).f0).length : Int))) (wrap64 (x4 + 1)) x323000 x323001 x323002 x323003 x323004 x323005) else (none)) else (some (decide (x3 > 1500)))
end
def truantlaw09_wide.f (k : Nat) (a0_0 : ByteArray) (l0_1 : List ByteArray) (a0_2 : ByteArray) (l0_3 : List ByteArray) (l0_4 : List (S58)) (l0_5 : List (S40)) : Option (Bool) := if (l0_4.length : Int) > 300 then (truantlaw09_wide.j0 k true a0_0 l0_1 a0_2 l0_3 l0_4 l0_5) else (truantlaw09_wide.j0 k (decide ((l0_5.length : Int) > 60)) a0_0 l0_1 a0_2 l0_3 l0_4 l0_5)
theorem truantlaw09_wide.mono_l : ∀ k, (∀ y0 y1 y2 y3 y4 y5 y6, LeO (truantlaw09_wide.j0 k y0 y1 y2 y3 y4 y5 y6) (truantlaw09_wide.j0 (k + 1) y0 y1 y2 y3 y4 y5 y6)) ∧ (∀ y0 y1 y2 y3 y4 y5 y6 y7, LeO (truantlaw09_wide.l0 k y0 y1 y2 y3 y4 y5 y6 y7) (truantlaw09_wide.l0 (k + 1) y0 y1 y2 y3 y4 y5 y6 y7))
 | 0 => ⟨fun _ _ _ _ _ _ _ r h => by simp [truantlaw09_wide.j0] at h, fun _ _ _ _ _ _ _ _ r h => by simp [truantlaw09_wide.l0] at h⟩
 | k + 1 => by
  obtain ⟨ih0, ih1⟩ := truantlaw09_wide.mono_l k
  refine ⟨?_, ?_⟩
  ·intro y0 y1 y2 y3 y4 y5 y6
   unfold truantlaw09_wide.j0
   repeat' first
   | (with_reducible exact ih0 _ _ _ _ _ _ _)
   | (with_reducible exact ih1 _ _ _ _ _ _ _ _)
   | (with_reducible exact LeO.refl _)
   | (with_reducible exact LeO.none _)
   | (with_reducible refine LeO.ite ?_ ?_)
   | (with_reducible refine LeO.bind ?_ (fun _ => ?_))
   | exact ih0 _ _ _ _ _ _ _
   | exact ih1 _ _ _ _ _ _ _ _
   | exact LeO.none _
   | refine LeO.ite ?_ ?_
   | refine LeO.bind ?_ (fun _ => ?_)
  ·intro y0 y1 y2 y3 y4 y5 y6 y7
   unfold truantlaw09_wide.l0
   repeat' first
   | (with_reducible exact ih0 _ _ _ _ _ _ _)
   | (with_reducible exact ih1 _ _ _ _ _ _ _ _)
   | (with_reducible exact LeO.refl _)
   | (with_reducible exact LeO.none _)
   | (with_reducible refine LeO.ite ?_ ?_)
   | (with_reducible refine LeO.bind ?_ (fun _ => ?_))
   | exact ih0 _ _ _ _ _ _ _
   | exact ih1 _ _ _ _ _ _ _ _
   | exact LeO.none _
   | refine LeO.ite ?_ ?_
   | refine LeO.bind ?_ (fun _ => ?_)
theorem truantlaw09_wide.mono : ∀ a0 a1 a2 a3 a4 a5 k, LeO (truantlaw09_wide.f k a0 a1 a2 a3 a4 a5) (truantlaw09_wide.f (k + 1) a0 a1 a2 a3 a4 a5) := by
 intro a0 a1 a2 a3 a4 a5 k
 obtain ⟨ih0, ih1⟩ := truantlaw09_wide.mono_l k
 unfold truantlaw09_wide.f
 repeat' first
   | (with_reducible exact ih0 _ _ _ _ _ _ _)
   | (with_reducible exact ih1 _ _ _ _ _ _ _ _)
   | (with_reducible exact LeO.refl _)
   | (with_reducible exact LeO.none _)
   | (with_reducible refine LeO.ite ?_ ?_)
   | (with_reducible refine LeO.bind ?_ (fun _ => ?_))
   | exact ih0 _ _ _ _ _ _ _
   | exact ih1 _ _ _ _ _ _ _ _
   | exact LeO.none _
   | refine LeO.ite ?_ ?_
   | refine LeO.bind ?_ (fun _ => ?_)
set_option maxHeartbeats 8000000 in
set_option maxRecDepth 100000 in
theorem truantlaw09_wide.calls (k : Nat) (a0_0 : ByteArray) (A0_1 : Option Addr) (c0_1 : Nat) (l0_1 : List ByteArray) (a0_2 : ByteArray) (A0_3 : Option Addr) (c0_3 : Nat) (l0_3 : List ByteArray) (A0_4 : Option Addr) (c0_4 : Nat) (l0_4 : List (S58)) (A0_5 : Option Addr) (c0_5 : Nat) (l0_5 : List (S40)) (r : Bool) (w : World) (hr0_1 : Kd.C Kd.string w A0_1 l0_1.length l0_1) (hc0_1 : l0_1.length ≤ c0_1) (hr0_3 : Kd.C Kd.string w A0_3 l0_3.length l0_3) (hc0_3 : l0_3.length ≤ c0_3) (hr0_4 : Kd.C k58 w A0_4 l0_4.length l0_4) (hc0_4 : l0_4.length ≤ c0_4) (hr0_5 : Kd.C k40 w A0_5 l0_5.length l0_5) (hc0_5 : l0_5.length ≤ c0_5) (h : truantlaw09_wide.f k a0_0 l0_1 a0_2 l0_3 l0_4 l0_5 = some r) :
  Calls Try.prog 15 #[.agg #[.string a0_0, .slice A0_1 l0_1.length c0_1, .string a0_2, .slice A0_3 l0_3.length c0_3, .slice A0_4 l0_4.length c0_4, .slice A0_5 l0_5.length c0_5]] w fun e w' => e = .returned (.bool r) ∧ Below w.heap.size w w' := by
 have hu26 := Try.underlying26
 have HR0_1 := Aside0.mk hr0_1
 have HC0_1 := Aside0.mk hc0_1
 clear hr0_1 hc0_1
 have HR0_3 := Aside0.mk hr0_3
 have HC0_3 := Aside0.mk hc0_3
 clear hr0_3 hc0_3
 have HR0_4 := Aside0.mk hr0_4
 have HC0_4 := Aside0.mk hc0_4
 clear hr0_4 hc0_4
 have HR0_5 := Aside0.mk hr0_5
 have HC0_5 := Aside0.mk hc0_5
 clear hr0_5 hc0_5
 have HB := Aside0.mk (Below.refl w.heap.size w)
 have H : (if (l0_4.length : Int) > 300 then (truantlaw09_wide.j0 k true a0_0 l0_1 a0_2 l0_3 l0_4 l0_5) else (truantlaw09_wide.j0 k (decide ((l0_5.length : Int) > 60)) a0_0 l0_1 a0_2 l0_3 l0_4 l0_5)) = some r := h
 clear h
 have HC2 := Aside0.mk H
 clear H
 go_enter Try.func15, Try.ntmps15
 go_upto_region 1 with (first | ((with_reducible refine gate_dst (N := 1) rfl ?_); (try (refine gate_guard (by rfl) ?_; dsimp only)); refine box_event ?hg (N := 1) ?hd (cs := #[.string a0_0, .slice A0_1 l0_1.length c0_1, .string a0_2, .slice A0_3 l0_3.length c0_3, .slice A0_4 l0_4.length c0_4, .slice A0_5 l0_5.length c0_5]) (t := 26) ?hr ?_; (case hd => rfl); (case hg => rfl); (case hr => first | (go_simp; done) | (go_simp; rfl)); intro gb322 hg w3 hbox hb; have n0_ := Aside0.mk (below_step (by repeat (first | (with_reducible first | exact HB.out | apply below_alloc | apply pw_below_drewN | apply below_drew1) | exact HB.out)) hb); have n1_ := Aside0.mk (hbox); have n2_ := Aside0.mk ((by rw [hg]; exact (below_size (by repeat (first | (with_reducible first | exact HB.out | apply below_alloc | apply pw_below_drewN | apply below_drew1) | exact HB.out))) : w.heap.size ≤ gb322)); have n3_ := Aside0.mk ((by rw [hg]; exact (below_size (by repeat (first | (with_reducible first | exact HB.out | apply below_alloc | apply pw_below_drewN | apply below_drew1) | exact HB.out))) : w.heap.size ≤ gb322)); clear HB; have HB := n0_; have BK322 := n1_; have GW322 := n2_; have GE322 := n3_; clear n0_ n1_ n2_ n3_; clear hb hbox hg))
 (try simp only [Act.put, List.setIfInBounds_toArray, List.set_cons_zero, List.set_cons_succ])
 go_cut [14] (fun v14 wc => ∃ (kq : Nat) (x14_1 : Bool), v14 = .bool x14_1 ∧ Aside0 (truantlaw09_wide.j0 kq x14_1 a0_0 l0_1 a0_2 l0_3 l0_4 l0_5 = some r) ∧ Aside0 (kq ≤ k) ∧ Aside0 (wc.heap[gb322]? = some (.cells #[.string a0_0, (.slice A0_1 l0_1.length c0_1), .string a0_2, (.slice A0_3 l0_3.length c0_3), (.slice A0_4 l0_4.length c0_4), (.slice A0_5 l0_5.length c0_5)] 26 (0, 0))) ∧ Aside0 (Below w.heap.size w wc))
 case first =>
  have H := HC2.out
  clear HC2
  by_cases c4 : (l0_4.length : Int) > 300
  ·rw [if_pos c4] at H
   have c4b0 : decide (300 < (l0_4.length : Int)) = true := decide_eq_true c4
   have c4b1 : decide (300 < l0_4.length) = true := decide_eq_true (by omega)
   clear c4
   (first | rw [c4b0] | (simp only [i64_w, i32_w]; rw [c4b0]) | skip)
   have H' := Aside0.mk H
   clear H
   have hcz5_0 : w3.cell? ⟨gb322, 0, none⟩ = some (.string a0_0) := (blk_cell BK322.out 0).trans rfl
   have hcz5_1 : w3.cell? ⟨gb322, 1, none⟩ = some (.slice A0_1 l0_1.length c0_1) := (blk_cell BK322.out 1).trans rfl
   have hcz5_2 : w3.cell? ⟨gb322, 2, none⟩ = some (.string a0_2) := (blk_cell BK322.out 2).trans rfl
   have hcz5_3 : w3.cell? ⟨gb322, 3, none⟩ = some (.slice A0_3 l0_3.length c0_3) := (blk_cell BK322.out 3).trans rfl
   have hcz5_4 : w3.cell? ⟨gb322, 4, none⟩ = some (.slice A0_4 l0_4.length c0_4) := (blk_cell BK322.out 4).trans rfl
   have hcz5_5 : w3.cell? ⟨gb322, 5, none⟩ = some (.slice A0_5 l0_5.length c0_5) := (blk_cell BK322.out 5).trans rfl
   have hfz5_0 := blk_frozen BK322.out 0
   have hfz5_1 := blk_frozen BK322.out 1
   have hfz5_2 := blk_frozen BK322.out 2
   have hfz5_3 := blk_frozen BK322.out 3
   have hfz5_4 := blk_frozen BK322.out 4
   have hfz5_5 := blk_frozen BK322.out 5
   go_wp2
   go_meet
   case rel => exact ⟨_, (true), (by first | rfl | (simp; done) | (simp [*]; done)), H', ⟨by first | omega | exact Nat.le_refl _⟩, ⟨by (with_reducible repeat (first | refine blk_drewN ?_ _ | refine blk_drew ?_ | refine blk_alloc ?_ _)); exact BK322.out⟩, ⟨by repeat (first | (with_reducible first | exact HB.out | apply below_alloc | apply pw_below_drewN | apply below_drew1 | refine below_set ?_ GE322.out) | exact HB.out)⟩⟩
  ·rw [if_neg c4] at H
   have c4b0 : decide (300 < (l0_4.length : Int)) = false := decide_eq_false c4
   have c4b1 : decide (300 < l0_4.length) = false := decide_eq_false (by omega)
   clear c4
   (first | rw [c4b0] | (simp only [i64_w, i32_w]; rw [c4b0]) | skip)
   have H' := Aside0.mk H
   clear H
   have hcz6_0 : w3.cell? ⟨gb322, 0, none⟩ = some (.string a0_0) := (blk_cell BK322.out 0).trans rfl
   have hcz6_1 : w3.cell? ⟨gb322, 1, none⟩ = some (.slice A0_1 l0_1.length c0_1) := (blk_cell BK322.out 1).trans rfl
   have hcz6_2 : w3.cell? ⟨gb322, 2, none⟩ = some (.string a0_2) := (blk_cell BK322.out 2).trans rfl
   have hcz6_3 : w3.cell? ⟨gb322, 3, none⟩ = some (.slice A0_3 l0_3.length c0_3) := (blk_cell BK322.out 3).trans rfl
   have hcz6_4 : w3.cell? ⟨gb322, 4, none⟩ = some (.slice A0_4 l0_4.length c0_4) := (blk_cell BK322.out 4).trans rfl
   have hcz6_5 : w3.cell? ⟨gb322, 5, none⟩ = some (.slice A0_5 l0_5.length c0_5) := (blk_cell BK322.out 5).trans rfl
   have hfz6_0 := blk_frozen BK322.out 0
   have hfz6_1 := blk_frozen BK322.out 1
   have hfz6_2 := blk_frozen BK322.out 2
   have hfz6_3 := blk_frozen BK322.out 3
   have hfz6_4 := blk_frozen BK322.out 4
   have hfz6_5 := blk_frozen BK322.out 5
   go_wp2
   go_meet
   case rel => exact ⟨_, (decide ((l0_5.length : Int) > 60)), (by first | rfl | (simp; done) | (simp [*]; done)), H', ⟨by first | omega | exact Nat.le_refl _⟩, ⟨by (with_reducible repeat (first | refine blk_drewN ?_ _ | refine blk_drew ?_ | refine blk_alloc ?_ _)); exact BK322.out⟩, ⟨by repeat (first | (with_reducible first | exact HB.out | apply below_alloc | apply pw_below_drewN | apply below_drew1 | refine below_set ?_ GE322.out) | exact HB.out)⟩⟩
 case rest =>
  clear HC2
  try clear c1
  try clear p2
  try clear c4
  try clear c4b0
  try clear c4b1
  try clear hcz5_0
  try clear hcz5_1
  try clear hcz5_2
  try clear hcz5_3
  try clear hcz5_4
  try clear hcz5_5
  try clear hcz6_0
  try clear hcz6_1
  try clear hcz6_2
  try clear hcz6_3
  try clear hcz6_4
  try clear hcz6_5
  try clear hfz5_0
  try clear hfz5_1
  try clear hfz5_2
  try clear hfz5_3
  try clear hfz5_4
  try clear hfz5_5
  try clear hfz6_0
  try clear hfz6_1
  try clear hfz6_2
  try clear hfz6_3
  try clear hfz6_4
  try clear hfz6_5
  obtain ⟨kq, x14_1, rfl, HA, HJ1, BK322, HB⟩ := hcut
  cases kq with
  | zero => exact absurd HA.out (by simp [truantlaw09_wide.j0])
  | succ kj1 =>
   have H := HA.out
   clear HA
   simp only [truantlaw09_wide.j0] at H
   by_cases c7 : x14_1 = true
   ·subst c7
    have H1 : (some true) = some r := by rw [if_pos rfl] at H; exact H
    clear H
    have H := H1
    clear H1
    obtain rfl := Option.some.inj H
    go_wp2
    go_ret
    exact ⟨by first | rfl | (simp [errW_none, errW_some] <;> rfl) | (simp [*, errW_none, errW_some] <;> rfl), by repeat (first | (with_reducible first | exact HB.out | apply below_alloc | apply pw_below_drewN | apply below_drew1 | refine below_set ?_ GE322.out) | exact HB.out)⟩
   ·replace c7 := Bool.eq_false_iff.mpr c7
    subst c7
    have H1 : (truantlaw09_wide.l0 kj1 0 0 a0_0 l0_1 a0_2 l0_3 l0_4 l0_5) = some r := by rw [if_neg (show ¬ (false = true) by decide)] at H; exact H
    clear H
    have H := H1
    clear H1
    have H' := Aside0.mk H
    clear H
    go_wp2
    go_loopg [3, 4] kj1 (fun kq v3 v4 w' => ∃ (x3_2 : Int) (x4_2 : Int), v3 = .int .i64 x3_2 ∧ v4 = .int .i64 x4_2 ∧ Aside0 (truantlaw09_wide.l0 kq x3_2 x4_2 a0_0 l0_1 a0_2 l0_3 l0_4 l0_5 = some r) ∧ Aside0 (kq ≤ kj1) ∧ Aside0 (w'.heap[gb322]? = some (.cells #[.string a0_0, (.slice A0_1 l0_1.length c0_1), .string a0_2, (.slice A0_3 l0_3.length c0_3), (.slice A0_4 l0_4.length c0_4), (.slice A0_5 l0_5.length c0_5)] 26 (0, 0))) ∧ Aside0 (Below w.heap.size w w'))
    case atStart => exact ⟨(0), (0), (by first | rfl | (simp; done) | (simp [*]; done)), (by first | rfl | (simp; done) | (simp [*]; done)), H', ⟨Nat.le_refl _⟩, ⟨by (with_reducible repeat (first | refine blk_drewN ?_ _ | refine blk_drew ?_ | refine blk_alloc ?_ _)); exact BK322.out⟩, ⟨by repeat (first | (with_reducible first | exact HB.out | apply below_alloc | apply pw_below_drewN | apply below_drew1 | refine below_set ?_ GE322.out) | exact HB.out)⟩⟩
    case round =>
     clear H'
     try clear c1
     try clear p2
     try clear c4
     try clear c4b0
     try clear c4b1
     try clear c7
     try clear hcz5_0
     try clear hcz5_1
     try clear hcz5_2
     try clear hcz5_3
     try clear hcz5_4
     try clear hcz5_5
     try clear hcz6_0
     try clear hcz6_1
     try clear hcz6_2
     try clear hcz6_3
     try clear hcz6_4
     try clear hcz6_5
     try clear hfz5_0
     try clear hfz5_1
     try clear hfz5_2
     try clear hfz5_3
     try clear hfz5_4
     try clear hfz5_5
     try clear hfz6_0
     try clear hfz6_1
     try clear hfz6_2
     try clear hfz6_3
     try clear hfz6_4
     try clear hfz6_5
     try clear p2
     obtain ⟨x3_2, x4_2, rfl, rfl, HA, HK2, BK322, HB⟩ := hrel
     cases gk with
     | zero => exact absurd HA.out (by simp [truantlaw09_wide.l0])
     | succ k2 =>
      have H := HA.out
      clear HA
      simp only [truantlaw09_wide.l0] at H
      by_cases c8 : x4_2 < (l0_5.length : Int)
      ·rw [if_pos c8] at H
       have c8b0 : decide (x4_2 < (l0_5.length : Int)) = true := decide_eq_true c8
       clear c8
       by_cases c9 : 0 ≤ x4_2
       ·rw [if_pos c9] at H
        have c9b0 : decide (0 ≤ x4_2) = true := decide_eq_true c9
        clear c9
        have H' := Aside0.mk H
        clear H
        have hcz10_0 : wr.cell? ⟨gb322, 0, none⟩ = some (.string a0_0) := (blk_cell BK322.out 0).trans rfl
        have hcz10_1 : wr.cell? ⟨gb322, 1, none⟩ = some (.slice A0_1 l0_1.length c0_1) := (blk_cell BK322.out 1).trans rfl
        have hcz10_2 : wr.cell? ⟨gb322, 2, none⟩ = some (.string a0_2) := (blk_cell BK322.out 2).trans rfl
        have hcz10_3 : wr.cell? ⟨gb322, 3, none⟩ = some (.slice A0_3 l0_3.length c0_3) := (blk_cell BK322.out 3).trans rfl
        have hcz10_4 : wr.cell? ⟨gb322, 4, none⟩ = some (.slice A0_4 l0_4.length c0_4) := (blk_cell BK322.out 4).trans rfl
        have hcz10_5 : wr.cell? ⟨gb322, 5, none⟩ = some (.slice A0_5 l0_5.length c0_5) := (blk_cell BK322.out 5).trans rfl
        have hfz10_0 := blk_frozen BK322.out 0
        have hfz10_1 := blk_frozen BK322.out 1
        have hfz10_2 := blk_frozen BK322.out 2
        have hfz10_3 := blk_frozen BK322.out 3
        have hfz10_4 := blk_frozen BK322.out 4
        have hfz10_5 := blk_frozen BK322.out 5
        have p323 : 0 ≤ (x4_2 : Int) := of_decide_eq_true (by first | (with_reducible assumption) | assumption)
        have q323 : x4_2 < (l0_5.length : Int) := of_decide_eq_true (by first | (with_reducible assumption) | assumption)
        obtain ⟨ad323, A323_0, c323_0, e323, hx323_0, hx323_1, hx323_2, hx323_3, hx323_4, hl323_0, hi323_0⟩ := at_T40 HR0_5.out x4_2 p323 q323
        cases e323
        replace hx323_0 := (HB.out.cell (World.block_lt_of_cell? w _ hx323_0)).trans hx323_0
        replace hx323_1 := (HB.out.cell (World.block_lt_of_cell? w _ hx323_1)).trans hx323_1
        replace hx323_2 := (HB.out.cell (World.block_lt_of_cell? w _ hx323_2)).trans hx323_2
        replace hx323_3 := (HB.out.cell (World.block_lt_of_cell? w _ hx323_3)).trans hx323_3
        replace hx323_4 := (HB.out.cell (World.block_lt_of_cell? w _ hx323_4)).trans hx323_4
        have HR323_0 := Aside0.mk hi323_0
        have HC323_0 := Aside0.mk hl323_0
        clear hi323_0 hl323_0
        replace p323 := eq_true p323
        replace q323 := eq_true q323
        go_wp2
        go_roundg k2
        case measure => have := HJ1.out; have := HK2.out; omega
        case rel => exact ⟨(wrap64 (x3_2 + (((rd_T40 l0_5 x4_2).f0).length : Int))), (wrap64 (x4_2 + 1)), (by first | rfl | (simp; done) | (simp [*]; done)), (by first | rfl | (simp; done) | (simp [*]; done)), H', ⟨by have := HJ1.out; have := HK2.out; omega⟩, ⟨by (with_reducible repeat (first | refine blk_drewN ?_ _ | refine blk_drew ?_ | refine blk_alloc ?_ _)); exact BK322.out⟩, ⟨by repeat (first | (with_reducible first | exact HB.out | apply below_alloc | apply pw_below_drewN | apply below_drew1 | refine below_set ?_ GE322.out) | exact HB.out)⟩⟩
       ·rw [if_neg c9] at H
        exact absurd H (by simp)
      ·rw [if_neg c8] at H
       have c8b0 : decide (x4_2 < (l0_5.length : Int)) = false := decide_eq_false c8
       clear c8
       obtain rfl := Option.some.inj H
       have hcz11_0 : wr.cell? ⟨gb322, 0, none⟩ = some (.string a0_0) := (blk_cell BK322.out 0).trans rfl
       have hcz11_1 : wr.cell? ⟨gb322, 1, none⟩ = some (.slice A0_1 l0_1.length c0_1) := (blk_cell BK322.out 1).trans rfl
       have hcz11_2 : wr.cell? ⟨gb322, 2, none⟩ = some (.string a0_2) := (blk_cell BK322.out 2).trans rfl
       have hcz11_3 : wr.cell? ⟨gb322, 3, none⟩ = some (.slice A0_3 l0_3.length c0_3) := (blk_cell BK322.out 3).trans rfl
       have hcz11_4 : wr.cell? ⟨gb322, 4, none⟩ = some (.slice A0_4 l0_4.length c0_4) := (blk_cell BK322.out 4).trans rfl
       have hcz11_5 : wr.cell? ⟨gb322, 5, none⟩ = some (.slice A0_5 l0_5.length c0_5) := (blk_cell BK322.out 5).trans rfl
       have hfz11_0 := blk_frozen BK322.out 0
       have hfz11_1 := blk_frozen BK322.out 1
       have hfz11_2 := blk_frozen BK322.out 2
       have hfz11_3 := blk_frozen BK322.out 3
       have hfz11_4 := blk_frozen BK322.out 4
       have hfz11_5 := blk_frozen BK322.out 5
       go_wp2
       go_ret
       exact ⟨by first | rfl | (simp [errW_none, errW_some] <;> rfl) | (simp [*, errW_none, errW_some] <;> rfl), by repeat (first | (with_reducible first | exact HB.out | apply below_alloc | apply pw_below_drewN | apply below_drew1 | refine below_set ?_ GE322.out) | exact HB.out)⟩

end Go.Proofs.Ytclhjalgflebfaa.Q

namespace Go.Proofs.Ytclhjalgflebfaa.Q
open Go.RowKit Go.Proofs.YtclhjalgflebfaaW.PrintWords Go.Proofs.YtclhjalgflebfaaW.PrintLast Go.Proofs.YtclhjalgflebfaaW.PrintMore
attribute [local go_sem] max2_int min2_int max_two min_two max_three min_three max_four min_four   -- for this text's walks alone
set_option linter.unusedVariables false
set_option linter.unusedSimpArgs false

/-! ### truantref09_Next: function 21 -/
mutual
def truantref09_Next.j0 : Nat → Int → List Int → Bool → ByteArray → List ByteArray → ByteArray → List ByteArray → List (S58) → List (S40) → Option (List Int)
 | 0, _, _, _, _, _, _, _, _, _ => none
 | k + 1, x1, x5, x16, x325000, x325001, x325002, x325003, x325004, x325005 => if x16 = true then (some x5) else (if 0 ≤ x1 then (if x1 < (x325005.length : Int) then (if ((rd_T40 x325005 x1).f1) = 1 then (if ((rd_T40 x325005 x1).f3.f0) ≥ 0 then (truantref09_Next.j1 k x5 (decide (((rd_T40 x325005 x1).f3.f0) < (x325005.length : Int))) x325000 x325001 x325002 x325003 x325004 x325005 ((rd_T40 x325005 x1).f0) ((rd_T40 x325005 x1).f1) ((rd_T40 x325005 x1).f2) ((rd_T40 x325005 x1).f3.f0) ((rd_T40 x325005 x1).f3.f1)) else (truantref09_Next.j1 k x5 false x325000 x325001 x325002 x325003 x325004 x325005 ((rd_T40 x325005 x1).f0) ((rd_T40 x325005 x1).f1) ((rd_T40 x325005 x1).f2) ((rd_T40 x325005 x1).f3.f0) ((rd_T40 x325005 x1).f3.f1))) else (if ((rd_T40 x325005 x1).f1) = 2 then (if ((rd_T40 x325005 x1).f3.f0) ≥ 0 then (truantref09_Next.j1 k x5 (decide (((rd_T40 x325005 x1).f3.f0) < (x325005.length : Int))) x325000 x325001 x325002 x325003 x325004 x325005 ((rd_T40 x325005 x1).f0) ((rd_T40 x325005 x1).f1) ((rd_T40 x325005 x1).f2) ((rd_T40 x325005 x1).f3.f0) ((rd_T40 x325005 x1).f3.f1)) else (truantref09_Next.j1 k x5 false x325000 x325001 x325002 x325003 x325004 x325005 ((rd_T40 x325005 x1).f0) ((rd_T40 x325005 x1).f1) ((rd_T40 x325005 x1).f2) ((rd_T40 x325005 x1).f3.f0) ((rd_T40 x325005 x1).f3.f1))) else (truantref09_Next.j1 k x5 false x325000 x325001 x325002 x325003 x325004 x325005 ((rd_T40 x325005 x1).f0) ((rd_T40 x325005 x1).f1) ((rd_T40 x325005 x1).f2) ((rd_T40 x325005 x1).f3.f0) ((rd_T40 x325005 x1).f3.f1)))) else (none)) else (none))
def truantref09_Next.j1 : Nat → List Int → Bool → ByteArray → List ByteArray → ByteArray → List ByteArray → List (S58) → List (S40) → List Int → Int → Int → Int → Int → Option (List Int)
 | 0, _, _, _, _, _, _, _, _, _, _, _, _, _ => none
 | k + 1, x5, x45, x325000, x325001, x325002, x325003, x325004, x325005, x330000, x330001, x330002, x330003, x330004 => if x45 = true then (if x5.length < 17592186044416 then ((some (x5 ++ [x330003] : List Int)).bind fun y330 => (if x330001 = 2 then (if x330004 = x330003 then (some y330) else (if x330004 ≥ 0 then (if x330004 < (x325005.length : Int) then (if y330.length < 17592186044416 then (some (y330 ++ [x330004])) else (none)) else (some y330)) else (some y330))) else (some y330))) else (none)) else (if x330001 = 2 then (if x330004 = x330003 then (some x5) else (if x330004 ≥ 0 then (if x330004 < (x325005.length : Int) then (if x5.length < 17592186044416 then (some (x5 ++ [x330004])) else (none)) else (some x5)) else (some x5))) else (some x5))
end
def truantref09_Next.f (k : Nat) (a0_0 : ByteArray) (l0_1 : List ByteArray) (a0_2 : ByteArray) (l0_3 : List ByteArray) (l0_4 : List (S58)) (l0_5 : List (S40)) (a1 : Int) : Option (List Int) := (some (([] : List Int) : List Int)).bind fun y325 => (if a1 < 0 then (truantref09_Next.j0 k a1 y325 true a0_0 l0_1 a0_2 l0_3 l0_4 l0_5) else (truantref09_Next.j0 k a1 y325 (decide (a1 ≥ (l0_5.length : Int))) a0_0 l0_1 a0_2 l0_3 l0_4 l0_5))
theorem truantref09_Next.mono_l : ∀ k, (∀ y0 y1 y2 y3 y4 y5 y6 y7 y8, LeO (truantref09_Next.j0 k y0 y1 y2 y3 y4 y5 y6 y7 y8) (truantref09_Next.j0 (k + 1) y0 y1 y2 y3 y4 y5 y6 y7 y8)) ∧ (∀ y0 y1 y2 y3 y4 y5 y6 y7 y8 y9 y10 y11 y12, LeO (truantref09_Next.j1 k y0 y1 y2 y3 y4 y5 y6 y7 y8 y9 y10 y11 y12) (truantref09_Next.j1 (k + 1) y0 y1 y2 y3 y4 y5 y6 y7 y8 y9 y10 y11 y12))
 | 0 => ⟨fun _ _ _ _ _ _ _ _ _ r h => by simp [truantref09_Next.j0] at h, fun _ _ _ _ _ _ _ _ _ _ _ _ _ r h => by simp [truantref09_Next.j1] at h⟩
 | k + 1 => by
  obtain ⟨ih0, ih1⟩ := truantref09_Next.mono_l k
  refine ⟨?_, ?_⟩
  ·intro y0 y1 y2 y3 y4 y5 y6 y7 y8
   unfold truantref09_Next.j0
   repeat' first
   | (with_reducible exact ih0 _ _ _ _ _ _ _ _ _)
   | (with_reducible exact ih1 _ _ _ _ _ _ _ _ _ _ _ _ _)
   | (with_reducible exact LeO.refl _)
   | (with_reducible exact LeO.none _)
   | (with_reducible refine LeO.ite ?_ ?_)
   | (with_reducible refine LeO.bind ?_ (fun _ => ?_))
   | exact ih0 _ _ _ _ _ _ _ _ _
   | exact ih1 _ _ _ _ _ _ _ _ _ _ _ _ _
   | exact LeO.none _
   | refine LeO.ite ?_ ?_
   | refine LeO.bind ?_ (fun _ => ?_)
  ·intro y0 y1 y2 y3 y4 y5 y6 y7 y8 y9 y10 y11 y12
   unfold truantref09_Next.j1
   repeat' first
   | (with_reducible exact ih0 _ _ _ _ _ _ _ _ _)
   | (with_reducible exact ih1 _ _ _ _ _ _ _ _ _ _ _ _ _)
   | (with_reducible exact LeO.refl _)
   | (with_reducible exact LeO.none _)
   | (with_reducible refine LeO.ite ?_ ?_)
   | (with_reducible refine LeO.bind ?_ (fun _ => ?_))
   | exact ih0 _ _ _ _ _ _ _ _ _
   | exact ih1 _ _ _ _ _ _ _ _ _ _ _ _ _
   | exact LeO.none _
   | refine LeO.ite ?_ ?_
   | refine LeO.bind ?_ (fun _ => ?_)
theorem truantref09_Next.mono : ∀ a0 a1 a2 a3 a4 a5 a6 k, LeO (truantref09_Next.f k a0 a1 a2 a3 a4 a5 a6) (truantref09_Next.f (k + 1) a0 a1 a2 a3 a4 a5 a6) := by
 intro a0 a1 a2 a3 a4 a5 a6 k
 obtain ⟨ih0, ih1⟩ := truantref09_Next.mono_l k
 unfold truantref09_Next.f
 repeat' first
   | (with_reducible exact ih0 _ _ _ _ _ _ _ _ _)
   | (with_reducible exact ih1 _ _ _ _ _ _ _ _ _ _ _ _ _)
   | (with_reducible exact LeO.refl _)
   | (with_reducible exact LeO.none _)
   | (with_reducible refine LeO.ite ?_ ?_)
   | (with_reducible refine LeO.bind ?_ (fun _ => ?_))
   | exact ih0 _ _ _ _ _ _ _ _ _
   | exact ih1 _ _ _ _ _ _ _ _ _ _ _ _ _
   | exact LeO.none _
   | refine LeO.ite ?_ ?_
   | refine LeO.bind ?_ (fun _ => ?_)
set_option maxHeartbeats 8000000 in
set_option maxRecDepth 100000 in
theorem truantref09_Next.calls (k : Nat) (a0_0 : ByteArray) (A0_1 : Option Addr) (c0_1 : Nat) (l0_1 : List ByteArray) (a0_2 : ByteArray) (A0_3 : Option Addr) (c0_3 : Nat) (l0_3 : List ByteArray) (A0_4 : Option Addr) (c0_4 : Nat) (l0_4 : List (S58)) (A0_5 : Option Addr) (c0_5 : Nat) (l0_5 : List (S40)) (a1 : Int) (r : List Int) (w : World) (hr0_1 : Kd.C Kd.string w A0_1 l0_1.length l0_1) (hc0_1 : l0_1.length ≤ c0_1) (hr0_3 : Kd.C Kd.string w A0_3 l0_3.length l0_3) (hc0_3 : l0_3.length ≤ c0_3) (hr0_4 : Kd.C k58 w A0_4 l0_4.length l0_4) (hc0_4 : l0_4.length ≤ c0_4) (hr0_5 : Kd.C k40 w A0_5 l0_5.length l0_5) (hc0_5 : l0_5.length ≤ c0_5) (h : truantref09_Next.f k a0_0 l0_1 a0_2 l0_3 l0_4 l0_5 a1 = some r) :
  Calls Try.prog 21 #[.agg #[.string a0_0, .slice A0_1 l0_1.length c0_1, .string a0_2, .slice A0_3 l0_3.length c0_3, .slice A0_4 l0_4.length c0_4, .slice A0_5 l0_5.length c0_5], .int .i64 a1] w fun e w' => ∃ v0_ : Value, e = .returned (v0_) ∧ Kd.R (Kd.int .i64) 3 w' w.heap.size (fun _ => True) v0_ r ∧ Below w.heap.size w w' := by
 have hu26 := Try.underlying26
 have hu40 := Try.underlying40
 have HR0_1 := Aside0.mk hr0_1
 have HC0_1 := Aside0.mk hc0_1
 clear hr0_1 hc0_1
 have HR0_3 := Aside0.mk hr0_3
 have HC0_3 := Aside0.mk hc0_3
 clear hr0_3 hc0_3
 have HR0_4 := Aside0.mk hr0_4
 have HC0_4 := Aside0.mk hc0_4
 clear hr0_4 hc0_4
 have HR0_5 := Aside0.mk hr0_5
 have HC0_5 := Aside0.mk hc0_5
 clear hr0_5 hc0_5
 have HB := Aside0.mk (Below.refl w.heap.size w)
 have H : ((some (([] : List Int) : List Int)).bind fun y325 => (if a1 < 0 then (truantref09_Next.j0 k a1 y325 true a0_0 l0_1 a0_2 l0_3 l0_4 l0_5) else (truantref09_Next.j0 k a1 y325 (decide (a1 ≥ (l0_5.length : Int))) a0_0 l0_1 a0_2 l0_3 l0_4 l0_5))) = some r := h
 clear h
 obtain ⟨y325, hy325⟩ : ∃ y_ : List Int, y_ = (([] : List Int)) := ⟨_, rfl⟩
 replace H : (if a1 < 0 then (truantref09_Next.j0 k a1 y325 true a0_0 l0_1 a0_2 l0_3 l0_4 l0_5) else (truantref09_Next.j0 k a1 y325 (decide (a1 ≥ (l0_5.length : Int))) a0_0 l0_1 a0_2 l0_3 l0_4 l0_5)) = some r := by first | (rw [hy325]; with_reducible exact H) | (have H2_ := (Option.bind_some _ _).symm.trans H; rw [hy325]; with_reducible exact H2_) | (have H2_ := (Option.bind_some _ _).symm.trans H; with_reducible exact H2_) | with_reducible exact H | (rw [hy325]; exact H) | exact H
 have Ny325 := Aside0.mk hy325
 clear hy325
 have HC3 := Aside0.mk H
 clear H
 go_enter Try.func21, Try.ntmps21
 go_upto_region 2 with (first | ((with_reducible refine gate_dst (N := 2) rfl ?_); (try (refine gate_guard (by rfl) ?_; dsimp only)); refine box_event ?hg (N := 2) ?hd (cs := #[.string a0_0, .slice A0_1 l0_1.length c0_1, .string a0_2, .slice A0_3 l0_3.length c0_3, .slice A0_4 l0_4.length c0_4, .slice A0_5 l0_5.length c0_5]) (t := 26) ?hr ?_; (case hd => rfl); (case hg => rfl); (case hr => first | (go_simp; done) | (go_simp; rfl)); intro gb324 hg w4 hbox hb; have n0_ := Aside0.mk (below_step (by repeat (first | (with_reducible first | exact HB.out | apply below_alloc | apply pw_below_drewN | apply below_drew1) | exact HB.out)) hb); have n1_ := Aside0.mk (hbox); have n2_ := Aside0.mk ((by rw [hg]; exact (below_size (by repeat (first | (with_reducible first | exact HB.out | apply below_alloc | apply pw_below_drewN | apply below_drew1) | exact HB.out))) : w.heap.size ≤ gb324)); have n3_ := Aside0.mk ((by rw [hg]; exact (below_size (by repeat (first | (with_reducible first | exact HB.out | apply below_alloc | apply pw_below_drewN | apply below_drew1) | exact HB.out))) : w.heap.size ≤ gb324)); clear HB; have HB := n0_; have BK324 := n1_; have GW324 := n2_; have GE324 := n3_; clear n0_ n1_ n2_ n3_; clear hb hbox hg) | ((with_reducible refine gate_dst (N := 7) rfl ?_); (try (refine gate_guard (by rfl) ?_; dsimp only)); refine Kd.R_lit (Kd.int .i64) _ 3 ?hg (N := 7) ?hd (xs := ([] : List Int)) (inner := []) (ok := fun _ => True) (okp := fun _ => True) ?hr ?hp (fun _ hk => hk) trivial (Below.refl _ _) (Nat.le_refl _) (by simp) ?_; (case hd => rfl); (case hg => rfl); (case hr => first | (go_simp; done) | (go_simp; rfl)); (case hp => exact (Reps.none _ _)); intro v326 w5 ho6 hb hg_ hnew_; clear hg_ hnew_; (first | rw [← Ny325.out] at ho6 | (simp only [Int.reduceToNat] at ho6; rw [← Ny325.out] at ho6)); have n0_ := Aside0.mk (Kd.R_lower ho6 (below_size (by repeat (first | (with_reducible first | exact HB.out | apply below_alloc | apply pw_below_drewN | apply below_drew1 | refine below_set ?_ GE324.out) | exact HB.out)))); have n1_ := Aside0.mk (blk_below (g := gb324) (o := .cells #[.string a0_0, .slice A0_1 l0_1.length c0_1, .string a0_2, .slice A0_3 l0_3.length c0_3, .slice A0_4 l0_4.length c0_4, .slice A0_5 l0_5.length c0_5] 26 (0, 0)) (by (with_reducible repeat (first | refine blk_drewN ?_ _ | refine blk_drew ?_ | refine blk_alloc ?_ _)); exact BK324.out) hb); have n2_ := Aside0.mk (below_step (by repeat (first | (with_reducible first | exact HB.out | apply below_alloc | apply pw_below_drewN | apply below_drew1 | refine below_set ?_ GE324.out) | exact HB.out)) hb); clear BK324; clear HB; have HO327 := n0_; have BK324 := n1_; have HB := n2_; clear n0_ n1_ n2_; clear hb ho6))
 (try simp only [Act.put, List.setIfInBounds_toArray, List.set_cons_zero, List.set_cons_succ])
 go_cut [16] (fun v16 wc => ∃ (kq : Nat) (x16_2 : Bool), v16 = .bool x16_2 ∧ Aside0 (truantref09_Next.j0 kq a1 y325 x16_2 a0_0 l0_1 a0_2 l0_3 l0_4 l0_5 = some r) ∧ Aside0 (kq ≤ k) ∧ Aside0 (Kd.R (Kd.int .i64) 3 wc w.heap.size (fun _ => True) v326 y325) ∧ Aside0 (wc.heap[gb324]? = some (.cells #[.string a0_0, (.slice A0_1 l0_1.length c0_1), .string a0_2, (.slice A0_3 l0_3.length c0_3), (.slice A0_4 l0_4.length c0_4), (.slice A0_5 l0_5.length c0_5)] 26 (0, 0))) ∧ Aside0 (Below w.heap.size w wc))
 case first =>
  have H := HC3.out
  clear HC3
  by_cases c7 : a1 < 0
  ·rw [if_pos c7] at H
   have c7b0 : decide (a1 < 0) = true := decide_eq_true c7
   clear c7
   (first | rw [c7b0] | (simp only [i64_w, i32_w]; rw [c7b0]) | skip)
   have H' := Aside0.mk H
   clear H
   go_wp2
   go_meet
   case rel => exact ⟨_, (true), (by first | rfl | (simp; done) | (simp [*]; done)), H', ⟨by first | omega | exact Nat.le_refl _⟩, ⟨by (with_reducible repeat (first | apply Kd.R_alloc | apply Kd.R_drewN | apply Kd.R_drew)); exact HO327.out⟩, ⟨by (with_reducible repeat (first | refine blk_drewN ?_ _ | refine blk_drew ?_ | refine blk_alloc ?_ _)); exact BK324.out⟩, ⟨by repeat (first | (with_reducible first | exact HB.out | apply below_alloc | apply pw_below_drewN | apply below_drew1 | refine below_set ?_ GE324.out) | exact HB.out)⟩⟩
  ·rw [if_neg c7] at H
   have c7b0 : decide (a1 < 0) = false := decide_eq_false c7
   clear c7
   (first | rw [c7b0] | (simp only [i64_w, i32_w]; rw [c7b0]) | skip)
   have H' := Aside0.mk H
   clear H
   have hcz8_0 : w5.cell? ⟨gb324, 0, none⟩ = some (.string a0_0) := (blk_cell BK324.out 0).trans rfl
   have hcz8_1 : w5.cell? ⟨gb324, 1, none⟩ = some (.slice A0_1 l0_1.length c0_1) := (blk_cell BK324.out 1).trans rfl
   have hcz8_2 : w5.cell? ⟨gb324, 2, none⟩ = some (.string a0_2) := (blk_cell BK324.out 2).trans rfl
   have hcz8_3 : w5.cell? ⟨gb324, 3, none⟩ = some (.slice A0_3 l0_3.length c0_3) := (blk_cell BK324.out 3).trans rfl
   have hcz8_4 : w5.cell? ⟨gb324, 4, none⟩ = some (.slice A0_4 l0_4.length c0_4) := (blk_cell BK324.out 4).trans rfl
   have hcz8_5 : w5.cell? ⟨gb324, 5, none⟩ = some (.slice A0_5 l0_5.length c0_5) := (blk_cell BK324.out 5).trans rfl
   have hfz8_0 := blk_frozen BK324.out 0
   have hfz8_1 := blk_frozen BK324.out 1
   have hfz8_2 := blk_frozen BK324.out 2
   have hfz8_3 := blk_frozen BK324.out 3
   have hfz8_4 := blk_frozen BK324.out 4
   have hfz8_5 := blk_frozen BK324.out 5
   go_wp2
   go_meet
   case rel => exact ⟨_, (decide (a1 ≥ (l0_5.length : Int))), (by first | rfl | (simp; done) | (simp [*]; done)), H', ⟨by first | omega | exact Nat.le_refl _⟩, ⟨by (with_reducible repeat (first | apply Kd.R_alloc | apply Kd.R_drewN | apply Kd.R_drew)); exact HO327.out⟩, ⟨by (with_reducible repeat (first | refine blk_drewN ?_ _ | refine blk_drew ?_ | refine blk_alloc ?_ _)); exact BK324.out⟩, ⟨by repeat (first | (with_reducible first | exact HB.out | apply below_alloc | apply pw_below_drewN | apply below_drew1 | refine below_set ?_ GE324.out) | exact HB.out)⟩⟩
 case rest =>
  clear HC3
  try clear c2
  try clear p2
  try clear c7
  try clear c7b0
  try clear hcz8_0
  try clear hcz8_1
  try clear hcz8_2
  try clear hcz8_3
  try clear hcz8_4
  try clear hcz8_5
  try clear hfz8_0
  try clear hfz8_1
  try clear hfz8_2
  try clear hfz8_3
  try clear hfz8_4
  try clear hfz8_5
  obtain ⟨kq, x16_2, rfl, HA, HJ2, HO_5, BK324, HB⟩ := hcut
  cases kq with
  | zero => exact absurd HA.out (by simp [truantref09_Next.j0])
  | succ kj2 =>
   have H := HA.out
   clear HA
   simp only [truantref09_Next.j0] at H
   by_cases c9 : x16_2 = true
   ·subst c9
    have H1 : (some y325) = some r := by rw [if_pos rfl] at H; exact H
    clear H
    have H := H1
    clear H1
    obtain rfl := Option.some.inj H
    go_wp2
    go_ret
    exact ⟨_, by first | rfl | (simp [errW_none, errW_some] <;> rfl) | (simp [*, errW_none, errW_some] <;> rfl), by (with_reducible repeat (first | apply Kd.R_alloc | apply Kd.R_drewN | apply Kd.R_drew)); exact HO_5.out, by repeat (first | (with_reducible first | exact HB.out | apply below_alloc | apply pw_below_drewN | apply below_drew1 | refine below_set ?_ GE324.out) | exact HB.out)⟩
   ·replace c9 := Bool.eq_false_iff.mpr c9
    subst c9
    have H1 : (if 0 ≤ a1 then (if a1 < (l0_5.length : Int) then (if ((rd_T40 l0_5 a1).f1) = 1 then (if ((rd_T40 l0_5 a1).f3.f0) ≥ 0 then (truantref09_Next.j1 kj2 y325 (decide (((rd_T40 l0_5 a1).f3.f0) < (l0_5.length : Int))) a0_0 l0_1 a0_2 l0_3 l0_4 l0_5 ((rd_T40 l0_5 a1).f0) ((rd_T40 l0_5 a1).f1) ((rd_T40 l0_5 a1).f2) ((rd_T40 l0_5 a1).f3.f0) ((rd_T40 l0_5 a1).f3.f1)) else (truantref09_Next.j1 kj2 y325 false a0_0 l0_1 a0_2 l0_3 l0_4 l0_5 ((rd_T40 l0_5 a1).f0) ((rd_T40 l0_5 a1).f1) ((rd_T40 l0_5 a1).f2) ((rd_T40 l0_5 a1).f3.f0) ((rd_T40 l0_5 a1).f3.f1))) else (if ((rd_T40 l0_5 a1).f1) = 2 then (if ((rd_T40 l0_5 a1).f3.f0) ≥ 0 then (truantref09_Next.j1 kj2 y325 (decide (((rd_T40 l0_5 a1).f3.f0) < (l0_5.length : Int))) a0_0 l0_1 a0_2 l0_3 l0_4 l0_5 ((rd_T40 l0_5 a1).f0) ((rd_T40 l0_5 a1).f1) ((rd_T40 l0_5 a1).f2) ((rd_T40 l0_5 a1).f3.f0) ((rd_T40 l0_5 a1).f3.f1)) else (truantref09_Next.j1 kj2 y325 false a0_0 l0_1 a0_2 l0_3 l0_4 l0_5 ((rd_T40 l0_5 a1).f0) ((rd_T40 l0_5 a1).f1) ((rd_T40 l0_5 a1).f2) ((rd_T40 l0_5 a1).f3.f0) ((rd_T40 l0_5 a1).f3.f1))) else (truantref09_Next.j1 kj2 y325 false a0_0 l0_1 a0_2 l0_3 l0_4 l0_5 ((rd_T40 l0_5 a1).f0) ((rd_T40 l0_5 a1).f1) ((rd_T40 l0_5 a1).f2) ((rd_T40 l0_5 a1).f3.f0) ((rd_T40 l0_5 a1).f3.f1)))) else (none)) else (none)) = some r := by rw [if_neg (show ¬ (false = true) by decide)] at H; exact H
    clear H
    have H := H1
    clear H1
    by_cases c10 : 0 ≤ a1
    ·rw [if_pos c10] at H
     have c10b0 : decide (0 ≤ a1) = true := decide_eq_true c10
     clear c10
     by_cases c11 : a1 < (l0_5.length : Int)
     ·rw [if_pos c11] at H
      have c11b0 : decide (a1 < (l0_5.length : Int)) = true := decide_eq_true c11
      clear c11
      have HC12 := Aside0.mk H
      clear H
      have hcz13_0 : wc.cell? ⟨gb324, 0, none⟩ = some (.string a0_0) := (blk_cell BK324.out 0).trans rfl
      have hcz13_1 : wc.cell? ⟨gb324, 1, none⟩ = some (.slice A0_1 l0_1.length c0_1) := (blk_cell BK324.out 1).trans rfl
      have hcz13_2 : wc.cell? ⟨gb324, 2, none⟩ = some (.string a0_2) := (blk_cell BK324.out 2).trans rfl
      have hcz13_3 : wc.cell? ⟨gb324, 3, none⟩ = some (.slice A0_3 l0_3.length c0_3) := (blk_cell BK324.out 3).trans rfl
      have hcz13_4 : wc.cell? ⟨gb324, 4, none⟩ = some (.slice A0_4 l0_4.length c0_4) := (blk_cell BK324.out 4).trans rfl
      have hcz13_5 : wc.cell? ⟨gb324, 5, none⟩ = some (.slice A0_5 l0_5.length c0_5) := (blk_cell BK324.out 5).trans rfl
      have hfz13_0 := blk_frozen BK324.out 0
      have hfz13_1 := blk_frozen BK324.out 1
      have hfz13_2 := blk_frozen BK324.out 2
      have hfz13_3 := blk_frozen BK324.out 3
      have hfz13_4 := blk_frozen BK324.out 4
      have hfz13_5 := blk_frozen BK324.out 5
      have p328 : 0 ≤ (a1 : Int) := of_decide_eq_true (by first | (with_reducible assumption) | assumption)
      have q328 : a1 < (l0_5.length : Int) := of_decide_eq_true (by first | (with_reducible assumption) | assumption)
      obtain ⟨ad328, A328_0, c328_0, e328, hx328_0, hx328_1, hx328_2, hx328_3, hx328_4, hl328_0, hi328_0⟩ := at_T40 HR0_5.out a1 p328 q328
      cases e328
      replace hx328_0 := (HB.out.cell (World.block_lt_of_cell? w _ hx328_0)).trans hx328_0
      replace hx328_1 := (HB.out.cell (World.block_lt_of_cell? w _ hx328_1)).trans hx328_1
      replace hx328_2 := (HB.out.cell (World.block_lt_of_cell? w _ hx328_2)).trans hx328_2
      replace hx328_3 := (HB.out.cell (World.block_lt_of_cell? w _ hx328_3)).trans hx328_3
      replace hx328_4 := (HB.out.cell (World.block_lt_of_cell? w _ hx328_4)).trans hx328_4
      have HR328_0 := Aside0.mk hi328_0
      have HC328_0 := Aside0.mk hl328_0
      clear hi328_0 hl328_0
      replace p328 := eq_true p328
      replace q328 := eq_true q328
      go_upto_region 5 with (first | ((with_reducible refine gate_dst (N := 6) rfl ?_); (try (refine gate_guard (by rfl) ?_; dsimp only)); refine box_event ?hg (N := 6) ?hd (cs := #[.slice none 0 0, .int .i64 0, .int .i64 0, .int .i64 0, .int .i64 0]) (t := 40) ?hr ?_; (case hd => rfl); (case hg => rfl); (case hr => first | (go_simp; done) | (go_simp; rfl)); intro gb329 hg w14 hbox hb; have n0_ := Aside0.mk (Kd.R_below (by (with_reducible repeat (first | apply Kd.R_alloc | apply Kd.R_drewN | apply Kd.R_drew)); exact HO_5.out) hb); have n1_ := Aside0.mk (blk_below (g := gb324) (o := .cells #[.string a0_0, .slice A0_1 l0_1.length c0_1, .string a0_2, .slice A0_3 l0_3.length c0_3, .slice A0_4 l0_4.length c0_4, .slice (some ad328) l0_5.length c0_5] 26 (0, 0)) (by (with_reducible repeat (first | refine blk_drewN ?_ _ | refine blk_drew ?_ | refine blk_alloc ?_ _)); exact BK324.out) hb); have n2_ := Aside0.mk (below_step (by repeat (first | (with_reducible first | exact HB.out | apply below_alloc | apply pw_below_drewN | apply below_drew1 | refine below_set ?_ GE324.out) | exact HB.out)) hb); have n3_ := Aside0.mk (hbox); have n4_ := Aside0.mk ((by rw [hg]; exact (below_size (by repeat (first | (with_reducible first | exact HB.out | apply below_alloc | apply pw_below_drewN | apply below_drew1 | refine below_set ?_ GE324.out) | exact HB.out))) : w.heap.size ≤ gb329)); have n5_ := Aside0.mk ((by rw [hg]; exact (below_size (by repeat (first | (with_reducible first | exact HB.out | apply below_alloc | apply pw_below_drewN | apply below_drew1 | refine below_set ?_ GE324.out) | exact HB.out))) : w.heap.size ≤ gb329)); have n6_ := Aside0.mk ((by rw [hg]; exact Nat.ne_of_lt (blk_lt (g := gb324) (o := .cells #[.string a0_0, .slice A0_1 l0_1.length c0_1, .string a0_2, .slice A0_3 l0_3.length c0_3, .slice A0_4 l0_4.length c0_4, .slice (some ad328) l0_5.length c0_5] 26 (0, 0)) (by (with_reducible repeat (first | refine blk_drewN ?_ _ | refine blk_drew ?_ | refine blk_alloc ?_ _)); exact BK324.out)) : gb324 ≠ gb329)); have n7_ := Aside0.mk ((by rw [hg]; exact Nat.ne_of_gt (blk_lt (g := gb324) (o := .cells #[.string a0_0, .slice A0_1 l0_1.length c0_1, .string a0_2, .slice A0_3 l0_3.length c0_3, .slice A0_4 l0_4.length c0_4, .slice (some ad328) l0_5.length c0_5] 26 (0, 0)) (by (with_reducible repeat (first | refine blk_drewN ?_ _ | refine blk_drew ?_ | refine blk_alloc ?_ _)); exact BK324.out)) : gb329 ≠ gb324)); clear HO_5; clear BK324; clear HB; have HO_5 := n0_; have BK324 := n1_; have HB := n2_; have BK329 := n3_; have GW329 := n4_; have GE329 := n5_; have NB324_329 := n6_; have NB329_324 := n7_; clear n0_ n1_ n2_ n3_ n4_ n5_ n6_ n7_; clear hb hbox hg; have hnb15 := NB329_324.out; have hnc15 := NB324_329.out; have hcz16_0 : w14.cell? ⟨gb329, 0, none⟩ = some (.slice none 0 0) := (blk_cell BK329.out 0).trans rfl; have hcz16_1 : w14.cell? ⟨gb329, 1, none⟩ = some (.int .i64 0) := (blk_cell BK329.out 1).trans rfl; have hcz16_2 : w14.cell? ⟨gb329, 2, none⟩ = some (.int .i64 0) := (blk_cell BK329.out 2).trans rfl; have hcz16_3 : w14.cell? ⟨gb329, 3, none⟩ = some (.int .i64 0) := (blk_cell BK329.out 3).trans rfl; have hcz16_4 : w14.cell? ⟨gb329, 4, none⟩ = some (.int .i64 0) := (blk_cell BK329.out 4).trans rfl; have hfz16_0 := blk_frozen BK329.out 0; have hfz16_1 := blk_frozen BK329.out 1; have hfz16_2 := blk_frozen BK329.out 2; have hfz16_3 := blk_frozen BK329.out 3; have hfz16_4 := blk_frozen BK329.out 4))
      (try simp only [Act.put, List.setIfInBounds_toArray, List.set_cons_zero, List.set_cons_succ])
      go_cut [45] (fun v45 wc => ∃ (kq : Nat) (x45_11 : Bool), v45 = .bool x45_11 ∧ Aside0 (truantref09_Next.j1 kq y325 x45_11 a0_0 l0_1 a0_2 l0_3 l0_4 l0_5 ((rd_T40 l0_5 a1).f0) ((rd_T40 l0_5 a1).f1) ((rd_T40 l0_5 a1).f2) ((rd_T40 l0_5 a1).f3.f0) ((rd_T40 l0_5 a1).f3.f1) = some r) ∧ Aside0 (kq ≤ kj2) ∧ Aside0 (Kd.R (Kd.int .i64) 3 wc w.heap.size (fun _ => True) v326 y325) ∧ Aside0 (wc.heap[gb324]? = some (.cells #[.string a0_0, (.slice A0_1 l0_1.length c0_1), .string a0_2, (.slice A0_3 l0_3.length c0_3), (.slice A0_4 l0_4.length c0_4), (.slice (some ad328) l0_5.length c0_5)] 26 (0, 0))) ∧ Aside0 (wc.heap[gb329]? = some (.cells #[(.slice A328_0 ((rd_T40 l0_5 a1).f0).length c328_0), .int .i64 ((rd_T40 l0_5 a1).f1), .int .i64 ((rd_T40 l0_5 a1).f2), .int .i64 ((rd_T40 l0_5 a1).f3.f0), .int .i64 ((rd_T40 l0_5 a1).f3.f1)] 40 (0, 0))) ∧ Aside0 (Below w.heap.size w wc))
      case first =>
       have H := HC12.out
       clear HC12
       by_cases c17 : ((rd_T40 l0_5 a1).f1) = 1
       ·rw [if_pos c17] at H
        have c17b0 : (((rd_T40 l0_5 a1).f1) == 1) = true := beq_iff_eq.mpr c17
        have c17b1 : (((rd_T40 l0_5 a1).f1) != 1) = false := bne_eq_false_iff_eq.mpr c17
        clear c17
        (first | rw [c17b0] | (simp only [i64_w, i32_w]; rw [c17b0]) | skip)
        by_cases c18 : ((rd_T40 l0_5 a1).f3.f0) ≥ 0
        ·rw [if_pos c18] at H
         have c18b0 : decide (0 ≤ ((rd_T40 l0_5 a1).f3.f0)) = true := decide_eq_true c18
         clear c18
         have H' := Aside0.mk H
         clear H
         have hnb19 := NB329_324.out
         have hnc19 := NB324_329.out
         have hcz20_0 : w14.cell? ⟨gb329, 0, none⟩ = some (.slice none 0 0) := (blk_cell BK329.out 0).trans rfl
         have hcz20_1 : w14.cell? ⟨gb329, 1, none⟩ = some (.int .i64 0) := (blk_cell BK329.out 1).trans rfl
         have hcz20_2 : w14.cell? ⟨gb329, 2, none⟩ = some (.int .i64 0) := (blk_cell BK329.out 2).trans rfl
         have hcz20_3 : w14.cell? ⟨gb329, 3, none⟩ = some (.int .i64 0) := (blk_cell BK329.out 3).trans rfl
         have hcz20_4 : w14.cell? ⟨gb329, 4, none⟩ = some (.int .i64 0) := (blk_cell BK329.out 4).trans rfl
         have hfz20_0 := blk_frozen BK329.out 0
         have hfz20_1 := blk_frozen BK329.out 1
         have hfz20_2 := blk_frozen BK329.out 2
         have hfz20_3 := blk_frozen BK329.out 3
         have hfz20_4 := blk_frozen BK329.out 4
         have hcz21_0 : w14.cell? ⟨gb324, 0, none⟩ = some (.string a0_0) := (blk_cell BK324.out 0).trans rfl
         have hcz21_1 : w14.cell? ⟨gb324, 1, none⟩ = some (.slice A0_1 l0_1.length c0_1) := (blk_cell BK324.out 1).trans rfl
         have hcz21_2 : w14.cell? ⟨gb324, 2, none⟩ = some (.string a0_2) := (blk_cell BK324.out 2).trans rfl
         have hcz21_3 : w14.cell? ⟨gb324, 3, none⟩ = some (.slice A0_3 l0_3.length c0_3) := (blk_cell BK324.out 3).trans rfl
         have hcz21_4 : w14.cell? ⟨gb324, 4, none⟩ = some (.slice A0_4 l0_4.length c0_4) := (blk_cell BK324.out 4).trans rfl
         have hcz21_5 : w14.cell? ⟨gb324, 5, none⟩ = some (.slice (some ad328) l0_5.length c0_5) := (blk_cell BK324.out 5).trans rfl
         have hfz21_0 := blk_frozen BK324.out 0
         have hfz21_1 := blk_frozen BK324.out 1
         have hfz21_2 := blk_frozen BK324.out 2
         have hfz21_3 := blk_frozen BK324.out 3
         have hfz21_4 := blk_frozen BK324.out 4
         have hfz21_5 := blk_frozen BK324.out 5
         go_wp2
         go_meet
         case rel => exact ⟨_, (decide (((rd_T40 l0_5 a1).f3.f0) < (l0_5.length : Int))), (by first | rfl | (simp; done) | (simp [*]; done)), H', ⟨by have := HJ2.out; first | omega | exact Nat.le_refl _⟩, ⟨by (with_reducible repeat (first | apply Kd.R_alloc | apply Kd.R_drewN | apply Kd.R_drew)); exact Kd.R_mono (Kd.R_far (p := ⟨gb329, 4, none⟩) (Kd.R_far (p := ⟨gb329, 3, none⟩) (Kd.R_far (p := ⟨gb329, 2, none⟩) (Kd.R_far (p := ⟨gb329, 1, none⟩) (Kd.R_far (p := ⟨gb329, 0, none⟩) (Kd.R_types HO_5.out BK329.out (by decide)) (fun _ hk => hk.2) (.slice A328_0 ((rd_T40 l0_5 a1).f0).length c328_0)) (fun _ hk => hk.2) (.int .i64 ((rd_T40 l0_5 a1).f1))) (fun _ hk => hk.2) (.int .i64 ((rd_T40 l0_5 a1).f2))) (fun _ hk => hk.2) (.int .i64 ((rd_T40 l0_5 a1).f3.f0))) (fun _ hk => hk.2) (.int .i64 ((rd_T40 l0_5 a1).f3.f1))) (fun _ hk => trivial)⟩, ⟨by (with_reducible repeat (first | refine blk_drewN ?_ _ | refine blk_drew ?_ | refine blk_alloc ?_ _)); refine blk_far ?_ NB324_329.out _; (with_reducible repeat (first | refine blk_drewN ?_ _ | refine blk_drew ?_ | refine blk_alloc ?_ _)); refine blk_far ?_ NB324_329.out _; (with_reducible repeat (first | refine blk_drewN ?_ _ | refine blk_drew ?_ | refine blk_alloc ?_ _)); refine blk_far ?_ NB324_329.out _; (with_reducible repeat (first | refine blk_drewN ?_ _ | refine blk_drew ?_ | refine blk_alloc ?_ _)); refine blk_far ?_ NB324_329.out _; (with_reducible repeat (first | refine blk_drewN ?_ _ | refine blk_drew ?_ | refine blk_alloc ?_ _)); refine blk_far ?_ NB324_329.out _; (with_reducible repeat (first | refine blk_drewN ?_ _ | refine blk_drew ?_ | refine blk_alloc ?_ _)); exact BK324.out⟩, ⟨by (with_reducible repeat (first | refine blk_drewN ?_ _ | refine blk_drew ?_ | refine blk_alloc ?_ _)); refine blk_put (cs := #[.slice A328_0 ((rd_T40 l0_5 a1).f0).length c328_0, .int .i64 ((rd_T40 l0_5 a1).f1), .int .i64 ((rd_T40 l0_5 a1).f2), .int .i64 ((rd_T40 l0_5 a1).f3.f0), .int .i64 0]) ?_ 4 _ rfl; (with_reducible repeat (first | refine blk_drewN ?_ _ | refine blk_drew ?_ | refine blk_alloc ?_ _)); refine blk_put (cs := #[.slice A328_0 ((rd_T40 l0_5 a1).f0).length c328_0, .int .i64 ((rd_T40 l0_5 a1).f1), .int .i64 ((rd_T40 l0_5 a1).f2), .int .i64 0, .int .i64 0]) ?_ 3 _ rfl; (with_reducible repeat (first | refine blk_drewN ?_ _ | refine blk_drew ?_ | refine blk_alloc ?_ _)); refine blk_put (cs := #[.slice A328_0 ((rd_T40 l0_5 a1).f0).length c328_0, .int .i64 ((rd_T40 l0_5 a1).f1), .int .i64 0, .int .i64 0, .int .i64 0]) ?_ 2 _ rfl; (with_reducible repeat (first | refine blk_drewN ?_ _ | refine blk_drew ?_ | refine blk_alloc ?_ _)); refine blk_put (cs := #[.slice A328_0 ((rd_T40 l0_5 a1).f0).length c328_0, .int .i64 0, .int .i64 0, .int .i64 0, .int .i64 0]) ?_ 1 _ rfl; (with_reducible repeat (first | refine blk_drewN ?_ _ | refine blk_drew ?_ | refine blk_alloc ?_ _)); refine blk_put (cs := #[.slice none 0 0, .int .i64 0, .int .i64 0, .int .i64 0, .int .i64 0]) ?_ 0 _ rfl; (with_reducible repeat (first | refine blk_drewN ?_ _ | refine blk_drew ?_ | refine blk_alloc ?_ _)); exact BK329.out⟩, ⟨by repeat (first | (with_reducible first | exact HB.out | apply below_alloc | apply pw_below_drewN | apply below_drew1 | refine below_set ?_ GE324.out | refine below_set ?_ GE329.out) | exact HB.out)⟩⟩
        ·rw [if_neg c18] at H
         have c18b0 : decide (0 ≤ ((rd_T40 l0_5 a1).f3.f0)) = false := decide_eq_false c18
         clear c18
         have H' := Aside0.mk H
         clear H
         have hnb22 := NB329_324.out
         have hnc22 := NB324_329.out
         have hcz23_0 : w14.cell? ⟨gb329, 0, none⟩ = some (.slice none 0 0) := (blk_cell BK329.out 0).trans rfl
         have hcz23_1 : w14.cell? ⟨gb329, 1, none⟩ = some (.int .i64 0) := (blk_cell BK329.out 1).trans rfl
         have hcz23_2 : w14.cell? ⟨gb329, 2, none⟩ = some (.int .i64 0) := (blk_cell BK329.out 2).trans rfl
         have hcz23_3 : w14.cell? ⟨gb329, 3, none⟩ = some (.int .i64 0) := (blk_cell BK329.out 3).trans rfl
         have hcz23_4 : w14.cell? ⟨gb329, 4, none⟩ = some (.int .i64 0) := (blk_cell BK329.out 4).trans rfl
         have hfz23_0 := blk_frozen BK329.out 0
         have hfz23_1 := blk_frozen BK329.out 1
         have hfz23_2 := blk_frozen BK329.out 2
         have hfz23_3 := blk_frozen BK329.out 3
         have hfz23_4 := blk_frozen BK329.out 4
         go_wp2
         go_meet
         case rel => exact ⟨_, (false), (by first | rfl | (simp; done) | (simp [*]; done)), H', ⟨by have := HJ2.out; first | omega | exact Nat.le_refl _⟩, ⟨by (with_reducible repeat (first | apply Kd.R_alloc | apply Kd.R_drewN | apply Kd.R_drew)); exact Kd.R_mono (Kd.R_far (p := ⟨gb329, 4, none⟩) (Kd.R_far (p := ⟨gb329, 3, none⟩) (Kd.R_far (p := ⟨gb329, 2, none⟩) (Kd.R_far (p := ⟨gb329, 1, none⟩) (Kd.R_far (p := ⟨gb329, 0, none⟩) (Kd.R_types HO_5.out BK329.out (by decide)) (fun _ hk => hk.2) (.slice A328_0 ((rd_T40 l0_5 a1).f0).length c328_0)) (fun _ hk => hk.2) (.int .i64 ((rd_T40 l0_5 a1).f1))) (fun _ hk => hk.2) (.int .i64 ((rd_T40 l0_5 a1).f2))) (fun _ hk => hk.2) (.int .i64 ((rd_T40 l0_5 a1).f3.f0))) (fun _ hk => hk.2) (.int .i64 ((rd_T40 l0_5 a1).f3.f1))) (fun _ hk => trivial)⟩, ⟨by (with_reducible repeat (first | refine blk_drewN ?_ _ | refine blk_drew ?_ | refine blk_alloc ?_ _)); refine blk_far ?_ NB324_329.out _; (with_reducible repeat (first | refine blk_drewN ?_ _ | refine blk_drew ?_ | refine blk_alloc ?_ _)); refine blk_far ?_ NB324_329.out _; (with_reducible repeat (first | refine blk_drewN ?_ _ | refine blk_drew ?_ | refine blk_alloc ?_ _)); refine blk_far ?_ NB324_329.out _; (with_reducible repeat (first | refine blk_drewN ?_ _ | refine blk_drew ?_ | refine blk_alloc ?_ _)); refine blk_far ?_ NB324_329.out _; (with_reducible repeat (first | refine blk_drewN ?_ _ | refine blk_drew ?_ | refine blk_alloc ?_ _)); refine blk_far ?_ NB324_329.out _; (with_reducible repeat (first | refine blk_drewN ?_ _ | refine blk_drew ?_ | refine blk_alloc ?_ _)); exact BK324.out⟩, ⟨by (with_reducible repeat (first | refine blk_drewN ?_ _ | refine blk_drew ?_ | refine blk_alloc ?_ _)); refine blk_put (cs := #[.slice A328_0 ((rd_T40 l0_5 a1).f0).length c328_0, .int .i64 ((rd_T40 l0_5 a1).f1), .int .i64 ((rd_T40 l0_5 a1).f2), .int .i64 ((rd_T40 l0_5 a1).f3.f0), .int .i64 0]) ?_ 4 _ rfl; (with_reducible repeat (first | refine blk_drewN ?_ _ | refine blk_drew ?_ | refine blk_alloc ?_ _)); refine blk_put (cs := #[.slice A328_0 ((rd_T40 l0_5 a1).f0).length c328_0, .int .i64 ((rd_T40 l0_5 a1).f1), .int .i64 ((rd_T40 l0_5 a1).f2), .int .i64 0, .int .i64 0]) ?_ 3 _ rfl; (with_reducible repeat (first | refine blk_drewN ?_ _ | refine blk_drew ?_ | refine blk_alloc ?_ _)); refine blk_put (cs := #[.slice A328_0 ((rd_T40 l0_5 a1).f0).length c328_0, .int .i64 ((rd_T40 l0_5 a1).f1), .int .i64 0, .int .i64 0, .int .i64 0]) ?_ 2 _ rfl; (with_reducible repeat (first | refine blk_drewN ?_ _ | refine blk_drew ?_ | refine blk_alloc ?_ _)); refine blk_put (cs := #[.slice A328_0 ((rd_T40 l0_5 a1).f0).length c328_0, .int .i64 0, .int .i64 0, .int .i64 0, .int .i64 0]) ?_ 1 _ rfl; (with_reducible repeat (first | refine blk_drewN ?_ _ | refine blk_drew ?_ | refine blk_alloc ?_ _)); refine blk_put (cs := #[.slice none 0 0, .int .i64 0, .int .i64 0, .int .i64 0, .int .i64 0]) ?_ 0 _ rfl; (with_reducible repeat (first | refine blk_drewN ?_ _ | refine blk_drew ?_ | refine blk_alloc ?_ _)); exact BK329.out⟩, ⟨by repeat (first | (with_reducible first | exact HB.out | apply below_alloc | apply pw_below_drewN | apply below_drew1 | refine below_set ?_ GE324.out | refine below_set ?_ GE329.out) | exact HB.out)⟩⟩
       ·rw [if_neg c17] at H
        have c17b0 : (((rd_T40 l0_5 a1).f1) == 1) = false := beq_eq_false_iff_ne.mpr c17
        have c17b1 : (((rd_T40 l0_5 a1).f1) != 1) = true := bne_iff_ne.mpr c17
        (first | rw [c17b0] | (simp only [i64_w, i32_w]; rw [c17b0]) | skip)
        by_cases c24 : ((rd_T40 l0_5 a1).f1) = 2
        ·rw [if_pos c24] at H
         have c24b0 : (((rd_T40 l0_5 a1).f1) == 2) = true := beq_iff_eq.mpr c24
         have c24b1 : (((rd_T40 l0_5 a1).f1) != 2) = false := bne_eq_false_iff_eq.mpr c24
         clear c24
         by_cases c25 : ((rd_T40 l0_5 a1).f3.f0) ≥ 0
         ·rw [if_pos c25] at H
          have c25b0 : decide (0 ≤ ((rd_T40 l0_5 a1).f3.f0)) = true := decide_eq_true c25
          clear c25
          have H' := Aside0.mk H
          clear H
          have hnb26 := NB329_324.out
          have hnc26 := NB324_329.out
          have hcz27_0 : w14.cell? ⟨gb329, 0, none⟩ = some (.slice none 0 0) := (blk_cell BK329.out 0).trans rfl
          have hcz27_1 : w14.cell? ⟨gb329, 1, none⟩ = some (.int .i64 0) := (blk_cell BK329.out 1).trans rfl
          have hcz27_2 : w14.cell? ⟨gb329, 2, none⟩ = some (.int .i64 0) := (blk_cell BK329.out 2).trans rfl
          have hcz27_3 : w14.cell? ⟨gb329, 3, none⟩ = some (.int .i64 0) := (blk_cell BK329.out 3).trans rfl
          have hcz27_4 : w14.cell? ⟨gb329, 4, none⟩ = some (.int .i64 0) := (blk_cell BK329.out 4).trans rfl
          have hfz27_0 := blk_frozen BK329.out 0
          have hfz27_1 := blk_frozen BK329.out 1
          have hfz27_2 := blk_frozen BK329.out 2
          have hfz27_3 := blk_frozen BK329.out 3
          have hfz27_4 := blk_frozen BK329.out 4
          have hcz28_0 : w14.cell? ⟨gb324, 0, none⟩ = some (.string a0_0) := (blk_cell BK324.out 0).trans rfl
          have hcz28_1 : w14.cell? ⟨gb324, 1, none⟩ = some (.slice A0_1 l0_1.length c0_1) := (blk_cell BK324.out 1).trans rfl
          have hcz28_2 : w14.cell? ⟨gb324, 2, none⟩ = some (.string a0_2) := (blk_cell BK324.out 2).trans rfl
          have hcz28_3 : w14.cell? ⟨gb324, 3, none⟩ = some (.slice A0_3 l0_3.length c0_3) := (blk_cell BK324.out 3).trans rfl
          have hcz28_4 : w14.cell? ⟨gb324, 4, none⟩ = some (.slice A0_4 l0_4.length c0_4) := (blk_cell BK324.out 4).trans rfl
          have hcz28_5 : w14.cell? ⟨gb324, 5, none⟩ = some (.slice (some ad328) l0_5.length c0_5) := (blk_cell BK324.out 5).trans rfl
          have hfz28_0 := blk_frozen BK324.out 0
          have hfz28_1 := blk_frozen BK324.out 1
          have hfz28_2 := blk_frozen BK324.out 2
          have hfz28_3 := blk_frozen BK324.out 3
          have hfz28_4 := blk_frozen BK324.out 4
          have hfz28_5 := blk_frozen BK324.out 5
          go_wp2
          go_meet
          case rel => exact ⟨_, (decide (((rd_T40 l0_5 a1).f3.f0) < (l0_5.length : Int))), (by first | rfl | (simp; done) | (simp [*]; done)), H', ⟨by have := HJ2.out; first | omega | exact Nat.le_refl _⟩, ⟨by (with_reducible repeat (first | apply Kd.R_alloc | apply Kd.R_drewN | apply Kd.R_drew)); exact Kd.R_mono (Kd.R_far (p := ⟨gb329, 4, none⟩) (Kd.R_far (p := ⟨gb329, 3, none⟩) (Kd.R_far (p := ⟨gb329, 2, none⟩) (Kd.R_far (p := ⟨gb329, 1, none⟩) (Kd.R_far (p := ⟨gb329, 0, none⟩) (Kd.R_types HO_5.out BK329.out (by decide)) (fun _ hk => hk.2) (.slice A328_0 ((rd_T40 l0_5 a1).f0).length c328_0)) (fun _ hk => hk.2) (.int .i64 ((rd_T40 l0_5 a1).f1))) (fun _ hk => hk.2) (.int .i64 ((rd_T40 l0_5 a1).f2))) (fun _ hk => hk.2) (.int .i64 ((rd_T40 l0_5 a1).f3.f0))) (fun _ hk => hk.2) (.int .i64 ((rd_T40 l0_5 a1).f3.f1))) (fun _ hk => trivial)⟩, ⟨by (with_reducible repeat (first | refine blk_drewN ?_ _ | refine blk_drew ?_ | refine blk_alloc ?_ _)); refine blk_far ?_ NB324_329.out _; (with_reducible repeat (first | refine blk_drewN ?_ _ | refine blk_drew ?_ | refine blk_alloc ?_ _)); refine blk_far ?_ NB324_329.out _; (with_reducible repeat (first | refine blk_drewN ?_ _ | refine blk_drew ?_ | refine blk_alloc ?_ _)); refine blk_far ?_ NB324_329.out _; (with_reducible repeat (first | refine blk_drewN ?_ _ | refine blk_drew ?_ | refine blk_alloc ?_ _)); refine blk_far ?_ NB324_329.out _; (with_reducible repeat (first | refine blk_drewN ?_ _ | refine blk_drew ?_ | refine blk_alloc ?_ _)); refine blk_far ?_ NB324_329.out _; (with_reducible repeat (first | refine blk_drewN ?_ _ | refine blk_drew ?_ | refine blk_alloc ?_ _)); exact BK324.out⟩, ⟨by (with_reducible repeat (first | refine blk_drewN ?_ _ | refine blk_drew ?_ | refine blk_alloc ?_ _)); refine blk_put (cs := #[.slice A328_0 ((rd_T40 l0_5 a1).f0).length c328_0, .int .i64 ((rd_T40 l0_5 a1).f1), .int .i64 ((rd_T40 l0_5 a1).f2), .int .i64 ((rd_T40 l0_5 a1).f3.f0), .int .i64 0]) ?_ 4 _ rfl; (with_reducible repeat (first | refine blk_drewN ?_ _ | refine blk_drew ?_ | refine blk_alloc ?_ _)); refine blk_put (cs := #[.slice A328_0 ((rd_T40 l0_5 a1).f0).length c328_0, .int .i64 ((rd_T40 l0_5 a1).f1), .int .i64 ((rd_T40 l0_5 a1).f2), .int .i64 0, .int .i64 0]) ?_ 3 _ rfl; (with_reducible repeat (first | refine blk_drewN ?_ _ | refine blk_drew ?_ | refine blk_alloc ?_ _)); refine blk_put (cs := #[.slice A328_0 ((rd_T40 l0_5 a1).f0).length c328_0, .int .i64 ((rd_T40 l0_5 a1).f1), .int .i64 0, .int .i64 0, .int .i64 0]) ?_ 2 _ rfl; (with_reducible repeat (first | refine blk_drewN ?_ _ | refine blk_drew ?_ | refine blk_alloc ?_ _)); refine blk_put (cs := #[.slice A328_0 ((rd_T40 l0_5 a1).f0).length c328_0, .int .i64 0, .int .i64 0, .int .i64 0, .int .i64 0]) ?_ 1 _ rfl; (with_reducible repeat (first | refine blk_drewN ?_ _ | refine blk_drew ?_ | refine blk_alloc ?_ _)); refine blk_put (cs := #[.slice none 0 0, .int .i64 0, .int .i64 0, .int .i64 0, .int .i64 0]) ?_ 0 _ rfl; (with_reducible repeat (first | refine blk_drewN ?_ _ | refine blk_drew ?_ | refine blk_alloc ?_ _)); exact BK329.out⟩, ⟨by repeat (first | (with_reducible first | exact HB.out | apply below_alloc | apply pw_below_drewN | apply below_drew1 | refine below_set ?_ GE324.out | refine below_set ?_ GE329.out) | exact HB.out)⟩⟩
         ·rw [if_neg c25] at H
          have c25b0 : decide (0 ≤ ((rd_T40 l0_5 a1).f3.f0)) = false := decide_eq_false c25
          clear c25
          have H' := Aside0.mk H
          clear H
          have hnb29 := NB329_324.out
          have hnc29 := NB324_329.out
          have hcz30_0 : w14.cell? ⟨gb329, 0, none⟩ = some (.slice none 0 0) := (blk_cell BK329.out 0).trans rfl
          have hcz30_1 : w14.cell? ⟨gb329, 1, none⟩ = some (.int .i64 0) := (blk_cell BK329.out 1).trans rfl
          have hcz30_2 : w14.cell? ⟨gb329, 2, none⟩ = some (.int .i64 0) := (blk_cell BK329.out 2).trans rfl
          have hcz30_3 : w14.cell? ⟨gb329, 3, none⟩ = some (.int .i64 0) := (blk_cell BK329.out 3).trans rfl
          have hcz30_4 : w14.cell? ⟨gb329, 4, none⟩ = some (.int .i64 0) := (blk_cell BK329.out 4).trans rfl
          have hfz30_0 := blk_frozen BK329.out 0
          have hfz30_1 := blk_frozen BK329.out 1
          have hfz30_2 := blk_frozen BK329.out 2
          have hfz30_3 := blk_frozen BK329.out 3
          have hfz30_4 := blk_frozen BK329.out 4
          go_wp2
          go_meet
          case rel => exact ⟨_, (false), (by first | rfl | (simp; done) | (simp [*]; done)), H', ⟨by have := HJ2.out; first | omega | exact Nat.le_refl _⟩, ⟨by (with_reducible repeat (first | apply Kd.R_alloc | apply Kd.R_drewN | apply Kd.R_drew)); exact Kd.R_mono (Kd.R_far (p := ⟨gb329, 4, none⟩) (Kd.R_far (p := ⟨gb329, 3, none⟩) (Kd.R_far (p := ⟨gb329, 2, none⟩) (Kd.R_far (p := ⟨gb329, 1, none⟩) (Kd.R_far (p := ⟨gb329, 0, none⟩) (Kd.R_types HO_5.out BK329.out (by decide)) (fun _ hk => hk.2) (.slice A328_0 ((rd_T40 l0_5 a1).f0).length c328_0)) (fun _ hk => hk.2) (.int .i64 ((rd_T40 l0_5 a1).f1))) (fun _ hk => hk.2) (.int .i64 ((rd_T40 l0_5 a1).f2))) (fun _ hk => hk.2) (.int .i64 ((rd_T40 l0_5 a1).f3.f0))) (fun _ hk => hk.2) (.int .i64 ((rd_T40 l0_5 a1).f3.f1))) (fun _ hk => trivial)⟩, ⟨by (with_reducible repeat (first | refine blk_drewN ?_ _ | refine blk_drew ?_ | refine blk_alloc ?_ _)); refine blk_far ?_ NB324_329.out _; (with_reducible repeat (first | refine blk_drewN ?_ _ | refine blk_drew ?_ | refine blk_alloc ?_ _)); refine blk_far ?_ NB324_329.out _; (with_reducible repeat (first | refine blk_drewN ?_ _ | refine blk_drew ?_ | refine blk_alloc ?_ _)); refine blk_far ?_ NB324_329.out _; (with_reducible repeat (first | refine blk_drewN ?_ _ | refine blk_drew ?_ | refine blk_alloc ?_ _)); refine blk_far ?_ NB324_329.out _; (with_reducible repeat (first | refine blk_drewN ?_ _ | refine blk_drew ?_ | refine blk_alloc ?_ _)); refine blk_far ?_ NB324_329.out _; (with_reducible repeat (first | refine blk_drewN ?_ _ | refine blk_drew ?_ | refine blk_alloc ?_ _)); exact BK324.out⟩, ⟨by (with_reducible repeat (first | refine blk_drewN ?_ _ | refine blk_drew ?_ | refine blk_alloc ?_ _)); refine blk_put (cs := #[.slice A328_0 ((rd_T40 l0_5 a1).f0).length c328_0, .int .i64 ((rd_T40 l0_5 a1).f1), .int .i64 ((rd_T40 l0_5 a1).f2), .int .i64 ((rd_T40 l0_5 a1).f3.f0), .int .i64 0]) ?_ 4 _ rfl; (with_reducible repeat (first | refine blk_drewN ?_ _ | refine blk_drew ?_ | refine blk_alloc ?_ _)); refine blk_put (cs := #[.slice A328_0 ((rd_T40 l0_5 a1).f0).length c328_0, .int .i64 ((rd_T40 l0_5 a1).f1), .int .i64 ((rd_T40 l0_5 a1).f2), .int .i64 0, .int .i64 0]) ?_ 3 _ rfl; (with_reducible repeat (first | refine blk_drewN ?_ _ | refine blk_drew ?_ | refine blk_alloc ?_ _)); refine blk_put (cs := #[.slice A328_0 ((rd_T40 l0_5 a1).f0).length c328_0, .int .i64 ((rd_T40 l0_5 a1).f1), .int .i64 0, .int .i64 0, .int .i64 0]) ?_ 2 _ rfl; (with_reducible repeat (first | refine blk_drewN ?_ _ | refine blk_drew ?_ | refine blk_alloc ?_ _)); refine blk_put (cs := #[.slice A328_0 ((rd_T40 l0_5 a1).f0).length c328_0, .int .i64 0, .int .i64 0, .int .i64 0, .int .i64 0]) ?_ 1 _ rfl; (with_reducible repeat (first | refine blk_drewN ?_ _ | refine blk_drew ?_ | refine blk_alloc ?_ _)); refine blk_put (cs := #[.slice none 0 0, .int .i64 0, .int .i64 0, .int .i64 0, .int .i64 0]) ?_ 0 _ rfl; (with_reducible repeat (first | refine blk_drewN ?_ _ | refine blk_drew ?_ | refine blk_alloc ?_ _)); exact BK329.out⟩, ⟨by repeat (first | (with_reducible first | exact HB.out | apply below_alloc | apply pw_below_drewN | apply below_drew1 | refine below_set ?_ GE324.out | refine below_set ?_ GE329.out) | exact HB.out)⟩⟩
        ·rw [if_neg c24] at H
         have c24b0 : (((rd_T40 l0_5 a1).f1) == 2) = false := beq_eq_false_iff_ne.mpr c24
         have c24b1 : (((rd_T40 l0_5 a1).f1) != 2) = true := bne_iff_ne.mpr c24
         have H' := Aside0.mk H
         clear H
         have hnb31 := NB329_324.out
         have hnc31 := NB324_329.out
         have hcz32_0 : w14.cell? ⟨gb329, 0, none⟩ = some (.slice none 0 0) := (blk_cell BK329.out 0).trans rfl
         have hcz32_1 : w14.cell? ⟨gb329, 1, none⟩ = some (.int .i64 0) := (blk_cell BK329.out 1).trans rfl
         have hcz32_2 : w14.cell? ⟨gb329, 2, none⟩ = some (.int .i64 0) := (blk_cell BK329.out 2).trans rfl
         have hcz32_3 : w14.cell? ⟨gb329, 3, none⟩ = some (.int .i64 0) := (blk_cell BK329.out 3).trans rfl
         have hcz32_4 : w14.cell? ⟨gb329, 4, none⟩ = some (.int .i64 0) := (blk_cell BK329.out 4).trans rfl
         have hfz32_0 := blk_frozen BK329.out 0
         have hfz32_1 := blk_frozen BK329.out 1
         have hfz32_2 := blk_frozen BK329.out 2
         have hfz32_3 := blk_frozen BK329.out 3
         have hfz32_4 := blk_frozen BK329.out 4
         go_wp2
         go_meet
         case rel => exact ⟨_, (false), (by first | rfl | (simp; done) | (simp [*]; done)), H', ⟨by have := HJ2.out; first | omega | exact Nat.le_refl _⟩, ⟨by (with_reducible repeat (first | apply Kd.R_alloc | apply Kd.R_drewN | apply Kd.R_drew)); exact Kd.R_mono (Kd.R_far (p := ⟨gb329, 4, none⟩) (Kd.R_far (p := ⟨gb329, 3, none⟩) (Kd.R_far (p := ⟨gb329, 2, none⟩) (Kd.R_far (p := ⟨gb329, 1, none⟩) (Kd.R_far (p := ⟨gb329, 0, none⟩) (Kd.R_types HO_5.out BK329.out (by decide)) (fun _ hk => hk.2) (.slice A328_0 ((rd_T40 l0_5 a1).f0).length c328_0)) (fun _ hk => hk.2) (.int .i64 ((rd_T40 l0_5 a1).f1))) (fun _ hk => hk.2) (.int .i64 ((rd_T40 l0_5 a1).f2))) (fun _ hk => hk.2) (.int .i64 ((rd_T40 l0_5 a1).f3.f0))) (fun _ hk => hk.2) (.int .i64 ((rd_T40 l0_5 a1).f3.f1))) (fun _ hk => trivial)⟩, ⟨by (with_reducible repeat (first | refine blk_drewN ?_ _ | refine blk_drew ?_ | refine blk_alloc ?_ _)); refine blk_far ?_ NB324_329.out _; (with_reducible repeat (first | refine blk_drewN ?_ _ | refine blk_drew ?_ | refine blk_alloc ?_ _)); refine blk_far ?_ NB324_329.out _; (with_reducible repeat (first | refine blk_drewN ?_ _ | refine blk_drew ?_ | refine blk_alloc ?_ _)); refine blk_far ?_ NB324_329.out _; (with_reducible repeat (first | refine blk_drewN ?_ _ | refine blk_drew ?_ | refine blk_alloc ?_ _)); refine blk_far ?_ NB324_329.out _; (with_reducible repeat (first | refine blk_drewN ?_ _ | refine blk_drew ?_ | refine blk_alloc ?_ _)); refine blk_far ?_ NB324_329.out _; (with_reducible repeat (first | refine blk_drewN ?_ _ | refine blk_drew ?_ | refine blk_alloc ?_ _)); exact BK324.out⟩, ⟨by (with_reducible repeat (first | refine blk_drewN ?_ _ | refine blk_drew ?_ | refine blk_alloc ?_ _)); refine blk_put (cs := #[.slice A328_0 ((rd_T40 l0_5 a1).f0).length c328_0, .int .i64 ((rd_T40 l0_5 a1).f1), .int .i64 ((rd_T40 l0_5 a1).f2), .int .i64 ((rd_T40 l0_5 a1).f3.f0), .int .i64 0]) ?_ 4 _ rfl; (with_reducible repeat (first | refine blk_drewN ?_ _ | refine blk_drew ?_ | refine blk_alloc ?_ _)); refine blk_put (cs := #[.slice A328_0 ((rd_T40 l0_5 a1).f0).length c328_0, .int .i64 ((rd_T40 l0_5 a1).f1), .int .i64 ((rd_T40 l0_5 a1).f2), .int .i64 0, .int .i64 0]) ?_ 3 _ rfl; (with_reducible repeat (first | refine blk_drewN ?_ _ | refine blk_drew ?_ | refine blk_alloc ?_ _)); refine blk_put (cs := #[.slice A328_0 ((rd_T40 l0_5 a1).f0).length c328_0, .int .i64 ((rd_T40 l0_5 a1).f1), .int .i64 0, .int .i64 0, .int .i64 0]) ?_ 2 _ rfl; (with_reducible repeat (first | refine blk_drewN ?_ _ | refine blk_drew ?_ | refine blk_alloc ?_ _)); refine blk_put (cs := #[.slice A328_0 ((rd_T40 l0_5 a1).f0).length c328_0, .int .i64 0, .int .i64 0, .int .i64 0, .int .i64 0]) ?_ 1 _ rfl; (with_reducible repeat (first | refine blk_drewN ?_ _ | refine blk_drew ?_ | refine blk_alloc ?_ _)); refine blk_put (cs := #[.slice none 0 0, .int .i64 0, .int .i64 0, .int .i64 0, .int .i64 0]) ?_ 0 _ rfl; (with_reducible repeat (first | refine blk_drewN ?_ _ | refine blk_drew ?_ | refine blk_alloc ?_ _)); exact BK329.out⟩, ⟨by repeat (first | (with_reducible first | exact HB.out | apply below_alloc | apply pw_below_drewN | apply below_drew1 | refine below_set ?_ GE324.out | refine below_set ?_ GE329.out) | exact HB.out)⟩⟩
      case rest =>
       clear HC12
       try clear c1
       try clear c2
       try clear p2
       try clear c3
       try clear p3
       try clear q3
       try clear hx3
       try clear c7
       try clear c7b0
       try clear c9
       try clear c10
       try clear c10b0
       try clear c11
       try clear c11b0
       try clear c15
       try clear c17
       try clear c17b0
       try clear c17b1
       try clear c18
       try clear c18b0
       try clear c19
       try clear c21
       try clear c22
       try clear c24
       try clear c24b0
       try clear c24b1
       try clear c25
       try clear c25b0
       try clear c26
       try clear c29
       try clear c31
       try clear c32
       try clear p32
       try clear q32
       try clear hx32
       try clear hcz13_0
       try clear hcz13_1
       try clear hcz13_2
       try clear hcz13_3
       try clear hcz13_4
       try clear hcz13_5
       try clear hcz16_0
       try clear hcz16_1
       try clear hcz16_2
       try clear hcz16_3
       try clear hcz16_4
       try clear hcz20_0
       try clear hcz20_1
       try clear hcz20_2
       try clear hcz20_3
       try clear hcz20_4
       try clear hcz21_0
       try clear hcz21_1
       try clear hcz21_2
       try clear hcz21_3
       try clear hcz21_4
       try clear hcz21_5
       try clear hcz23_0
       try clear hcz23_1
       try clear hcz23_2
       try clear hcz23_3
       try clear hcz23_4
       try clear hcz27_0
       try clear hcz27_1
       try clear hcz27_2
       try clear hcz27_3
       try clear hcz27_4
       try clear hcz28_0
       try clear hcz28_1
       try clear hcz28_2
       try clear hcz28_3
       try clear hcz28_4
       try clear hcz28_5
       try clear hcz30_0
       try clear hcz30_1
       try clear hcz30_2
       try clear hcz30_3
       try clear hcz30_4
       try clear hcz32_0
       try clear hcz32_1
       try clear hcz32_2
       try clear hcz32_3
       try clear hcz32_4
       try clear hcz8_0
       try clear hcz8_1
       try clear hcz8_2
       try clear hcz8_3
       try clear hcz8_4
       try clear hcz8_5
       try clear hfz13_0
       try clear hfz13_1
       try clear hfz13_2
       try clear hfz13_3
       try clear hfz13_4
       try clear hfz13_5
       try clear hfz16_0
       try clear hfz16_1
       try clear hfz16_2
       try clear hfz16_3
       try clear hfz16_4
       try clear hfz20_0
       try clear hfz20_1
       try clear hfz20_2
       try clear hfz20_3
       try clear hfz20_4
       try clear hfz21_0
       try clear hfz21_1
       try clear hfz21_2
       try clear hfz21_3
       try clear hfz21_4
       try clear hfz21_5
       try clear hfz23_0
       try clear hfz23_1
       try clear hfz23_2
       try clear hfz23_3
       try clear hfz23_4
       try clear hfz27_0
       try clear hfz27_1
       try clear hfz27_2
       try clear hfz27_3
       try clear hfz27_4
       try clear hfz28_0
       try clear hfz28_1
       try clear hfz28_2
       try clear hfz28_3
       try clear hfz28_4
       try clear hfz28_5
       try clear hfz30_0
       try clear hfz30_1
       try clear hfz30_2
       try clear hfz30_3
       try clear hfz30_4
       try clear hfz32_0
       try clear hfz32_1
       try clear hfz32_2
       try clear hfz32_3
       try clear hfz32_4
       try clear hfz8_0
       try clear hfz8_1
       try clear hfz8_2
       try clear hfz8_3
       try clear hfz8_4
       try clear hfz8_5
       try clear hx328_0
       try clear hx328_1
       try clear hx328_2
       try clear hx328_3
       try clear hx328_4
       try clear p2
       try clear p328
       try clear q328
       obtain ⟨kq, x45_11, rfl, HA, HJ11, HO_5, BK324, BK329, HB⟩ := hcut
       cases kq with
       | zero => exact absurd HA.out (by simp [truantref09_Next.j1])
       | succ kj11 =>
        have H := HA.out
        clear HA
        simp only [truantref09_Next.j1] at H
        by_cases c33 : x45_11 = true
        ·subst c33
         have H1 : (if y325.length < 17592186044416 then ((some (y325 ++ [((rd_T40 l0_5 a1).f3.f0)] : List Int)).bind fun y330 => (if ((rd_T40 l0_5 a1).f1) = 2 then (if ((rd_T40 l0_5 a1).f3.f1) = ((rd_T40 l0_5 a1).f3.f0) then (some y330) else (if ((rd_T40 l0_5 a1).f3.f1) ≥ 0 then (if ((rd_T40 l0_5 a1).f3.f1) < (l0_5.length : Int) then (if y330.length < 17592186044416 then (some (y330 ++ [((rd_T40 l0_5 a1).f3.f1)])) else (none)) else (some y330)) else (some y330))) else (some y330))) else (none)) = some r := by rw [if_pos rfl] at H; exact H
         clear H
         have H := H1
         clear H1
         by_cases c34 : y325.length < 17592186044416
         ·rw [if_pos c34] at H
          have LMc34 := Aside0.mk c34
          clear c34
          obtain ⟨y330, hy330⟩ : ∃ y_ : List Int, y_ = (y325 ++ [((rd_T40 l0_5 a1).f3.f0)]) := ⟨_, rfl⟩
          replace H : (if ((rd_T40 l0_5 a1).f1) = 2 then (if ((rd_T40 l0_5 a1).f3.f1) = ((rd_T40 l0_5 a1).f3.f0) then (some y330) else (if ((rd_T40 l0_5 a1).f3.f1) ≥ 0 then (if ((rd_T40 l0_5 a1).f3.f1) < (l0_5.length : Int) then (if y330.length < 17592186044416 then (some (y330 ++ [((rd_T40 l0_5 a1).f3.f1)])) else (none)) else (some y330)) else (some y330))) else (some y330)) = some r := by first | (rw [hy330]; with_reducible exact H) | (have H2_ := (Option.bind_some _ _).symm.trans H; rw [hy330]; with_reducible exact H2_) | (have H2_ := (Option.bind_some _ _).symm.trans H; with_reducible exact H2_) | with_reducible exact H | (rw [hy330]; exact H) | exact H
          have Ny330 := Aside0.mk hy330
          clear hy330
          by_cases c35 : ((rd_T40 l0_5 a1).f1) = 2
          ·rw [if_pos c35] at H
           have c35b0 : (((rd_T40 l0_5 a1).f1) == 2) = true := beq_iff_eq.mpr c35
           have c35b1 : (((rd_T40 l0_5 a1).f1) != 2) = false := bne_eq_false_iff_eq.mpr c35
           clear c35
           by_cases c36 : ((rd_T40 l0_5 a1).f3.f1) = ((rd_T40 l0_5 a1).f3.f0)
           ·rw [if_pos c36] at H
            have c36b0 : (((rd_T40 l0_5 a1).f3.f1) == ((rd_T40 l0_5 a1).f3.f0)) = true := beq_iff_eq.mpr c36
            have c36b1 : (((rd_T40 l0_5 a1).f3.f1) != ((rd_T40 l0_5 a1).f3.f0)) = false := bne_eq_false_iff_eq.mpr c36
            clear c36
            obtain rfl := Option.some.inj H
            have hnb37 := NB329_324.out
            have hnc37 := NB324_329.out
            have hcz38_0 : wc.cell? ⟨gb329, 0, none⟩ = some (.slice A328_0 ((rd_T40 l0_5 a1).f0).length c328_0) := (blk_cell BK329.out 0).trans rfl
            have hcz38_1 : wc.cell? ⟨gb329, 1, none⟩ = some (.int .i64 ((rd_T40 l0_5 a1).f1)) := (blk_cell BK329.out 1).trans rfl
            have hcz38_2 : wc.cell? ⟨gb329, 2, none⟩ = some (.int .i64 ((rd_T40 l0_5 a1).f2)) := (blk_cell BK329.out 2).trans rfl
            have hcz38_3 : wc.cell? ⟨gb329, 3, none⟩ = some (.int .i64 ((rd_T40 l0_5 a1).f3.f0)) := (blk_cell BK329.out 3).trans rfl
            have hcz38_4 : wc.cell? ⟨gb329, 4, none⟩ = some (.int .i64 ((rd_T40 l0_5 a1).f3.f1)) := (blk_cell BK329.out 4).trans rfl
            have hfz38_0 := blk_frozen BK329.out 0
            have hfz38_1 := blk_frozen BK329.out 1
            have hfz38_2 := blk_frozen BK329.out 2
            have hfz38_3 := blk_frozen BK329.out 3
            have hfz38_4 := blk_frozen BK329.out 4
            go_wp2_with (first | ((with_reducible refine gate_builtin (b := .append) (xs := #[.tmp 46, .tmp 50]) rfl ?_); (try (refine gate_guard (by rfl) ?_; dsimp only)); at_builtin; refine Kd.R_append (Kd.int .i64) (w0 := w) w.heap.size rfl (.tmp 46) (.tmp 50) 34 3 (.int .i64 0) 8 rfl Try.underlying34 info3 rfl (by decide) (by omega) v326 y325 ((rd_T40 l0_5 a1).f3.f0) [.int .i64 ((rd_T40 l0_5 a1).f3.f0)] (fun _ => True) (fun _ => False) rfl rfl ?aP (fun _ hk => hk.elim) ?aF ?aO ?aB ?aS ?aL ?_; (case aP => exact rfl); (case aB => exact (by repeat (first | (with_reducible first | exact HB.out | apply below_alloc | apply pw_below_drewN | apply below_drew1 | refine below_set ?_ GE324.out | refine below_set ?_ GE329.out) | exact HB.out))); (case aF => exact (fun _ _ => trivial)); (case aO => exact (by (with_reducible repeat (first | apply Kd.R_alloc | apply Kd.R_drewN | apply Kd.R_drew)); exact HO_5.out)); (case aS => exact (below_size (by repeat (first | (with_reducible first | exact HB.out | apply below_alloc | apply pw_below_drewN | apply below_drew1 | refine below_set ?_ GE324.out | refine below_set ?_ GE329.out) | exact HB.out)))); (case aL => have := LMc34.out; omega); intro v331 w39 ho hb hg hat; rw [← Ny330.out] at ho; have n0_ := Aside0.mk (blk_grown (g := gb324) (o := .cells #[.string a0_0, .slice A0_1 l0_1.length c0_1, .string a0_2, .slice A0_3 l0_3.length c0_3, .slice A0_4 l0_4.length c0_4, .slice (some ad328) l0_5.length c0_5] 26 (0, 0)) (by (with_reducible repeat (first | refine blk_drewN ?_ _ | refine blk_drew ?_ | refine blk_alloc ?_ _)); exact BK324.out) hg (Kd.R_ne HO_5.out BK324.out (by decide))); have n1_ := Aside0.mk (blk_grown (g := gb329) (o := .cells #[.slice A328_0 ((rd_T40 l0_5 a1).f0).length c328_0, .int .i64 ((rd_T40 l0_5 a1).f1), .int .i64 ((rd_T40 l0_5 a1).f2), .int .i64 ((rd_T40 l0_5 a1).f3.f0), .int .i64 ((rd_T40 l0_5 a1).f3.f1)] 40 (0, 0)) (by (with_reducible repeat (first | refine blk_drewN ?_ _ | refine blk_drew ?_ | refine blk_alloc ?_ _)); exact BK329.out) hg (Kd.R_ne HO_5.out BK329.out (by decide))); have n2_ := Aside0.mk (hb); have n3_ := Aside0.mk (ho); clear BK324; clear BK329; clear HB; clear HO_5; have BK324 := n0_; have BK329 := n1_; have HB := n2_; have HO332 := n3_; clear n0_ n1_ n2_ n3_; clear ho hb hg hat; have hcz40_0 : w39.cell? ⟨gb329, 0, none⟩ = some (.slice A328_0 ((rd_T40 l0_5 a1).f0).length c328_0) := (blk_cell BK329.out 0).trans rfl; have hcz40_1 : w39.cell? ⟨gb329, 1, none⟩ = some (.int .i64 ((rd_T40 l0_5 a1).f1)) := (blk_cell BK329.out 1).trans rfl; have hcz40_2 : w39.cell? ⟨gb329, 2, none⟩ = some (.int .i64 ((rd_T40 l0_5 a1).f2)) := (blk_cell BK329.out 2).trans rfl; have hcz40_3 : w39.cell? ⟨gb329, 3, none⟩ = some (.int .i64 ((rd_T40 l0_5 a1).f3.f0)) := (blk_cell BK329.out 3).trans rfl; have hcz40_4 : w39.cell? ⟨gb329, 4, none⟩ = some (.int .i64 ((rd_T40 l0_5 a1).f3.f1)) := (blk_cell BK329.out 4).trans rfl; have hfz40_0 := blk_frozen BK329.out 0; have hfz40_1 := blk_frozen BK329.out 1; have hfz40_2 := blk_frozen BK329.out 2; have hfz40_3 := blk_frozen BK329.out 3; have hfz40_4 := blk_frozen BK329.out 4))
            go_ret
            exact ⟨_, by first | rfl | (simp [errW_none, errW_some] <;> rfl) | (simp [*, errW_none, errW_some] <;> rfl), by (with_reducible repeat (first | apply Kd.R_alloc | apply Kd.R_drewN | apply Kd.R_drew)); exact HO332.out, by repeat (first | (with_reducible first | exact HB.out | apply below_alloc | apply pw_below_drewN | apply below_drew1 | refine below_set ?_ GE324.out | refine below_set ?_ GE329.out) | exact HB.out)⟩
           ·rw [if_neg c36] at H
            have c36b0 : (((rd_T40 l0_5 a1).f3.f1) == ((rd_T40 l0_5 a1).f3.f0)) = false := beq_eq_false_iff_ne.mpr c36
            have c36b1 : (((rd_T40 l0_5 a1).f3.f1) != ((rd_T40 l0_5 a1).f3.f0)) = true := bne_iff_ne.mpr c36
            by_cases c41 : ((rd_T40 l0_5 a1).f3.f1) ≥ 0
            ·rw [if_pos c41] at H
             have c41b0 : decide (0 ≤ ((rd_T40 l0_5 a1).f3.f1)) = true := decide_eq_true c41
             clear c41
             by_cases c42 : ((rd_T40 l0_5 a1).f3.f1) < (l0_5.length : Int)
             ·rw [if_pos c42] at H
              have c42b0 : decide (((rd_T40 l0_5 a1).f3.f1) < (l0_5.length : Int)) = true := decide_eq_true c42
              clear c42
              by_cases c43 : y330.length < 17592186044416
              ·rw [if_pos c43] at H
               have LMc43 := Aside0.mk c43
               clear c43
               obtain ⟨y333, hy333⟩ : ∃ y_ : List Int, y_ = (y330 ++ [((rd_T40 l0_5 a1).f3.f1)]) := ⟨_, rfl⟩
               replace H : (some y333) = some r := by first | (rw [hy333]; with_reducible exact H) | (have H2_ := (Option.bind_some _ _).symm.trans H; rw [hy333]; with_reducible exact H2_) | (have H2_ := (Option.bind_some _ _).symm.trans H; with_reducible exact H2_) | with_reducible exact H | (rw [hy333]; exact H) | exact H
               have Ny333 := Aside0.mk hy333
               clear hy333
               obtain rfl := Option.some.inj H
               have hnb44 := NB329_324.out
               have hnc44 := NB324_329.out
               have hcz45_0 : wc.cell? ⟨gb329, 0, none⟩ = some (.slice A328_0 ((rd_T40 l0_5 a1).f0).length c328_0) := (blk_cell BK329.out 0).trans rfl
               have hcz45_1 : wc.cell? ⟨gb329, 1, none⟩ = some (.int .i64 ((rd_T40 l0_5 a1).f1)) := (blk_cell BK329.out 1).trans rfl
               have hcz45_2 : wc.cell? ⟨gb329, 2, none⟩ = some (.int .i64 ((rd_T40 l0_5 a1).f2)) := (blk_cell BK329.out 2).trans rfl
               have hcz45_3 : wc.cell? ⟨gb329, 3, none⟩ = some (.int .i64 ((rd_T40 l0_5 a1).f3.f0)) := (blk_cell BK329.out 3).trans rfl
               have hcz45_4 : wc.cell? ⟨gb329, 4, none⟩ = some (.int .i64 ((rd_T40 l0_5 a1).f3.f1)) := (blk_cell BK329.out 4).trans rfl
               have hfz45_0 := blk_frozen BK329.out 0
               have hfz45_1 := blk_frozen BK329.out 1
               have hfz45_2 := blk_frozen BK329.out 2
               have hfz45_3 := blk_frozen BK329.out 3
               have hfz45_4 := blk_frozen BK329.out 4
               go_wp2_with (first | ((with_reducible refine gate_builtin (b := .append) (xs := #[.tmp 46, .tmp 50]) rfl ?_); (try (refine gate_guard (by rfl) ?_; dsimp only)); at_builtin; refine Kd.R_append (Kd.int .i64) (w0 := w) w.heap.size rfl (.tmp 46) (.tmp 50) 34 3 (.int .i64 0) 8 rfl Try.underlying34 info3 rfl (by decide) (by omega) v326 y325 ((rd_T40 l0_5 a1).f3.f0) [.int .i64 ((rd_T40 l0_5 a1).f3.f0)] (fun _ => True) (fun _ => False) rfl rfl ?aP (fun _ hk => hk.elim) ?aF ?aO ?aB ?aS ?aL ?_; (case aP => exact rfl); (case aB => exact (by repeat (first | (with_reducible first | exact HB.out | apply below_alloc | apply pw_below_drewN | apply below_drew1 | refine below_set ?_ GE324.out | refine below_set ?_ GE329.out) | exact HB.out))); (case aF => exact (fun _ _ => trivial)); (case aO => exact (by (with_reducible repeat (first | apply Kd.R_alloc | apply Kd.R_drewN | apply Kd.R_drew)); exact HO_5.out)); (case aS => exact (below_size (by repeat (first | (with_reducible first | exact HB.out | apply below_alloc | apply pw_below_drewN | apply below_drew1 | refine below_set ?_ GE324.out | refine below_set ?_ GE329.out) | exact HB.out)))); (case aL => have := LMc34.out; omega); intro v331 w46 ho hb hg hat; rw [← Ny330.out] at ho; have n0_ := Aside0.mk (blk_grown (g := gb324) (o := .cells #[.string a0_0, .slice A0_1 l0_1.length c0_1, .string a0_2, .slice A0_3 l0_3.length c0_3, .slice A0_4 l0_4.length c0_4, .slice (some ad328) l0_5.length c0_5] 26 (0, 0)) (by (with_reducible repeat (first | refine blk_drewN ?_ _ | refine blk_drew ?_ | refine blk_alloc ?_ _)); exact BK324.out) hg (Kd.R_ne HO_5.out BK324.out (by decide))); have n1_ := Aside0.mk (blk_grown (g := gb329) (o := .cells #[.slice A328_0 ((rd_T40 l0_5 a1).f0).length c328_0, .int .i64 ((rd_T40 l0_5 a1).f1), .int .i64 ((rd_T40 l0_5 a1).f2), .int .i64 ((rd_T40 l0_5 a1).f3.f0), .int .i64 ((rd_T40 l0_5 a1).f3.f1)] 40 (0, 0)) (by (with_reducible repeat (first | refine blk_drewN ?_ _ | refine blk_drew ?_ | refine blk_alloc ?_ _)); exact BK329.out) hg (Kd.R_ne HO_5.out BK329.out (by decide))); have n2_ := Aside0.mk (hb); have n3_ := Aside0.mk (ho); clear BK324; clear BK329; clear HB; clear HO_5; have BK324 := n0_; have BK329 := n1_; have HB := n2_; have HO332 := n3_; clear n0_ n1_ n2_ n3_; clear ho hb hg hat; have hcz47_0 : w46.cell? ⟨gb329, 0, none⟩ = some (.slice A328_0 ((rd_T40 l0_5 a1).f0).length c328_0) := (blk_cell BK329.out 0).trans rfl; have hcz47_1 : w46.cell? ⟨gb329, 1, none⟩ = some (.int .i64 ((rd_T40 l0_5 a1).f1)) := (blk_cell BK329.out 1).trans rfl; have hcz47_2 : w46.cell? ⟨gb329, 2, none⟩ = some (.int .i64 ((rd_T40 l0_5 a1).f2)) := (blk_cell BK329.out 2).trans rfl; have hcz47_3 : w46.cell? ⟨gb329, 3, none⟩ = some (.int .i64 ((rd_T40 l0_5 a1).f3.f0)) := (blk_cell BK329.out 3).trans rfl; have hcz47_4 : w46.cell? ⟨gb329, 4, none⟩ = some (.int .i64 ((rd_T40 l0_5 a1).f3.f1)) := (blk_cell BK329.out 4).trans rfl; have hfz47_0 := blk_frozen BK329.out 0; have hfz47_1 := blk_frozen BK329.out 1; have hfz47_2 := blk_frozen BK329.out 2; have hfz47_3 := blk_frozen BK329.out 3; have hfz47_4 := blk_frozen BK329.out 4; have hcz48_0 : w46.cell? ⟨gb324, 0, none⟩ = some (.string a0_0) := (blk_cell BK324.out 0).trans rfl; have hcz48_1 : w46.cell? ⟨gb324, 1, none⟩ = some (.slice A0_1 l0_1.length c0_1) := (blk_cell BK324.out 1).trans rfl; have hcz48_2 : w46.cell? ⟨gb324, 2, none⟩ = some (.string a0_2) := (blk_cell BK324.out 2).trans rfl; have hcz48_3 : w46.cell? ⟨gb324, 3, none⟩ = some (.slice A0_3 l0_3.length c0_3) := (blk_cell BK324.out 3).trans rfl; have hcz48_4 : w46.cell? ⟨gb324, 4, none⟩ = some (.slice A0_4 l0_4.length c0_4) := (blk_cell BK324.out 4).trans rfl; have hcz48_5 : w46.cell? ⟨gb324, 5, none⟩ = some (.slice (some ad328) l0_5.length c0_5) := (blk_cell BK324.out 5).trans rfl; have hfz48_0 := blk_frozen BK324.out 0; have hfz48_1 := blk_frozen BK324.out 1; have hfz48_2 := blk_frozen BK324.out 2; have hfz48_3 := blk_frozen BK324.out 3; have hfz48_4 := blk_frozen BK324.out 4; have hfz48_5 := blk_frozen BK324.out 5) | ((with_reducible refine gate_builtin (b := .append) (xs := #[.tmp 79, .tmp 83]) rfl ?_); (try (refine gate_guard (by rfl) ?_; dsimp only)); at_builtin; refine Kd.R_append (Kd.int .i64) (w0 := w) w.heap.size rfl (.tmp 79) (.tmp 83) 34 3 (.int .i64 0) 8 rfl Try.underlying34 info3 rfl (by decide) (by omega) v331 y330 ((rd_T40 l0_5 a1).f3.f1) [.int .i64 ((rd_T40 l0_5 a1).f3.f1)] (fun _ => True) (fun _ => False) rfl rfl ?aP (fun _ hk => hk.elim) ?aF ?aO ?aB ?aS ?aL ?_; (case aP => exact rfl); (case aB => exact (by repeat (first | (with_reducible first | exact HB.out | apply below_alloc | apply pw_below_drewN | apply below_drew1 | refine below_set ?_ GE324.out | refine below_set ?_ GE329.out) | exact HB.out))); (case aF => exact (fun _ _ => trivial)); (case aO => exact (by (with_reducible repeat (first | apply Kd.R_alloc | apply Kd.R_drewN | apply Kd.R_drew)); exact HO332.out)); (case aS => exact (below_size (by repeat (first | (with_reducible first | exact HB.out | apply below_alloc | apply pw_below_drewN | apply below_drew1 | refine below_set ?_ GE324.out | refine below_set ?_ GE329.out) | exact HB.out)))); (case aL => have := LMc43.out; omega); intro v334 w49 ho hb hg hat; rw [← Ny333.out] at ho; have n0_ := Aside0.mk (blk_grown (g := gb324) (o := .cells #[.string a0_0, .slice A0_1 l0_1.length c0_1, .string a0_2, .slice A0_3 l0_3.length c0_3, .slice A0_4 l0_4.length c0_4, .slice (some ad328) l0_5.length c0_5] 26 (0, 0)) (by (with_reducible repeat (first | refine blk_drewN ?_ _ | refine blk_drew ?_ | refine blk_alloc ?_ _)); exact BK324.out) hg (Kd.R_ne HO332.out BK324.out (by decide))); have n1_ := Aside0.mk (blk_grown (g := gb329) (o := .cells #[.slice A328_0 ((rd_T40 l0_5 a1).f0).length c328_0, .int .i64 ((rd_T40 l0_5 a1).f1), .int .i64 ((rd_T40 l0_5 a1).f2), .int .i64 ((rd_T40 l0_5 a1).f3.f0), .int .i64 ((rd_T40 l0_5 a1).f3.f1)] 40 (0, 0)) (by (with_reducible repeat (first | refine blk_drewN ?_ _ | refine blk_drew ?_ | refine blk_alloc ?_ _)); exact BK329.out) hg (Kd.R_ne HO332.out BK329.out (by decide))); have n2_ := Aside0.mk (hb); have n3_ := Aside0.mk (ho); clear BK324; clear BK329; clear HB; clear HO332; have BK324 := n0_; have BK329 := n1_; have HB := n2_; have HO335 := n3_; clear n0_ n1_ n2_ n3_; clear ho hb hg hat))
               go_ret
               exact ⟨_, by first | rfl | (simp [errW_none, errW_some] <;> rfl) | (simp [*, errW_none, errW_some] <;> rfl), by (with_reducible repeat (first | apply Kd.R_alloc | apply Kd.R_drewN | apply Kd.R_drew)); exact HO335.out, by repeat (first | (with_reducible first | exact HB.out | apply below_alloc | apply pw_below_drewN | apply below_drew1 | refine below_set ?_ GE324.out | refine below_set ?_ GE329.out) | exact HB.out)⟩
              ·rw [if_neg c43] at H
               exact absurd H (by simp)
             ·rw [if_neg c42] at H
              have c42b0 : decide (((rd_T40 l0_5 a1).f3.f1) < (l0_5.length : Int)) = false := decide_eq_false c42
              clear c42
              obtain rfl := Option.some.inj H
              have hnb50 := NB329_324.out
              have hnc50 := NB324_329.out
              have hcz51_0 : wc.cell? ⟨gb329, 0, none⟩ = some (.slice A328_0 ((rd_T40 l0_5 a1).f0).length c328_0) := (blk_cell BK329.out 0).trans rfl
              have hcz51_1 : wc.cell? ⟨gb329, 1, none⟩ = some (.int .i64 ((rd_T40 l0_5 a1).f1)) := (blk_cell BK329.out 1).trans rfl
              have hcz51_2 : wc.cell? ⟨gb329, 2, none⟩ = some (.int .i64 ((rd_T40 l0_5 a1).f2)) := (blk_cell BK329.out 2).trans rfl
              have hcz51_3 : wc.cell? ⟨gb329, 3, none⟩ = some (.int .i64 ((rd_T40 l0_5 a1).f3.f0)) := (blk_cell BK329.out 3).trans rfl
              have hcz51_4 : wc.cell? ⟨gb329, 4, none⟩ = some (.int .i64 ((rd_T40 l0_5 a1).f3.f1)) := (blk_cell BK329.out 4).trans rfl
              have hfz51_0 := blk_frozen BK329.out 0
              have hfz51_1 := blk_frozen BK329.out 1
              have hfz51_2 := blk_frozen BK329.out 2
              have hfz51_3 := blk_frozen BK329.out 3
              have hfz51_4 := blk_frozen BK329.out 4
              go_wp2_with (first | ((with_reducible refine gate_builtin (b := .append) (xs := #[.tmp 46, .tmp 50]) rfl ?_); (try (refine gate_guard (by rfl) ?_; dsimp only)); at_builtin; refine Kd.R_append (Kd.int .i64) (w0 := w) w.heap.size rfl (.tmp 46) (.tmp 50) 34 3 (.int .i64 0) 8 rfl Try.underlying34 info3 rfl (by decide) (by omega) v326 y325 ((rd_T40 l0_5 a1).f3.f0) [.int .i64 ((rd_T40 l0_5 a1).f3.f0)] (fun _ => True) (fun _ => False) rfl rfl ?aP (fun _ hk => hk.elim) ?aF ?aO ?aB ?aS ?aL ?_; (case aP => exact rfl); (case aB => exact (by repeat (first | (with_reducible first | exact HB.out | apply below_alloc | apply pw_below_drewN | apply below_drew1 | refine below_set ?_ GE324.out | refine below_set ?_ GE329.out) | exact HB.out))); (case aF => exact (fun _ _ => trivial)); (case aO => exact (by (with_reducible repeat (first | apply Kd.R_alloc | apply Kd.R_drewN | apply Kd.R_drew)); exact HO_5.out)); (case aS => exact (below_size (by repeat (first | (with_reducible first | exact HB.out | apply below_alloc | apply pw_below_drewN | apply below_drew1 | refine below_set ?_ GE324.out | refine below_set ?_ GE329.out) | exact HB.out)))); (case aL => have := LMc34.out; omega); intro v331 w52 ho hb hg hat; rw [← Ny330.out] at ho; have n0_ := Aside0.mk (blk_grown (g := gb324) (o := .cells #[.string a0_0, .slice A0_1 l0_1.length c0_1, .string a0_2, .slice A0_3 l0_3.length c0_3, .slice A0_4 l0_4.length c0_4, .slice (some ad328) l0_5.length c0_5] 26 (0, 0)) (by (with_reducible repeat (first | refine blk_drewN ?_ _ | refine blk_drew ?_ | refine blk_alloc ?_ _)); exact BK324.out) hg (Kd.R_ne HO_5.out BK324.out (by decide))); have n1_ := Aside0.mk (blk_grown (g := gb329) (o := .cells #[.slice A328_0 ((rd_T40 l0_5 a1).f0).length c328_0, .int .i64 ((rd_T40 l0_5 a1).f1), .int .i64 ((rd_T40 l0_5 a1).f2), .int .i64 ((rd_T40 l0_5 a1).f3.f0), .int .i64 ((rd_T40 l0_5 a1).f3.f1)] 40 (0, 0)) (by (with_reducible repeat (first | refine blk_drewN ?_ _ | refine blk_drew ?_ | refine blk_alloc ?_ _)); exact BK329.out) hg (Kd.R_ne HO_5.out BK329.out (by decide))); have n2_ := Aside0.mk (hb); have n3_ := Aside0.mk (ho); clear BK324; clear BK329; clear HB; clear HO_5; have BK324 := n0_; have BK329 := n1_; have HB := n2_; have HO332 := n3_; clear n0_ n1_ n2_ n3_; clear ho hb hg hat; have hcz53_0 : w52.cell? ⟨gb329, 0, none⟩ = some (.slice A328_0 ((rd_T40 l0_5 a1).f0).length c328_0) := (blk_cell BK329.out 0).trans rfl; have hcz53_1 : w52.cell? ⟨gb329, 1, none⟩ = some (.int .i64 ((rd_T40 l0_5 a1).f1)) := (blk_cell BK329.out 1).trans rfl; have hcz53_2 : w52.cell? ⟨gb329, 2, none⟩ = some (.int .i64 ((rd_T40 l0_5 a1).f2)) := (blk_cell BK329.out 2).trans rfl; have hcz53_3 : w52.cell? ⟨gb329, 3, none⟩ = some (.int .i64 ((rd_T40 l0_5 a1).f3.f0)) := (blk_cell BK329.out 3).trans rfl; have hcz53_4 : w52.cell? ⟨gb329, 4, none⟩ = some (.int .i64 ((rd_T40 l0_5 a1).f3.f1)) := (blk_cell BK329.out 4).trans rfl; have hfz53_0 := blk_frozen BK329.out 0; have hfz53_1 := blk_frozen BK329.out 1; have hfz53_2 := blk_frozen BK329.out 2; have hfz53_3 := blk_frozen BK329.out 3; have hfz53_4 := blk_frozen BK329.out 4; have hcz54_0 : w52.cell? ⟨gb324, 0, none⟩ = some (.string a0_0) := (blk_cell BK324.out 0).trans rfl; have hcz54_1 : w52.cell? ⟨gb324, 1, none⟩ = some (.slice A0_1 l0_1.length c0_1) := (blk_cell BK324.out 1).trans rfl; have hcz54_2 : w52.cell? ⟨gb324, 2, none⟩ = some (.string a0_2) := (blk_cell BK324.out 2).trans rfl; have hcz54_3 : w52.cell? ⟨gb324, 3, none⟩ = some (.slice A0_3 l0_3.length c0_3) := (blk_cell BK324.out 3).trans rfl; have hcz54_4 : w52.cell? ⟨gb324, 4, none⟩ = some (.slice A0_4 l0_4.length c0_4) := (blk_cell BK324.out 4).trans rfl; have hcz54_5 : w52.cell? ⟨gb324, 5, none⟩ = some (.slice (some ad328) l0_5.length c0_5) := (blk_cell BK324.out 5).trans rfl; have hfz54_0 := blk_frozen BK324.out 0; have hfz54_1 := blk_frozen BK324.out 1; have hfz54_2 := blk_frozen BK324.out 2; have hfz54_3 := blk_frozen BK324.out 3; have hfz54_4 := blk_frozen BK324.out 4; have hfz54_5 := blk_frozen BK324.out 5))
              go_ret
              exact ⟨_, by first | rfl | (simp [errW_none, errW_some] <;> rfl) | (simp [*, errW_none, errW_some] <;> rfl), by (with_reducible repeat (first | apply Kd.R_alloc | apply Kd.R_drewN | apply Kd.R_drew)); exact HO332.out, by repeat (first | (with_reducible first | exact HB.out | apply below_alloc | apply pw_below_drewN | apply below_drew1 | refine below_set ?_ GE324.out | refine below_set ?_ GE329.out) | exact HB.out)⟩
            ·rw [if_neg c41] at H
             have c41b0 : decide (0 ≤ ((rd_T40 l0_5 a1).f3.f1)) = false := decide_eq_false c41
             clear c41
             obtain rfl := Option.some.inj H
             have hnb55 := NB329_324.out
             have hnc55 := NB324_329.out
             have hcz56_0 : wc.cell? ⟨gb329, 0, none⟩ = some (.slice A328_0 ((rd_T40 l0_5 a1).f0).length c328_0) := (blk_cell BK329.out 0).trans rfl
             have hcz56_1 : wc.cell? ⟨gb329, 1, none⟩ = some (.int .i64 ((rd_T40 l0_5 a1).f1)) := (blk_cell BK329.out 1).trans rfl
             have hcz56_2 : wc.cell? ⟨gb329, 2, none⟩ = some (.int .i64 ((rd_T40 l0_5 a1).f2)) := (blk_cell BK329.out 2).trans rfl
             have hcz56_3 : wc.cell? ⟨gb329, 3, none⟩ = some (.int .i64 ((rd_T40 l0_5 a1).f3.f0)) := (blk_cell BK329.out 3).trans rfl
             have hcz56_4 : wc.cell? ⟨gb329, 4, none⟩ = some (.int .i64 ((rd_T40 l0_5 a1).f3.f1)) := (blk_cell BK329.out 4).trans rfl
             have hfz56_0 := blk_frozen BK329.out 0
             have hfz56_1 := blk_frozen BK329.out 1
             have hfz56_2 := blk_frozen BK329.out 2
             have hfz56_3 := blk_frozen BK329.out 3
             have hfz56_4 := blk_frozen BK329.out 4
             go_wp2_with (first | ((with_reducible refine gate_builtin (b := .append) (xs := #[.tmp 46, .tmp 50]) rfl ?_); (try (refine gate_guard (by rfl) ?_; dsimp only)); at_builtin; refine Kd.R_append (Kd.int .i64) (w0 := w) w.heap.size rfl (.tmp 46) (.tmp 50) 34 3 (.int .i64 0) 8 rfl Try.underlying34 info3 rfl (by decide) (by omega) v326 y325 ((rd_T40 l0_5 a1).f3.f0) [.int .i64 ((rd_T40 l0_5 a1).f3.f0)] (fun _ => True) (fun _ => False) rfl rfl ?aP (fun _ hk => hk.elim) ?aF ?aO ?aB ?aS ?aL ?_; (case aP => exact rfl); (case aB => exact (by repeat (first | (with_reducible first | exact HB.out | apply below_alloc | apply pw_below_drewN | apply below_drew1 | refine below_set ?_ GE324.out | refine below_set ?_ GE329.out) | exact HB.out))); (case aF => exact (fun _ _ => trivial)); (case aO => exact (by (with_reducible repeat (first | apply Kd.R_alloc | apply Kd.R_drewN | apply Kd.R_drew)); exact HO_5.out)); (case aS => exact (below_size (by repeat (first | (with_reducible first | exact HB.out | apply below_alloc | apply pw_below_drewN | apply below_drew1 | refine below_set ?_ GE324.out | refine below_set ?_ GE329.out) | exact HB.out)))); (case aL => have := LMc34.out; omega); intro v331 w57 ho hb hg hat; rw [← Ny330.out] at ho; have n0_ := Aside0.mk (blk_grown (g := gb324) (o := .cells #[.string a0_0, .slice A0_1 l0_1.length c0_1, .string a0_2, .slice A0_3 l0_3.length c0_3, .slice A0_4 l0_4.length c0_4, .slice (some ad328) l0_5.length c0_5] 26 (0, 0)) (by (with_reducible repeat (first | refine blk_drewN ?_ _ | refine blk_drew ?_ | refine blk_alloc ?_ _)); exact BK324.out) hg (Kd.R_ne HO_5.out BK324.out (by decide))); have n1_ := Aside0.mk (blk_grown (g := gb329) (o := .cells #[.slice A328_0 ((rd_T40 l0_5 a1).f0).length c328_0, .int .i64 ((rd_T40 l0_5 a1).f1), .int .i64 ((rd_T40 l0_5 a1).f2), .int .i64 ((rd_T40 l0_5 a1).f3.f0), .int .i64 ((rd_T40 l0_5 a1).f3.f1)] 40 (0, 0)) (by (with_reducible repeat (first | refine blk_drewN ?_ _ | refine blk_drew ?_ | refine blk_alloc ?_ _)); exact BK329.out) hg (Kd.R_ne HO_5.out BK329.out (by decide))); have n2_ := Aside0.mk (hb); have n3_ := Aside0.mk (ho); clear BK324; clear BK329; clear HB; clear HO_5; have BK324 := n0_; have BK329 := n1_; have HB := n2_; have HO332 := n3_; clear n0_ n1_ n2_ n3_; clear ho hb hg hat; have hcz58_0 : w57.cell? ⟨gb329, 0, none⟩ = some (.slice A328_0 ((rd_T40 l0_5 a1).f0).length c328_0) := (blk_cell BK329.out 0).trans rfl; have hcz58_1 : w57.cell? ⟨gb329, 1, none⟩ = some (.int .i64 ((rd_T40 l0_5 a1).f1)) := (blk_cell BK329.out 1).trans rfl; have hcz58_2 : w57.cell? ⟨gb329, 2, none⟩ = some (.int .i64 ((rd_T40 l0_5 a1).f2)) := (blk_cell BK329.out 2).trans rfl; have hcz58_3 : w57.cell? ⟨gb329, 3, none⟩ = some (.int .i64 ((rd_T40 l0_5 a1).f3.f0)) := (blk_cell BK329.out 3).trans rfl; have hcz58_4 : w57.cell? ⟨gb329, 4, none⟩ = some (.int .i64 ((rd_T40 l0_5 a1).f3.f1)) := (blk_cell BK329.out 4).trans rfl; have hfz58_0 := blk_frozen BK329.out 0; have hfz58_1 := blk_frozen BK329.out 1; have hfz58_2 := blk_frozen BK329.out 2; have hfz58_3 := blk_frozen BK329.out 3; have hfz58_4 := blk_frozen BK329.out 4))
             go_ret
             exact ⟨_, by first | rfl | (simp [errW_none, errW_some] <;> rfl) | (simp [*, errW_none, errW_some] <;> rfl), by (with_reducible repeat (first | apply Kd.R_alloc | apply Kd.R_drewN | apply Kd.R_drew)); exact HO332.out, by repeat (first | (with_reducible first | exact HB.out | apply below_alloc | apply pw_below_drewN | apply below_drew1 | refine below_set ?_ GE324.out | refine below_set ?_ GE329.out) | exact HB.out)⟩
          ·rw [if_neg c35] at H
           have c35b0 : (((rd_T40 l0_5 a1).f1) == 2) = false := beq_eq_false_iff_ne.mpr c35
           have c35b1 : (((rd_T40 l0_5 a1).f1) != 2) = true := bne_iff_ne.mpr c35
           obtain rfl := Option.some.inj H
           have hnb59 := NB329_324.out
           have hnc59 := NB324_329.out
           have hcz60_0 : wc.cell? ⟨gb329, 0, none⟩ = some (.slice A328_0 ((rd_T40 l0_5 a1).f0).length c328_0) := (blk_cell BK329.out 0).trans rfl
           have hcz60_1 : wc.cell? ⟨gb329, 1, none⟩ = some (.int .i64 ((rd_T40 l0_5 a1).f1)) := (blk_cell BK329.out 1).trans rfl
           have hcz60_2 : wc.cell? ⟨gb329, 2, none⟩ = some (.int .i64 ((rd_T40 l0_5 a1).f2)) := (blk_cell BK329.out 2).trans rfl
           have hcz60_3 : wc.cell? ⟨gb329, 3, none⟩ = some (.int .i64 ((rd_T40 l0_5 a1).f3.f0)) := (blk_cell BK329.out 3).trans rfl
           have hcz60_4 : wc.cell? ⟨gb329, 4, none⟩ = some (.int .i64 ((rd_T40 l0_5 a1).f3.f1)) := (blk_cell BK329.out 4).trans rfl
           have hfz60_0 := blk_frozen BK329.out 0
           have hfz60_1 := blk_frozen BK329.out 1
           have hfz60_2 := blk_frozen BK329.out 2
           have hfz60_3 := blk_frozen BK329.out 3
           have hfz60_4 := blk_frozen BK329.out 4
           go_wp2_with (first | ((with_reducible refine gate_builtin (b := .append) (xs := #[.tmp 46, .tmp 50]) rfl ?_); (try (refine gate_guard (by rfl) ?_; dsimp only)); at_builtin; refine Kd.R_append (Kd.int .i64) (w0 := w) w.heap.size rfl (.tmp 46) (.tmp 50) 34 3 (.int .i64 0) 8 rfl Try.underlying34 info3 rfl (by decide) (by omega) v326 y325 ((rd_T40 l0_5 a1).f3.f0) [.int .i64 ((rd_T40 l0_5 a1).f3.f0)] (fun _ => True) (fun _ => False) rfl rfl ?aP (fun _ hk => hk.elim) ?aF ?aO ?aB ?aS ?aL ?_; (case aP => exact rfl); (case aB => exact (by repeat (first | (with_reducible first | exact HB.out | apply below_alloc | apply pw_below_drewN | apply below_drew1 | refine below_set ?_ GE324.out | refine below_set ?_ GE329.out) | exact HB.out))); (case aF => exact (fun _ _ => trivial)); (case aO => exact (by (with_reducible repeat (first | apply Kd.R_alloc | apply Kd.R_drewN | apply Kd.R_drew)); exact HO_5.out)); (case aS => exact (below_size (by repeat (first | (with_reducible first | exact HB.out | apply below_alloc | apply pw_below_drewN | apply below_drew1 | refine below_set ?_ GE324.out | refine below_set ?_ GE329.out) | exact HB.out)))); (case aL => have := LMc34.out; omega); intro v331 w61 ho hb hg hat; rw [← Ny330.out] at ho; have n0_ := Aside0.mk (blk_grown (g := gb324) (o := .cells #[.string a0_0, .slice A0_1 l0_1.length c0_1, .string a0_2, .slice A0_3 l0_3.length c0_3, .slice A0_4 l0_4.length c0_4, .slice (some ad328) l0_5.length c0_5] 26 (0, 0)) (by (with_reducible repeat (first | refine blk_drewN ?_ _ | refine blk_drew ?_ | refine blk_alloc ?_ _)); exact BK324.out) hg (Kd.R_ne HO_5.out BK324.out (by decide))); have n1_ := Aside0.mk (blk_grown (g := gb329) (o := .cells #[.slice A328_0 ((rd_T40 l0_5 a1).f0).length c328_0, .int .i64 ((rd_T40 l0_5 a1).f1), .int .i64 ((rd_T40 l0_5 a1).f2), .int .i64 ((rd_T40 l0_5 a1).f3.f0), .int .i64 ((rd_T40 l0_5 a1).f3.f1)] 40 (0, 0)) (by (with_reducible repeat (first | refine blk_drewN ?_ _ | refine blk_drew ?_ | refine blk_alloc ?_ _)); exact BK329.out) hg (Kd.R_ne HO_5.out BK329.out (by decide))); have n2_ := Aside0.mk (hb); have n3_ := Aside0.mk (ho); clear BK324; clear BK329; clear HB; clear HO_5; have BK324 := n0_; have BK329 := n1_; have HB := n2_; have HO332 := n3_; clear n0_ n1_ n2_ n3_; clear ho hb hg hat; have hcz62_0 : w61.cell? ⟨gb329, 0, none⟩ = some (.slice A328_0 ((rd_T40 l0_5 a1).f0).length c328_0) := (blk_cell BK329.out 0).trans rfl; have hcz62_1 : w61.cell? ⟨gb329, 1, none⟩ = some (.int .i64 ((rd_T40 l0_5 a1).f1)) := (blk_cell BK329.out 1).trans rfl; have hcz62_2 : w61.cell? ⟨gb329, 2, none⟩ = some (.int .i64 ((rd_T40 l0_5 a1).f2)) := (blk_cell BK329.out 2).trans rfl; have hcz62_3 : w61.cell? ⟨gb329, 3, none⟩ = some (.int .i64 ((rd_T40 l0_5 a1).f3.f0)) := (blk_cell BK329.out 3).trans rfl; have hcz62_4 : w61.cell? ⟨gb329, 4, none⟩ = some (.int .i64 ((rd_T40 l0_5 a1).f3.f1)) := (blk_cell BK329.out 4).trans rfl; have hfz62_0 := blk_frozen BK329.out 0; have hfz62_1 := blk_frozen BK329.out 1; have hfz62_2 := blk_frozen BK329.out 2; have hfz62_3 := blk_frozen BK329.out 3; have hfz62_4 := blk_frozen BK329.out 4))
           go_ret
           exact ⟨_, by first | rfl | (simp [errW_none, errW_some] <;> rfl) | (simp [*, errW_none, errW_some] <;> rfl), by (with_reducible repeat (first | apply Kd.R_alloc | apply Kd.R_drewN | apply Kd.R_drew)); exact HO332.out, by repeat (first | (with_reducible first | exact HB.out | apply below_alloc | apply pw_below_drewN | apply below_drew1 | refine below_set ?_ GE324.out | refine below_set ?_ GE329.out) | exact HB.out)⟩
         ·rw [if_neg c34] at H
          exact absurd H (by simp)
        ·replace c33 := Bool.eq_false_iff.mpr c33
         subst c33
         have H1 : (if ((rd_T40 l0_5 a1).f1) = 2 then (if ((rd_T40 l0_5 a1).f3.f1) = ((rd_T40 l0_5 a1).f3.f0) then (some y325) else (if ((rd_T40 l0_5 a1).f3.f1) ≥ 0 then (if ((rd_T40 l0_5 a1).f3.f1) < (l0_5.length : Int) then (if y325.length < 17592186044416 then (some (y325 ++ [((rd_T40 l0_5 a1).f3.f1)])) else (none)) else (some y325)) else (some y325))) else (some y325)) = some r := by rw [if_neg (show ¬ (false = true) by decide)] at H; exact H
         clear H
         have H := H1
         clear H1
         by_cases c63 : ((rd_T40 l0_5 a1).f1) = 2
         ·rw [if_pos c63] at H
          have c63b0 : (((rd_T40 l0_5 a1).f1) == 2) = true := beq_iff_eq.mpr c63
          have c63b1 : (((rd_T40 l0_5 a1).f1) != 2) = false := bne_eq_false_iff_eq.mpr c63
          clear c63
          by_cases c64 : ((rd_T40 l0_5 a1).f3.f1) = ((rd_T40 l0_5 a1).f3.f0)
          ·rw [if_pos c64] at H
           have c64b0 : (((rd_T40 l0_5 a1).f3.f1) == ((rd_T40 l0_5 a1).f3.f0)) = true := beq_iff_eq.mpr c64
           have c64b1 : (((rd_T40 l0_5 a1).f3.f1) != ((rd_T40 l0_5 a1).f3.f0)) = false := bne_eq_false_iff_eq.mpr c64
           clear c64
           obtain rfl := Option.some.inj H
           have hnb65 := NB329_324.out
           have hnc65 := NB324_329.out
           have hcz66_0 : wc.cell? ⟨gb329, 0, none⟩ = some (.slice A328_0 ((rd_T40 l0_5 a1).f0).length c328_0) := (blk_cell BK329.out 0).trans rfl
           have hcz66_1 : wc.cell? ⟨gb329, 1, none⟩ = some (.int .i64 ((rd_T40 l0_5 a1).f1)) := (blk_cell BK329.out 1).trans rfl
           have hcz66_2 : wc.cell? ⟨gb329, 2, none⟩ = some (.int .i64 ((rd_T40 l0_5 a1).f2)) := (blk_cell BK329.out 2).trans rfl
           have hcz66_3 : wc.cell? ⟨gb329, 3, none⟩ = some (.int .i64 ((rd_T40 l0_5 a1).f3.f0)) := (blk_cell BK329.out 3).trans rfl
           have hcz66_4 : wc.cell? ⟨gb329, 4, none⟩ = some (.int .i64 ((rd_T40 l0_5 a1).f3.f1)) := (blk_cell BK329.out 4).trans rfl
           have hfz66_0 := blk_frozen BK329.out 0
           have hfz66_1 := blk_frozen BK329.out 1
           have hfz66_2 := blk_frozen BK329.out 2
           have hfz66_3 := blk_frozen BK329.out 3
           have hfz66_4 := blk_frozen BK329.out 4
           go_wp2
           go_ret
           exact ⟨_, by first | rfl | (simp [errW_none, errW_some] <;> rfl) | (simp [*, errW_none, errW_some] <;> rfl), by (with_reducible repeat (first | apply Kd.R_alloc | apply Kd.R_drewN | apply Kd.R_drew)); exact HO_5.out, by repeat (first | (with_reducible first | exact HB.out | apply below_alloc | apply pw_below_drewN | apply below_drew1 | refine below_set ?_ GE324.out | refine below_set ?_ GE329.out) | exact HB.out)⟩
          ·rw [if_neg c64] at H
           have c64b0 : (((rd_T40 l0_5 a1).f3.f1) == ((rd_T40 l0_5 a1).f3.f0)) = false := beq_eq_false_iff_ne.mpr c64
           have c64b1 : (((rd_T40 l0_5 a1).f3.f1) != ((rd_T40 l0_5 a1).f3.f0)) = true := bne_iff_ne.mpr c64
           by_cases c67 : ((rd_T40 l0_5 a1).f3.f1) ≥ 0
           ·rw [if_pos c67] at H
            have c67b0 : decide (0 ≤ ((rd_T40 l0_5 a1).f3.f1)) = true := decide_eq_true c67
            clear c67
            by_cases c68 : ((rd_T40 l0_5 a1).f3.f1) < (l0_5.length : Int)
            ·rw [if_pos c68] at H
             have c68b0 : decide (((rd_T40 l0_5 a1).f3.f1) < (l0_5.length : Int)) = true := decide_eq_true c68
             clear c68
             by_cases c69 : y325.length < 17592186044416
             ·rw [if_pos c69] at H
              have LMc69 := Aside0.mk c69
              clear c69
              obtain ⟨y336, hy336⟩ : ∃ y_ : List Int, y_ = (y325 ++ [((rd_T40 l0_5 a1).f3.f1)]) := ⟨_, rfl⟩
              replace H : (some y336) = some r := by first | (rw [hy336]; with_reducible exact H) | (have H2_ := (Option.bind_some _ _).symm.trans H; rw [hy336]; with_reducible exact H2_) | (have H2_ := (Option.bind_some _ _).symm.trans H; with_reducible exact H2_) | with_reducible exact H | (rw [hy336]; exact H) | exact H
              have Ny336 := Aside0.mk hy336
              clear hy336
              obtain rfl := Option.some.inj H
              have hnb70 := NB329_324.out
              have hnc70 := NB324_329.out
              have hcz71_0 : wc.cell? ⟨gb329, 0, none⟩ = some (.slice A328_0 ((rd_T40 l0_5 a1).f0).length c328_0) := (blk_cell BK329.out 0).trans rfl
              have hcz71_1 : wc.cell? ⟨gb329, 1, none⟩ = some (.int .i64 ((rd_T40 l0_5 a1).f1)) := (blk_cell BK329.out 1).trans rfl
              have hcz71_2 : wc.cell? ⟨gb329, 2, none⟩ = some (.int .i64 ((rd_T40 l0_5 a1).f2)) := (blk_cell BK329.out 2).trans rfl
              have hcz71_3 : wc.cell? ⟨gb329, 3, none⟩ = some (.int .i64 ((rd_T40 l0_5 a1).f3.f0)) := (blk_cell BK329.out 3).trans rfl
              have hcz71_4 : wc.cell? ⟨gb329, 4, none⟩ = some (.int .i64 ((rd_T40 l0_5 a1).f3.f1)) := (blk_cell BK329.out 4).trans rfl
              have hfz71_0 := blk_frozen BK329.out 0
              have hfz71_1 := blk_frozen BK329.out 1
              have hfz71_2 := blk_frozen BK329.out 2
              have hfz71_3 := blk_frozen BK329.out 3
              have hfz71_4 := blk_frozen BK329.out 4
              have hcz72_0 : wc.cell? ⟨gb324, 0, none⟩ = some (.string a0_0) := (blk_cell BK324.out 0).trans rfl
              have hcz72_1 : wc.cell? ⟨gb324, 1, none⟩ = some (.slice A0_1 l0_1.length c0_1) := (blk_cell BK324.out 1).trans rfl
              have hcz72_2 : wc.cell? ⟨gb324, 2, none⟩ = some (.string a0_2) := (blk_cell BK324.out 2).trans rfl
              have hcz72_3 : wc.cell? ⟨gb324, 3, none⟩ = some (.slice A0_3 l0_3.length c0_3) := (blk_cell BK324.out 3).trans rfl
              have hcz72_4 : wc.cell? ⟨gb324, 4, none⟩ = some (.slice A0_4 l0_4.length c0_4) := (blk_cell BK324.out 4).trans rfl
              have hcz72_5 : wc.cell? ⟨gb324, 5, none⟩ = some (.slice (some ad328) l0_5.length c0_5) := (blk_cell BK324.out 5).trans rfl
              have hfz72_0 := blk_frozen BK324.out 0
              have hfz72_1 := blk_frozen BK324.out 1
              have hfz72_2 := blk_frozen BK324.out 2
              have hfz72_3 := blk_frozen BK324.out 3
              have hfz72_4 := blk_frozen BK324.out 4
              have hfz72_5 := blk_frozen BK324.out 5
              go_wp2_with (first | ((with_reducible refine gate_builtin (b := .append) (xs := #[.tmp 79, .tmp 83]) rfl ?_); (try (refine gate_guard (by rfl) ?_; dsimp only)); at_builtin; refine Kd.R_append (Kd.int .i64) (w0 := w) w.heap.size rfl (.tmp 79) (.tmp 83) 34 3 (.int .i64 0) 8 rfl Try.underlying34 info3 rfl (by decide) (by omega) v326 y325 ((rd_T40 l0_5 a1).f3.f1) [.int .i64 ((rd_T40 l0_5 a1).f3.f1)] (fun _ => True) (fun _ => False) rfl rfl ?aP (fun _ hk => hk.elim) ?aF ?aO ?aB ?aS ?aL ?_; (case aP => exact rfl); (case aB => exact (by repeat (first | (with_reducible first | exact HB.out | apply below_alloc | apply pw_below_drewN | apply below_drew1 | refine below_set ?_ GE324.out | refine below_set ?_ GE329.out) | exact HB.out))); (case aF => exact (fun _ _ => trivial)); (case aO => exact (by (with_reducible repeat (first | apply Kd.R_alloc | apply Kd.R_drewN | apply Kd.R_drew)); exact HO_5.out)); (case aS => exact (below_size (by repeat (first | (with_reducible first | exact HB.out | apply below_alloc | apply pw_below_drewN | apply below_drew1 | refine below_set ?_ GE324.out | refine below_set ?_ GE329.out) | exact HB.out)))); (case aL => have := LMc69.out; omega); intro v337 w73 ho hb hg hat; rw [← Ny336.out] at ho; have n0_ := Aside0.mk (blk_grown (g := gb324) (o := .cells #[.string a0_0, .slice A0_1 l0_1.length c0_1, .string a0_2, .slice A0_3 l0_3.length c0_3, .slice A0_4 l0_4.length c0_4, .slice (some ad328) l0_5.length c0_5] 26 (0, 0)) (by (with_reducible repeat (first | refine blk_drewN ?_ _ | refine blk_drew ?_ | refine blk_alloc ?_ _)); exact BK324.out) hg (Kd.R_ne HO_5.out BK324.out (by decide))); have n1_ := Aside0.mk (blk_grown (g := gb329) (o := .cells #[.slice A328_0 ((rd_T40 l0_5 a1).f0).length c328_0, .int .i64 ((rd_T40 l0_5 a1).f1), .int .i64 ((rd_T40 l0_5 a1).f2), .int .i64 ((rd_T40 l0_5 a1).f3.f0), .int .i64 ((rd_T40 l0_5 a1).f3.f1)] 40 (0, 0)) (by (with_reducible repeat (first | refine blk_drewN ?_ _ | refine blk_drew ?_ | refine blk_alloc ?_ _)); exact BK329.out) hg (Kd.R_ne HO_5.out BK329.out (by decide))); have n2_ := Aside0.mk (hb); have n3_ := Aside0.mk (ho); clear BK324; clear BK329; clear HB; clear HO_5; have BK324 := n0_; have BK329 := n1_; have HB := n2_; have HO338 := n3_; clear n0_ n1_ n2_ n3_; clear ho hb hg hat))
              go_ret
              exact ⟨_, by first | rfl | (simp [errW_none, errW_some] <;> rfl) | (simp [*, errW_none, errW_some] <;> rfl), by (with_reducible repeat (first | apply Kd.R_alloc | apply Kd.R_drewN | apply Kd.R_drew)); exact HO338.out, by repeat (first | (with_reducible first | exact HB.out | apply below_alloc | apply pw_below_drewN | apply below_drew1 | refine below_set ?_ GE324.out | refine below_set ?_ GE329.out) | exact HB.out)⟩
             ·rw [if_neg c69] at H
              exact absurd H (by simp)
            ·rw [if_neg c68] at H
             have c68b0 : decide (((rd_T40 l0_5 a1).f3.f1) < (l0_5.length : Int)) = false := decide_eq_false c68
             clear c68
             obtain rfl := Option.some.inj H
             have hnb74 := NB329_324.out
             have hnc74 := NB324_329.out
             have hcz75_0 : wc.cell? ⟨gb329, 0, none⟩ = some (.slice A328_0 ((rd_T40 l0_5 a1).f0).length c328_0) := (blk_cell BK329.out 0).trans rfl
             have hcz75_1 : wc.cell? ⟨gb329, 1, none⟩ = some (.int .i64 ((rd_T40 l0_5 a1).f1)) := (blk_cell BK329.out 1).trans rfl
             have hcz75_2 : wc.cell? ⟨gb329, 2, none⟩ = some (.int .i64 ((rd_T40 l0_5 a1).f2)) := (blk_cell BK329.out 2).trans rfl
             have hcz75_3 : wc.cell? ⟨gb329, 3, none⟩ = some (.int .i64 ((rd_T40 l0_5 a1).f3.f0)) := (blk_cell BK329.out 3).trans rfl
             have hcz75_4 : wc.cell? ⟨gb329, 4, none⟩ = some (.int .i64 ((rd_T40 l0_5 a1).f3.f1)) := (blk_cell BK329.out 4).trans rfl
             have hfz75_0 := blk_frozen BK329.out 0
             have hfz75_1 := blk_frozen BK329.out 1
             have hfz75_2 := blk_frozen BK329.out 2
             have hfz75_3 := blk_frozen BK329.out 3
             have hfz75_4 := blk_frozen BK329.out 4
             have hcz76_0 : wc.cell? ⟨gb324, 0, none⟩ = some (.string a0_0) := (blk_cell BK324.out 0).trans rfl
             have hcz76_1 : wc.cell? ⟨gb324, 1, none⟩ = some (.slice A0_1 l0_1.length c0_1) := (blk_cell BK324.out 1).trans rfl
             have hcz76_2 : wc.cell? ⟨gb324, 2, none⟩ = some (.string a0_2) := (blk_cell BK324.out 2).trans rfl
             have hcz76_3 : wc.cell? ⟨gb324, 3, none⟩ = some (.slice A0_3 l0_3.length c0_3) := (blk_cell BK324.out 3).trans rfl
             have hcz76_4 : wc.cell? ⟨gb324, 4, none⟩ = some (.slice A0_4 l0_4.length c0_4) := (blk_cell BK324.out 4).trans rfl
             have hcz76_5 : wc.cell? ⟨gb324, 5, none⟩ = some (.slice (some ad328) l0_5.length c0_5) := (blk_cell BK324.out 5).trans rfl
             have hfz76_0 := blk_frozen BK324.out 0
             have hfz76_1 := blk_frozen BK324.out 1
             have hfz76_2 := blk_frozen BK324.out 2
             have hfz76_3 := blk_frozen BK324.out 3
             have hfz76_4 := blk_frozen BK324.out 4
             have hfz76_5 := blk_frozen BK324.out 5
             go_wp2
             go_ret
             exact ⟨_, by first | rfl | (simp [errW_none, errW_some] <;> rfl) | (simp [*, errW_none, errW_some] <;> rfl), by (with_reducible repeat (first | apply Kd.R_alloc | apply Kd.R_drewN | apply Kd.R_drew)); exact HO_5.out, by repeat (first | (with_reducible first | exact HB.out | apply below_alloc | apply pw_below_drewN | apply below_drew1 | refine below_set ?_ GE324.out | refine below_set ?_ GE329.out) | exact HB.out)⟩
           ·rw [if_neg c67] at H
            have c67b0 : decide (0 ≤ ((rd_T40 l0_5 a1).f3.f1)) = false := decide_eq_false c67
            clear c67
            obtain rfl := Option.some.inj H
            have hnb77 := NB329_324.out
            have hnc77 := NB324_329.out
            have hcz78_0 : wc.cell? ⟨gb329, 0, none⟩ = some (.slice A328_0 ((rd_T40 l0_5 a1).f0).length c328_0) := (blk_cell BK329.out 0).trans rfl
            have hcz78_1 : wc.cell? ⟨gb329, 1, none⟩ = some (.int .i64 ((rd_T40 l0_5 a1).f1)) := (blk_cell BK329.out 1).trans rfl
            have hcz78_2 : wc.cell? ⟨gb329, 2, none⟩ = some (.int .i64 ((rd_T40 l0_5 a1).f2)) := (blk_cell BK329.out 2).trans rfl
            have hcz78_3 : wc.cell? ⟨gb329, 3, none⟩ = some (.int .i64 ((rd_T40 l0_5 a1).f3.f0)) := (blk_cell BK329.out 3).trans rfl
            have hcz78_4 : wc.cell? ⟨gb329, 4, none⟩ = some (.int .i64 ((rd_T40 l0_5 a1).f3.f1)) := (blk_cell BK329.out 4).trans rfl
            have hfz78_0 := blk_frozen BK329.out 0
            have hfz78_1 := blk_frozen BK329.out 1
            have hfz78_2 := blk_frozen BK329.out 2
            have hfz78_3 := blk_frozen BK329.out 3
            have hfz78_4 := blk_frozen BK329.out 4
            go_wp2
            go_ret
            exact ⟨_, by first | rfl | (simp [errW_none, errW_some] <;> rfl) | (simp [*, errW_none, errW_some] <;> rfl), by (with_reducible repeat (first | apply Kd.R_alloc | apply Kd.R_drewN | apply Kd.R_drew)); exact HO_5.out, by repeat (first | (with_reducible first | exact HB.out | apply below_alloc | apply pw_below_drewN | apply below_drew1 | refine below_set ?_ GE324.out | refine below_set ?_ GE329.out) | exact HB.out)⟩
         ·rw [if_neg c63] at H
          have c63b0 : (((rd_T40 l0_5 a1).f1) == 2) = false := beq_eq_false_iff_ne.mpr c63
          have c63b1 : (((rd_T40 l0_5 a1).f1) != 2) = true := bne_iff_ne.mpr c63
          obtain rfl := Option.some.inj H
          have hnb79 := NB329_324.out
          have hnc79 := NB324_329.out
          have hcz80_0 : wc.cell? ⟨gb329, 0, none⟩ = some (.slice A328_0 ((rd_T40 l0_5 a1).f0).length c328_0) := (blk_cell BK329.out 0).trans rfl
          have hcz80_1 : wc.cell? ⟨gb329, 1, none⟩ = some (.int .i64 ((rd_T40 l0_5 a1).f1)) := (blk_cell BK329.out 1).trans rfl
          have hcz80_2 : wc.cell? ⟨gb329, 2, none⟩ = some (.int .i64 ((rd_T40 l0_5 a1).f2)) := (blk_cell BK329.out 2).trans rfl
          have hcz80_3 : wc.cell? ⟨gb329, 3, none⟩ = some (.int .i64 ((rd_T40 l0_5 a1).f3.f0)) := (blk_cell BK329.out 3).trans rfl
          have hcz80_4 : wc.cell? ⟨gb329, 4, none⟩ = some (.int .i64 ((rd_T40 l0_5 a1).f3.f1)) := (blk_cell BK329.out 4).trans rfl
          have hfz80_0 := blk_frozen BK329.out 0
          have hfz80_1 := blk_frozen BK329.out 1
          have hfz80_2 := blk_frozen BK329.out 2
          have hfz80_3 := blk_frozen BK329.out 3
          have hfz80_4 := blk_frozen BK329.out 4
          go_wp2
          go_ret
          exact ⟨_, by first | rfl | (simp [errW_none, errW_some] <;> rfl) | (simp [*, errW_none, errW_some] <;> rfl), by (with_reducible repeat (first | apply Kd.R_alloc | apply Kd.R_drewN | apply Kd.R_drew)); exact HO_5.out, by repeat (first | (with_reducible first | exact HB.out | apply below_alloc | apply pw_below_drewN | apply below_drew1 | refine below_set ?_ GE324.out | refine below_set ?_ GE329.out) | exact HB.out)⟩
     ·rw [if_neg c11] at H
      exact absurd H (by simp)
    ·rw [if_neg c10] at H
     exact absurd H (by simp)

end Go.Proofs.Ytclhjalgflebfaa.Q

namespace Go.Proofs.Ytclhjalgflebfaa.Q
open Go.RowKit Go.Proofs.YtclhjalgflebfaaW.PrintWords Go.Proofs.YtclhjalgflebfaaW.PrintLast Go.Proofs.YtclhjalgflebfaaW.PrintMore
attribute [local go_sem] max2_int min2_int max_two min_two max_three min_three max_four min_four   -- for this text's walks alone
set_option linter.unusedVariables false
set_option linter.unusedSimpArgs false

/-! ### truantlaw09_same: function 19 -/
def truantlaw09_same.l0 : Nat → List Int → List Int → Int → Option (Bool)
 | 0, _, _, _ => none
 | k + 1, x0, x1, x5 => if x5 < (x0.length : Int) then (if 0 ≤ x5 then (if x5 < (x1.length : Int) then (if (rd x0 x5) = (rd x1 x5) then (truantlaw09_same.l0 k x0 x1 (wrap64 (x5 + 1))) else (some false)) else (none)) else (none)) else (some true)
def truantlaw09_same.f (k : Nat) (l0 : List Int) (l1 : List Int) : Option (Bool) := if (l0.length : Int) = (l1.length : Int) then (truantlaw09_same.l0 k l0 l1 0) else (some false)
theorem truantlaw09_same.mono_l : ∀ k, (∀ y0 y1 y2, LeO (truantlaw09_same.l0 k y0 y1 y2) (truantlaw09_same.l0 (k + 1) y0 y1 y2))
 | 0 => fun _ _ _ r h => by simp [truantlaw09_same.l0] at h
 | k + 1 => by
  have ih0 := truantlaw09_same.mono_l k
  ·intro y0 y1 y2
   unfold truantlaw09_same.l0
   repeat' first
   | (with_reducible exact ih0 _ _ _)
   | (with_reducible exact LeO.refl _)
   | (with_reducible exact LeO.none _)
   | (with_reducible refine LeO.ite ?_ ?_)
   | (with_reducible refine LeO.bind ?_ (fun _ => ?_))
   | exact ih0 _ _ _
   | exact LeO.none _
   | refine LeO.ite ?_ ?_
   | refine LeO.bind ?_ (fun _ => ?_)
theorem truantlaw09_same.mono : ∀ a0 a1 k, LeO (truantlaw09_same.f k a0 a1) (truantlaw09_same.f (k + 1) a0 a1) := by
 intro a0 a1 k
 have ih0 := truantlaw09_same.mono_l k
 unfold truantlaw09_same.f
 repeat' first
   | (with_reducible exact ih0 _ _ _)
   | (with_reducible exact LeO.refl _)
   | (with_reducible exact LeO.none _)
   | (with_reducible refine LeO.ite ?_ ?_)
   | (with_reducible refine LeO.bind ?_ (fun _ => ?_))
   | exact ih0 _ _ _
   | exact LeO.none _
   | refine LeO.ite ?_ ?_
   | refine LeO.bind ?_ (fun _ => ?_)
set_option maxHeartbeats 8000000 in
set_option maxRecDepth 100000 in
theorem truantlaw09_same.calls (k : Nat) (A0 : Option Addr) (c0 : Nat) (l0 : List Int) (A1 : Option Addr) (c1 : Nat) (l1 : List Int) (r : Bool) (w : World) (hr0 : Kd.C (Kd.int .i64) w A0 l0.length l0) (hc0 : l0.length ≤ c0) (hr1 : Kd.C (Kd.int .i64) w A1 l1.length l1) (hc1 : l1.length ≤ c1) (h : truantlaw09_same.f k l0 l1 = some r) :
  Calls Try.prog 19 #[.slice A0 l0.length c0, .slice A1 l1.length c1] w fun e w' => e = .returned (.bool r) ∧ Drawn0 w w' := by
 have HR0 := Aside0.mk hr0
 have HC0 := Aside0.mk hc0
 clear hr0 hc0
 have HR1 := Aside0.mk hr1
 have HC1 := Aside0.mk hc1
 clear hr1 hc1
 have H : (if (l0.length : Int) = (l1.length : Int) then (truantlaw09_same.l0 k l0 l1 0) else (some false)) = some r := h
 clear h
 by_cases c3 : (l0.length : Int) = (l1.length : Int)
 ·rw [if_pos c3] at H
  have c3b0 : ((l0.length : Int) == (l1.length : Int)) = true := beq_iff_eq.mpr c3
  have c3b1 : ((l0.length : Int) != (l1.length : Int)) = false := bne_eq_false_iff_eq.mpr c3
  have c3b2 : (l0.length == l1.length) = true := by first | simpa using c3 | (simp at c3 ⊢; omega)
  clear c3
  have H' := Aside0.mk H
  clear H
  go_enter Try.func19, Try.ntmps19
  go_wp2
  repeat (go_quiet (fail); try go_wp2)
  go_loopg [5] k (fun kq v5 w' => ∃ (x5_1 : Int), v5 = .int .i64 x5_1 ∧ Aside0 (truantlaw09_same.l0 kq l0 l1 x5_1 = some r) ∧ Aside0 (kq ≤ k) ∧ Drawn0 w w')
  case atStart => exact ⟨(0), (by first | rfl | (simp; done) | (simp [*]; done)), H', ⟨Nat.le_refl _⟩, by repeat (first | exact Drawn0.refl _ | apply Drawn0.step)⟩
  case round =>
   clear H'
   try clear c1
   try clear p2
   try clear c3
   try clear c3b0
   try clear c3b1
   try clear c3b2
   obtain ⟨x5_1, rfl, HA, HK1, ⟨m1, rfl⟩⟩ := hrel
   cases gk with
   | zero => exact absurd HA.out (by simp [truantlaw09_same.l0])
   | succ k1 =>
    have H := HA.out
    clear HA
    simp only [truantlaw09_same.l0] at H
    by_cases c4 : x5_1 < (l0.length : Int)
    ·rw [if_pos c4] at H
     have c4b0 : decide (x5_1 < (l0.length : Int)) = true := decide_eq_true c4
     clear c4
     by_cases c5 : 0 ≤ x5_1
     ·rw [if_pos c5] at H
      have c5b0 : decide (0 ≤ x5_1) = true := decide_eq_true c5
      clear c5
      by_cases c6 : x5_1 < (l1.length : Int)
      ·rw [if_pos c6] at H
       have c6b0 : decide (x5_1 < (l1.length : Int)) = true := decide_eq_true c6
       clear c6
       by_cases c7 : (rd l0 x5_1) = (rd l1 x5_1)
       ·rw [if_pos c7] at H
        have c7b0 : ((rd l0 x5_1) == (rd l1 x5_1)) = true := beq_iff_eq.mpr c7
        have c7b1 : ((rd l0 x5_1) != (rd l1 x5_1)) = false := bne_eq_false_iff_eq.mpr c7
        clear c7
        have H' := Aside0.mk H
        clear H
        have p350 : 0 ≤ (x5_1 : Int) := of_decide_eq_true (by first | (with_reducible assumption) | assumption)
        have q350 : x5_1 < (l0.length : Int) := of_decide_eq_true (by first | (with_reducible assumption) | assumption)
        obtain ⟨ad350, e350, hx350_0⟩ := Kd.at_int HR0.out x5_1 p350 q350
        cases e350
        replace p350 := eq_true p350
        replace q350 := eq_true q350
        have p351 : 0 ≤ (x5_1 : Int) := of_decide_eq_true (by first | (with_reducible assumption) | assumption)
        have q351 : x5_1 < (l1.length : Int) := of_decide_eq_true (by first | (with_reducible assumption) | assumption)
        obtain ⟨ad351, e351, hx351_0⟩ := Kd.at_int HR1.out x5_1 p351 q351
        cases e351
        replace p351 := eq_true p351
        replace q351 := eq_true q351
        go_wp2
        repeat (go_quiet (fail); try go_wp2)
        go_roundg k1
        case measure => have := HK1.out; omega
        case rel => exact ⟨(wrap64 (x5_1 + 1)), (by first | rfl | (simp; done) | (simp [*]; done)), H', ⟨by have := HK1.out; omega⟩, by repeat (first | exact Drawn0.refl _ | apply Drawn0.step)⟩
       ·rw [if_neg c7] at H
        have c7b0 : ((rd l0 x5_1) == (rd l1 x5_1)) = false := beq_eq_false_iff_ne.mpr c7
        have c7b1 : ((rd l0 x5_1) != (rd l1 x5_1)) = true := bne_iff_ne.mpr c7
        obtain rfl := Option.some.inj H
        have p350 : 0 ≤ (x5_1 : Int) := of_decide_eq_true (by first | (with_reducible assumption) | assumption)
        have q350 : x5_1 < (l0.length : Int) := of_decide_eq_true (by first | (with_reducible assumption) | assumption)
        obtain ⟨ad350, e350, hx350_0⟩ := Kd.at_int HR0.out x5_1 p350 q350
        cases e350
        replace p350 := eq_true p350
        replace q350 := eq_true q350
        have p351 : 0 ≤ (x5_1 : Int) := of_decide_eq_true (by first | (with_reducible assumption) | assumption)
        have q351 : x5_1 < (l1.length : Int) := of_decide_eq_true (by first | (with_reducible assumption) | assumption)
        obtain ⟨ad351, e351, hx351_0⟩ := Kd.at_int HR1.out x5_1 p351 q351
        cases e351
        replace p351 := eq_true p351
        replace q351 := eq_true q351
        go_wp2
        repeat (go_quiet (fail); try go_wp2)
        go_ret
        exact ⟨by first | rfl | (simp; done) | (simp [*]; done), by repeat (first | exact Drawn0.refl _ | apply Drawn0.step)⟩
      ·rw [if_neg c6] at H
       exact absurd H (by simp)
     ·rw [if_neg c5] at H
      exact absurd H (by simp)
    ·rw [if_neg c4] at H
     have c4b0 : decide (x5_1 < (l0.length : Int)) = false := decide_eq_false c4
     clear c4
     obtain rfl := Option.some.inj H
     go_wp2
     repeat (go_quiet (fail); try go_wp2)
     go_ret
     exact ⟨by first | rfl | (simp; done) | (simp [*]; done), by repeat (first | exact Drawn0.refl _ | apply Drawn0.step)⟩
 ·rw [if_neg c3] at H
  have c3b0 : ((l0.length : Int) == (l1.length : Int)) = false := beq_eq_false_iff_ne.mpr c3
  have c3b1 : ((l0.length : Int) != (l1.length : Int)) = true := bne_iff_ne.mpr c3
  have c3b2 : (l0.length == l1.length) = false := by first | simpa using c3 | (simp at c3 ⊢; omega)
  obtain rfl := Option.some.inj H
  go_enter Try.func19, Try.ntmps19
  go_wp2
  repeat (go_quiet (fail); try go_wp2)
  go_ret
  exact ⟨by first | rfl | (simp; done) | (simp [*]; done), by repeat (first | exact Drawn0.refl _ | apply Drawn0.step)⟩

end Go.Proofs.Ytclhjalgflebfaa.Q

namespace Go.Proofs.Ytclhjalgflebfaa.Q
open Go.RowKit Go.Proofs.YtclhjalgflebfaaW.PrintWords Go.Proofs.YtclhjalgflebfaaW.PrintLast Go.Proofs.YtclhjalgflebfaaW.PrintMore
attribute [local go_sem] max2_int min2_int max_two min_two max_three min_three max_four min_four   -- for this text's walks alone
set_option linter.unusedVariables false
set_option linter.unusedSimpArgs false

/-! ### truantref09_Order: function 23 -/
mutual
def truantref09_Order.l0 : Nat → List Bool → List Int → List Int → ByteArray → List ByteArray → ByteArray → List ByteArray → List (S58) → List (S40) → Option (List Int)
 | 0, _, _, _, _, _, _, _, _, _ => none
 | k + 1, x3, x4, x5, x353000, x353001, x353002, x353003, x353004, x353005 => if (x4.length : Int) > 0 then (if 0 ≤ (wrap64 ((x4.length : Int) - 1)) then (if (wrap64 ((x4.length : Int) - 1)) < (x4.length : Int) then ((truantref09_Next.f k x353000 x353001 x353002 x353003 x353004 x353005 (rd x4 (wrap64 ((x4.length : Int) - 1)))).bind fun t364 => (truantref09_Order.l1 k x3 x4 x5 (rd x4 (wrap64 ((x4.length : Int) - 1))) t364 (-1) (wrap64 ((t364.length : Int) - 1)) x353000 x353001 x353002 x353003 x353004 x353005)) else (none)) else (none)) else (some x5)
def truantref09_Order.l1 : Nat → List Bool → List Int → List Int → Int → List Int → Int → Int → ByteArray → List ByteArray → ByteArray → List ByteArray → List (S58) → List (S40) → Option (List Int)
 | 0, _, _, _, _, _, _, _, _, _, _, _, _, _ => none
 | k + 1, x3, x4, x5, x6, x7, x8, x9, x353000, x353001, x353002, x353003, x353004, x353005 => if x9 ≥ 0 then (if 0 ≤ x9 then (if x9 < (x7.length : Int) then (if 0 ≤ (rd x7 x9) then (if (rd x7 x9) < (x3.length : Int) then (if (rdOf false x3 (rd x7 x9) = true) then (truantref09_Order.l1 k x3 x4 x5 x6 x7 x8 (wrap64 (x9 - 1)) x353000 x353001 x353002 x353003 x353004 x353005) else (truantref09_Order.l1 k x3 x4 x5 x6 x7 (rd x7 x9) (wrap64 (x9 - 1)) x353000 x353001 x353002 x353003 x353004 x353005)) else (none)) else (none)) else (none)) else (none)) else (if x8 ≥ 0 then (if 0 ≤ x8 then (if x8 < (x3.length : Int) then (if x4.length < 17592186044416 then (truantref09_Order.l0 k (x3.set (x8 : Int).toNat true) (x4 ++ [x8]) x5 x353000 x353001 x353002 x353003 x353004 x353005) else (none)) else (none)) else (none)) else ((some (([x6] : List Int) : List Int)).bind fun y374 => (if y374.length + x5.length < 17592186044416 then (if 0 ≤ (wrap64 ((x4.length : Int) - 1)) then (if (wrap64 ((x4.length : Int) - 1)) ≤ (x4.length : Int) then (truantref09_Order.l0 k x3 (x4.take ((wrap64 ((x4.length : Int) - 1)) : Int).toNat) (y374 ++ x5) x353000 x353001 x353002 x353003 x353004 x353005) else (none)) else (none)) else (none))))
end
def truantref09_Order.f (k : Nat) (a0_0 : ByteArray) (l0_1 : List ByteArray) (a0_2 : ByteArray) (l0_3 : List ByteArray) (l0_4 : List (S58)) (l0_5 : List (S40)) : Option (List Int) := if (l0_5.length : Int) = 0 then (some ([] : List Int)) else (if 0 ≤ (l0_5.length : Int) then (if ((l0_5.length : Int) : Int).toNat ≤ 281474976710656 then ((some (List.replicate ((l0_5.length : Int) : Int).toNat false : List Bool)).bind fun y353 => (if 0 < (y353.length : Int) then (truantref09_Order.l0 k (y353.set (0 : Int).toNat true) (([0] : List Int)) (([] : List Int)) a0_0 l0_1 a0_2 l0_3 l0_4 l0_5) else (none))) else (none)) else (none))
theorem truantref09_Order.mono_l : ∀ k, (∀ y0 y1 y2 y3 y4 y5 y6 y7 y8, LeO (truantref09_Order.l0 k y0 y1 y2 y3 y4 y5 y6 y7 y8) (truantref09_Order.l0 (k + 1) y0 y1 y2 y3 y4 y5 y6 y7 y8)) ∧ (∀ y0 y1 y2 y3 y4 y5 y6 y7 y8 y9 y10 y11 y12, LeO (truantref09_Order.l1 k y0 y1 y2 y3 y4 y5 y6 y7 y8 y9 y10 y11 y12) (truantref09_Order.l1 (k + 1) y0 y1 y2 y3 y4 y5 y6 y7 y8 y9 y10 y11 y12))
 | 0 => ⟨fun _ _ _ _ _ _ _ _ _ r h => by simp [truantref09_Order.l0] at h, fun _ _ _ _ _ _ _ _ _ _ _ _ _ r h => by simp [truantref09_Order.l1] at h⟩
 | k + 1 => by
  obtain ⟨ih0, ih1⟩ := truantref09_Order.mono_l k
  refine ⟨?_, ?_⟩
  ·intro y0 y1 y2 y3 y4 y5 y6 y7 y8
   unfold truantref09_Order.l0
   repeat' first
   | (with_reducible exact ih0 _ _ _ _ _ _ _ _ _)
   | (with_reducible exact ih1 _ _ _ _ _ _ _ _ _ _ _ _ _)
   | (with_reducible exact truantref09_Next.mono _ _ _ _ _ _ _ _)
   | (with_reducible exact LeO.refl _)
   | (with_reducible exact LeO.none _)
   | (with_reducible refine LeO.ite ?_ ?_)
   | (with_reducible refine LeO.bind ?_ (fun _ => ?_))
   | exact ih0 _ _ _ _ _ _ _ _ _
   | exact ih1 _ _ _ _ _ _ _ _ _ _ _ _ _
   | exact truantref09_Next.mono _ _ _ _ _ _ _ _
   | exact LeO.none _
   | refine LeO.ite ?_ ?_
   | refine LeO.bind ?_ (fun _ => ?_)
  ·intro y0 y1 y2 y3 y4 y5 y6 y7 y8 y9 y10 y11 y12
   unfold truantref09_Order.l1
   repeat' first
   | (with_reducible exact ih0 _ _ _ _ _ _ _ _ _)
   | (with_reducible exact ih1 _ _ _ _ _ _ _ _ _ _ _ _ _)
   | (with_reducible exact truantref09_Next.mono _ _ _ _ _ _ _ _)
   | (with_reducible exact LeO.refl _)
   | (with_reducible exact LeO.none _)
   | (with_reducible refine LeO.ite ?_ ?_)
   | (with_reducible refine LeO.bind ?_ (fun _ => ?_))
   | exact ih0 _ _ _ _ _ _ _ _ _
   | exact ih1 _ _ _ _ _ _ _ _ _ _ _ _ _
   | exact truantref09_Next.mono _ _ _ _ _ _ _ _
   | exact LeO.none _
   | refine LeO.ite ?_ ?_
   | refine LeO.bind ?_ (fun _ => ?_)
theorem truantref09_Order.mono : ∀ a0 a1 a2 a3 a4 a5 k, LeO (truantref09_Order.f k a0 a1 a2 a3 a4 a5) (truantref09_Order.f (k + 1) a0 a1 a2 a3 a4 a5) := by
 intro a0 a1 a2 a3 a4 a5 k
 obtain ⟨ih0, ih1⟩ := truantref09_Order.mono_l k
 unfold truantref09_Order.f
 repeat' first
   | (with_reducible exact ih0 _ _ _ _ _ _ _ _ _)
   | (with_reducible exact ih1 _ _ _ _ _ _ _ _ _ _ _ _ _)
   | (with_reducible exact truantref09_Next.mono _ _ _ _ _ _ _ _)
   | (with_reducible exact LeO.refl _)
   | (with_reducible exact LeO.none _)
   | (with_reducible refine LeO.ite ?_ ?_)
   | (with_reducible refine LeO.bind ?_ (fun _ => ?_))
   | exact ih0 _ _ _ _ _ _ _ _ _
   | exact ih1 _ _ _ _ _ _ _ _ _ _ _ _ _
   | exact truantref09_Next.mono _ _ _ _ _ _ _ _
   | exact LeO.none _
   | refine LeO.ite ?_ ?_
   | refine LeO.bind ?_ (fun _ => ?_)
set_option maxHeartbeats 8000000 in
set_option maxRecDepth 100000 in
theorem truantref09_Order.calls (k : Nat) (a0_0 : ByteArray) (A0_1 : Option Addr) (c0_1 : Nat) (l0_1 : List ByteArray) (a0_2 : ByteArray) (A0_3 : Option Addr) (c0_3 : Nat) (l0_3 : List ByteArray) (A0_4 : Option Addr) (c0_4 : Nat) (l0_4 : List (S58)) (A0_5 : Option Addr) (c0_5 : Nat) (l0_5 : List (S40)) (r : List Int) (w : World) (hr0_1 : Kd.C Kd.string w A0_1 l0_1.length l0_1) (hc0_1 : l0_1.length ≤ c0_1) (hr0_3 : Kd.C Kd.string w A0_3 l0_3.length l0_3) (hc0_3 : l0_3.length ≤ c0_3) (hr0_4 : Kd.C k58 w A0_4 l0_4.length l0_4) (hc0_4 : l0_4.length ≤ c0_4) (hr0_5 : Kd.C k40 w A0_5 l0_5.length l0_5) (hc0_5 : l0_5.length ≤ c0_5) (h : truantref09_Order.f k a0_0 l0_1 a0_2 l0_3 l0_4 l0_5 = some r) :
  Calls Try.prog 23 #[.agg #[.string a0_0, .slice A0_1 l0_1.length c0_1, .string a0_2, .slice A0_3 l0_3.length c0_3, .slice A0_4 l0_4.length c0_4, .slice A0_5 l0_5.length c0_5]] w fun e w' => ∃ v0_ : Value, e = .returned (v0_) ∧ Kd.R (Kd.int .i64) 3 w' w.heap.size (fun _ => True) v0_ r ∧ Below w.heap.size w w' := by
 have hu26 := Try.underlying26
 have HR0_1 := Aside0.mk hr0_1
 have HC0_1 := Aside0.mk hc0_1
 clear hr0_1 hc0_1
 have HR0_3 := Aside0.mk hr0_3
 have HC0_3 := Aside0.mk hc0_3
 clear hr0_3 hc0_3
 have HR0_4 := Aside0.mk hr0_4
 have HC0_4 := Aside0.mk hc0_4
 clear hr0_4 hc0_4
 have HR0_5 := Aside0.mk hr0_5
 have HC0_5 := Aside0.mk hc0_5
 clear hr0_5 hc0_5
 have HB := Aside0.mk (Below.refl w.heap.size w)
 have H : (if (l0_5.length : Int) = 0 then (some ([] : List Int)) else (if 0 ≤ (l0_5.length : Int) then (if ((l0_5.length : Int) : Int).toNat ≤ 281474976710656 then ((some (List.replicate ((l0_5.length : Int) : Int).toNat false : List Bool)).bind fun y353 => (if 0 < (y353.length : Int) then (truantref09_Order.l0 k (y353.set (0 : Int).toNat true) (([0] : List Int)) (([] : List Int)) a0_0 l0_1 a0_2 l0_3 l0_4 l0_5) else (none))) else (none)) else (none))) = some r := h
 clear h
 by_cases c2 : (l0_5.length : Int) = 0
 ·rw [if_pos c2] at H
  have c2b0 : ((l0_5.length : Int) == 0) = true := beq_iff_eq.mpr c2
  have c2b1 : ((l0_5.length : Int) != 0) = false := bne_eq_false_iff_eq.mpr c2
  clear c2
  obtain rfl := Option.some.inj H
  go_enter Try.func23, Try.ntmps23
  go_wp2_with (first | ((with_reducible refine gate_dst (N := 1) rfl ?_); refine box_event ?hg (N := 1) ?hd (cs := #[.string a0_0, .slice A0_1 l0_1.length c0_1, .string a0_2, .slice A0_3 l0_3.length c0_3, .slice A0_4 l0_4.length c0_4, .slice A0_5 l0_5.length c0_5]) (t := 26) ?hr ?_; (case hd => rfl); (case hg => rfl); (case hr => first | (go_simp; done) | (go_simp; rfl)); intro gb352 hg w3 hbox hb; have n0_ := Aside0.mk (below_step (by repeat (first | (with_reducible first | exact HB.out | apply below_alloc | apply pw_below_drewN | apply below_drew1) | exact HB.out)) hb); have n1_ := Aside0.mk (hbox); have n2_ := Aside0.mk ((by rw [hg]; exact (below_size (by repeat (first | (with_reducible first | exact HB.out | apply below_alloc | apply pw_below_drewN | apply below_drew1) | exact HB.out))) : w.heap.size ≤ gb352)); have n3_ := Aside0.mk ((by rw [hg]; exact (below_size (by repeat (first | (with_reducible first | exact HB.out | apply below_alloc | apply pw_below_drewN | apply below_drew1) | exact HB.out))) : w.heap.size ≤ gb352)); clear HB; have HB := n0_; have BK352 := n1_; have GW352 := n2_; have GE352 := n3_; clear n0_ n1_ n2_ n3_; clear hb hbox hg; have hcz4_0 : w3.cell? ⟨gb352, 0, none⟩ = some (.string a0_0) := (blk_cell BK352.out 0).trans rfl; have hcz4_1 : w3.cell? ⟨gb352, 1, none⟩ = some (.slice A0_1 l0_1.length c0_1) := (blk_cell BK352.out 1).trans rfl; have hcz4_2 : w3.cell? ⟨gb352, 2, none⟩ = some (.string a0_2) := (blk_cell BK352.out 2).trans rfl; have hcz4_3 : w3.cell? ⟨gb352, 3, none⟩ = some (.slice A0_3 l0_3.length c0_3) := (blk_cell BK352.out 3).trans rfl; have hcz4_4 : w3.cell? ⟨gb352, 4, none⟩ = some (.slice A0_4 l0_4.length c0_4) := (blk_cell BK352.out 4).trans rfl; have hcz4_5 : w3.cell? ⟨gb352, 5, none⟩ = some (.slice A0_5 l0_5.length c0_5) := (blk_cell BK352.out 5).trans rfl; have hfz4_0 := blk_frozen BK352.out 0; have hfz4_1 := blk_frozen BK352.out 1; have hfz4_2 := blk_frozen BK352.out 2; have hfz4_3 := blk_frozen BK352.out 3; have hfz4_4 := blk_frozen BK352.out 4; have hfz4_5 := blk_frozen BK352.out 5))
  go_ret
  exact ⟨_, by first | rfl | (simp [errW_none, errW_some] <;> rfl) | (simp [*, errW_none, errW_some] <;> rfl), by first | exact Kd.R_nil _ _ _ _ _ | exact Kd.N_nil _ _ _ _ _ | exact Kd.V_nil _ _ _ _ _ | exact Kd.Q_nil _ _ _ _ _ | exact Kd.S_nil _ _ _ _ _, by repeat (first | (with_reducible first | exact HB.out | apply below_alloc | apply pw_below_drewN | apply below_drew1 | refine below_set ?_ GE352.out) | exact HB.out)⟩
 ·rw [if_neg c2] at H
  have c2b0 : ((l0_5.length : Int) == 0) = false := beq_eq_false_iff_ne.mpr c2
  have c2b1 : ((l0_5.length : Int) != 0) = true := bne_iff_ne.mpr c2
  have c2b2 : ¬ (l0_5 = []) := fun h_ => c2 (by rw [h_]; rfl)
  by_cases c5 : 0 ≤ (l0_5.length : Int)
  ·rw [if_pos c5] at H
   have c5b0 := eq_true c5
   have c5b1 : decide (0 ≤ (l0_5.length : Int)) = true := decide_eq_true c5
   clear c5
   by_cases c6 : ((l0_5.length : Int) : Int).toNat ≤ 281474976710656
   ·rw [if_pos c6] at H
    have c6b0 := eq_true c6
    have c6b1 : decide (((l0_5.length : Int) : Int).toNat ≤ 281474976710656) = true := decide_eq_true c6
    clear c6
    obtain ⟨y353, hy353⟩ : ∃ y_ : List Bool, y_ = (List.replicate ((l0_5.length : Int) : Int).toNat false) := ⟨_, rfl⟩
    replace H : (if 0 < (y353.length : Int) then (truantref09_Order.l0 k (y353.set (0 : Int).toNat true) (([0] : List Int)) (([] : List Int)) a0_0 l0_1 a0_2 l0_3 l0_4 l0_5) else (none)) = some r := by first | (rw [hy353]; with_reducible exact H) | (have H2_ := (Option.bind_some _ _).symm.trans H; rw [hy353]; with_reducible exact H2_) | (have H2_ := (Option.bind_some _ _).symm.trans H; with_reducible exact H2_) | with_reducible exact H | (rw [hy353]; exact H) | exact H
    have Ny353 := Aside0.mk hy353
    clear hy353
    obtain ⟨y356, hy356⟩ : ∃ y_ : List Int, y_ = (([0] : List Int)) := ⟨_, rfl⟩
    replace H : (if 0 < (y353.length : Int) then (truantref09_Order.l0 k (y353.set (0 : Int).toNat true) y356 (([] : List Int)) a0_0 l0_1 a0_2 l0_3 l0_4 l0_5) else (none)) = some r := by first | (rw [hy356]; with_reducible exact H) | (have H2_ := (Option.bind_some _ _).symm.trans H; rw [hy356]; with_reducible exact H2_) | (have H2_ := (Option.bind_some _ _).symm.trans H; with_reducible exact H2_) | with_reducible exact H | (rw [hy356]; exact H) | exact H
    have Ny356 := Aside0.mk hy356
    clear hy356
    by_cases c7 : 0 < (y353.length : Int)
    ·rw [if_pos c7] at H
     have c7b0 : decide (0 < (y353.length : Int)) = true := decide_eq_true c7
     have c7b1 : decide (0 < y353.length) = true := decide_eq_true (by omega)
     clear c7
     obtain ⟨y359, hy359⟩ : ∃ y_ : List Bool, y_ = (y353.set (0 : Int).toNat true) := ⟨_, rfl⟩
     replace H : (truantref09_Order.l0 k y359 y356 (([] : List Int)) a0_0 l0_1 a0_2 l0_3 l0_4 l0_5) = some r := by first | (rw [hy359]; with_reducible exact H) | (have H2_ := (Option.bind_some _ _).symm.trans H; rw [hy359]; with_reducible exact H2_) | (have H2_ := (Option.bind_some _ _).symm.trans H; with_reducible exact H2_) | with_reducible exact H | (rw [hy359]; exact H) | exact H
     have Ny359 := Aside0.mk hy359
     clear hy359
     obtain ⟨y360, hy360⟩ : ∃ y_ : List Int, y_ = (([] : List Int)) := ⟨_, rfl⟩
     replace H : (truantref09_Order.l0 k y359 y356 y360 a0_0 l0_1 a0_2 l0_3 l0_4 l0_5) = some r := by first | (rw [hy360]; with_reducible exact H) | (have H2_ := (Option.bind_some _ _).symm.trans H; rw [hy360]; with_reducible exact H2_) | (have H2_ := (Option.bind_some _ _).symm.trans H; with_reducible exact H2_) | with_reducible exact H | (rw [hy360]; exact H) | exact H
     have Ny360 := Aside0.mk hy360
     clear hy360
     have H' := Aside0.mk H
     clear H
     go_enter Try.func23, Try.ntmps23
     go_wp2_with (first | ((with_reducible refine gate_dst (N := 1) rfl ?_); refine box_event ?hg (N := 1) ?hd (cs := #[.string a0_0, .slice A0_1 l0_1.length c0_1, .string a0_2, .slice A0_3 l0_3.length c0_3, .slice A0_4 l0_4.length c0_4, .slice A0_5 l0_5.length c0_5]) (t := 26) ?hr ?_; (case hd => rfl); (case hg => rfl); (case hr => first | (go_simp; done) | (go_simp; rfl)); intro gb352 hg w9 hbox hb; have n0_ := Aside0.mk (below_step (by repeat (first | (with_reducible first | exact HB.out | apply below_alloc | apply pw_below_drewN | apply below_drew1) | exact HB.out)) hb); have n1_ := Aside0.mk (hbox); have n2_ := Aside0.mk ((by rw [hg]; exact (below_size (by repeat (first | (with_reducible first | exact HB.out | apply below_alloc | apply pw_below_drewN | apply below_drew1) | exact HB.out))) : w.heap.size ≤ gb352)); have n3_ := Aside0.mk ((by rw [hg]; exact (below_size (by repeat (first | (with_reducible first | exact HB.out | apply below_alloc | apply pw_below_drewN | apply below_drew1) | exact HB.out))) : w.heap.size ≤ gb352)); clear HB; have HB := n0_; have BK352 := n1_; have GW352 := n2_; have GE352 := n3_; clear n0_ n1_ n2_ n3_; clear hb hbox hg; have hcz10_0 : w9.cell? ⟨gb352, 0, none⟩ = some (.string a0_0) := (blk_cell BK352.out 0).trans rfl; have hcz10_1 : w9.cell? ⟨gb352, 1, none⟩ = some (.slice A0_1 l0_1.length c0_1) := (blk_cell BK352.out 1).trans rfl; have hcz10_2 : w9.cell? ⟨gb352, 2, none⟩ = some (.string a0_2) := (blk_cell BK352.out 2).trans rfl; have hcz10_3 : w9.cell? ⟨gb352, 3, none⟩ = some (.slice A0_3 l0_3.length c0_3) := (blk_cell BK352.out 3).trans rfl; have hcz10_4 : w9.cell? ⟨gb352, 4, none⟩ = some (.slice A0_4 l0_4.length c0_4) := (blk_cell BK352.out 4).trans rfl; have hcz10_5 : w9.cell? ⟨gb352, 5, none⟩ = some (.slice A0_5 l0_5.length c0_5) := (blk_cell BK352.out 5).trans rfl; have hfz10_0 := blk_frozen BK352.out 0; have hfz10_1 := blk_frozen BK352.out 1; have hfz10_2 := blk_frozen BK352.out 2; have hfz10_3 := blk_frozen BK352.out 3; have hfz10_4 := blk_frozen BK352.out 4; have hfz10_5 := blk_frozen BK352.out 5) | ((with_reducible refine gate_dst (N := 17) rfl ?_); refine Kd.R_make Kd.bool _ 4 rfl (N := 17) rfl 31 _ _ rfl (l0_5.length : Int) rfl rfl Try.underlying31 (.bool false) 1 info4 rfl (by decide) (by omega) false (ok := fun _ => True) (okp := fun _ => True) rfl (fun _ hk => hk) trivial (of_decide_eq_true (by first | (with_reducible assumption) | assumption)) (Nat.le_trans (Nat.mul_le_mul_right _ (of_decide_eq_true (by first | (with_reducible assumption) | assumption) : (l0_5.length : Int).toNat ≤ 281474976710656)) (by omega)) (Below.refl _ _) (Nat.le_refl _) ?_; intro v354 w11 ho12 hb hg_ hnew_; clear hg_ hnew_; (first | rw [← Ny353.out] at ho12 | (simp only [Int.reduceToNat] at ho12; rw [← Ny353.out] at ho12)); have n0_ := Aside0.mk (Kd.R_lower ho12 (below_size (by repeat (first | (with_reducible first | exact HB.out | apply below_alloc | apply pw_below_drewN | apply below_drew1 | refine below_set ?_ GE352.out) | exact HB.out)))); have n1_ := Aside0.mk (blk_below (g := gb352) (o := .cells #[.string a0_0, .slice A0_1 l0_1.length c0_1, .string a0_2, .slice A0_3 l0_3.length c0_3, .slice A0_4 l0_4.length c0_4, .slice A0_5 l0_5.length c0_5] 26 (0, 0)) (by (with_reducible repeat (first | refine blk_drewN ?_ _ | refine blk_drew ?_ | refine blk_alloc ?_ _)); exact BK352.out) hb); have n2_ := Aside0.mk (below_step (by repeat (first | (with_reducible first | exact HB.out | apply below_alloc | apply pw_below_drewN | apply below_drew1 | refine below_set ?_ GE352.out) | exact HB.out)) hb); clear BK352; clear HB; have HO355 := n0_; have BK352 := n1_; have HB := n2_; clear n0_ n1_ n2_; clear hb ho12) | ((with_reducible refine gate_dst (N := 18) rfl ?_); refine Kd.R_lit (Kd.int .i64) _ 3 ?hg (N := 18) ?hd (xs := ([0] : List Int)) (inner := [.int .i64 0]) (ok := fun _ => True) (okp := fun _ => True) ?hr ?hp (fun _ hk => hk) trivial (Below.refl _ _) (Nat.le_refl _) (by simp) ?_; (case hd => rfl); (case hg => rfl); (case hr => first | (go_simp; done) | (go_simp; rfl)); (case hp => exact (Reps.one (show Kd.M (Kd.int .i64) _ _ _ 0 [.int .i64 0] from rfl) (Reps.none _ _))); intro v357 w13 ho14 hb hg_ hnew_; clear hg_ hnew_; (first | rw [← Ny356.out] at ho14 | (simp only [Int.reduceToNat] at ho14; rw [← Ny356.out] at ho14)); have n0_ := Aside0.mk (Kd.R_below (by (with_reducible repeat (first | apply Kd.R_alloc | apply Kd.R_drewN | apply Kd.R_drew)); exact HO355.out) hb); have n1_ := Aside0.mk (Kd.R_lower ho14 (below_size (by repeat (first | (with_reducible first | exact HB.out | apply below_alloc | apply pw_below_drewN | apply below_drew1 | refine below_set ?_ GE352.out) | exact HB.out)))); have n2_ := Aside0.mk (blk_below (g := gb352) (o := .cells #[.string a0_0, .slice A0_1 l0_1.length c0_1, .string a0_2, .slice A0_3 l0_3.length c0_3, .slice A0_4 l0_4.length c0_4, .slice A0_5 l0_5.length c0_5] 26 (0, 0)) (by (with_reducible repeat (first | refine blk_drewN ?_ _ | refine blk_drew ?_ | refine blk_alloc ?_ _)); exact BK352.out) hb); have n3_ := Aside0.mk (below_step (by repeat (first | (with_reducible first | exact HB.out | apply below_alloc | apply pw_below_drewN | apply below_drew1 | refine below_set ?_ GE352.out) | exact HB.out)) hb); clear HO355; clear BK352; clear HB; have HO355 := n0_; have HO358 := n1_; have BK352 := n2_; have HB := n3_; clear n0_ n1_ n2_ n3_; clear hb ho14; have p8 : 0 ≤ (0 : Int) := (by omega); have q8 : (0 : Int) < ((y353.length : Int) : Int) := of_decide_eq_true (by first | (with_reducible assumption) | assumption); have qi8 : (0 < y353.length) = True := eq_true (by omega); obtain ⟨go8, co8, eo8, gb8, gl8, cl8, HG8⟩ := Kd.R_form HO355.out (by omega); (first | cases eo8 | (injection eo8 with ea_ en_ ec_; (first | subst ea_ | (injection ea_ with ea_; subst ea_)); subst ec_; clear en_)); have GB8 := Aside0.mk gb8; have GG8 := Aside0.mk HG8; clear gb8 gl8 HG8; obtain ⟨hx8_0, hf8_0⟩ := Kd.R_celln false HO355.out (0 : Int) p8 q8; (try rw [show ((0 : Int)).toNat = 0 from rfl] at hx8_0); (try simp only [Nat.reduceMul, Nat.zero_mul, Nat.zero_add, Nat.reduceAdd] at hx8_0); (try rw [show ((0 : Int)).toNat = 0 from rfl] at hf8_0); (try simp only [Nat.reduceMul, Nat.zero_mul, Nat.zero_add, Nat.reduceAdd] at hf8_0); replace p8 := eq_true p8; replace q8 := eq_true q8; obtain ⟨hy15_, hz15_⟩ := Kd.R_celln false HO355.out (0 : Int) (by omega) (of_decide_eq_true (by first | (with_reducible assumption) | assumption)); (try simp only [Int.reduceToNat, Int.toNat_zero, Int.toNat_ofNat, Nat.reduceMul, Nat.zero_mul, Nat.zero_add] at hy15_ hz15_); (try rw [show ((0 : Int)).toNat = 0 from rfl] at hy15_); (try rw [show ((0 : Int)).toNat = 0 from rfl] at hz15_); have HP15 := Kd.R_putg HO355.out (0 : Int) true) | ((with_reducible refine gate_store (t := 4) (p := 20) rfl ?_); refine store_event (t := 4) (p := 20) (v := ?vo_w16) (w1 := (w13.setCell ⟨go8, (0 : Int).toNat, none⟩ (.bool true))) ?hg ?ho ?hn ?hr ?_; (case ho => rfl); (case hg => rfl); (case hn => rfl); (case hr => first | (go_simp; done) | (go_simp; rfl)); intro w16 hw; have hg : w13.grownBy w16 (some go8) := (by rw [hw]; exact HP15.2); have hp_ : Kd.R Kd.bool 4 w16 w.heap.size (fun _ => True) (.slice (some ⟨go8, 0, none⟩) y353.length co8) y359 := (by rw [hw, Ny359.out]; exact HP15.1); clear HP15; have n0_ := Aside0.mk (blk_grown (g := gb352) (o := .cells #[.string a0_0, .slice A0_1 l0_1.length c0_1, .string a0_2, .slice A0_3 l0_3.length c0_3, .slice A0_4 l0_4.length c0_4, .slice A0_5 l0_5.length c0_5] 26 (0, 0)) (by (with_reducible repeat (first | refine blk_drewN ?_ _ | refine blk_drew ?_ | refine blk_alloc ?_ _)); exact BK352.out) hg (Kd.R_ne HO355.out BK352.out (by decide))); have n1_ := Aside0.mk (hp_); have n2_ := Aside0.mk (Kd.R_over' (v := (.slice (some ⟨go8, 0, none⟩) y353.length co8)) (by (with_reducible repeat (first | apply Kd.R_alloc | apply Kd.R_drewN | apply Kd.R_drew)); exact HO358.out) (Kd.R_typed HO355.out) (by decide) hg); have n3_ := Aside0.mk ((by rw [hw]; exact below_set (HB.out) GB8.out : Below w.heap.size w w16)); clear BK352; clear HO355; clear HO358; clear HB; have BK352 := n0_; have HO355 := n1_; have HO358 := n2_; have HB := n3_; clear n0_ n1_ n2_ n3_; clear hg hw hp_) | ((with_reducible refine gate_dst (N := 21) rfl ?_); refine Kd.R_lit (Kd.int .i64) _ 3 ?hg (N := 21) ?hd (xs := ([] : List Int)) (inner := []) (ok := fun _ => True) (okp := fun _ => True) ?hr ?hp (fun _ hk => hk) trivial (Below.refl _ _) (Nat.le_refl _) (by simp) ?_; (case hd => rfl); (case hg => rfl); (case hr => first | (go_simp; done) | (go_simp; rfl)); (case hp => exact (Reps.none _ _)); intro v361 w17 ho18 hb hg_ hnew_; clear hg_ hnew_; (first | rw [← Ny360.out] at ho18 | (simp only [Int.reduceToNat] at ho18; rw [← Ny360.out] at ho18)); have n0_ := Aside0.mk (Kd.R_below (by (with_reducible repeat (first | apply Kd.R_alloc | apply Kd.R_drewN | apply Kd.R_drew)); exact HO355.out) hb); have n1_ := Aside0.mk (Kd.R_elder' (by (with_reducible repeat (first | apply Kd.R_alloc | apply Kd.R_drewN | apply Kd.R_drew)); exact HO358.out) (Kd.R_base ho18) hb); have n2_ := Aside0.mk (Kd.R_lower (Kd.R_new' ho18 (Kd.R_lt (by (with_reducible repeat (first | apply Kd.R_alloc | apply Kd.R_drewN | apply Kd.R_drew)); exact HO358.out))) (below_size (by repeat (first | (with_reducible first | exact HB.out | apply below_alloc | apply pw_below_drewN | apply below_drew1 | refine below_set ?_ GE352.out) | exact HB.out)))); have n3_ := Aside0.mk (blk_below (g := gb352) (o := .cells #[.string a0_0, .slice A0_1 l0_1.length c0_1, .string a0_2, .slice A0_3 l0_3.length c0_3, .slice A0_4 l0_4.length c0_4, .slice A0_5 l0_5.length c0_5] 26 (0, 0)) (by (with_reducible repeat (first | refine blk_drewN ?_ _ | refine blk_drew ?_ | refine blk_alloc ?_ _)); exact BK352.out) hb); have n4_ := Aside0.mk (below_step (by repeat (first | (with_reducible first | exact HB.out | apply below_alloc | apply pw_below_drewN | apply below_drew1 | refine below_set ?_ GE352.out) | exact HB.out)) hb); clear HO355; clear HO358; clear BK352; clear HB; have HO355 := n0_; have HO358 := n1_; have HO362 := n2_; have BK352 := n3_; have HB := n4_; clear n0_ n1_ n2_ n3_ n4_; clear hb ho18))
     go_loopg [4, 5] k (fun kq v4 v5 w' => ∃ (x3_1 : List Bool) (x4_1 : List Int) (x5_1 : List Int), Aside0 (truantref09_Order.l0 kq x3_1 x4_1 x5_1 a0_0 l0_1 a0_2 l0_3 l0_4 l0_5 = some r) ∧ Aside0 (kq ≤ k) ∧ Aside0 (Kd.R Kd.bool 4 w' w.heap.size (fun _ => True) (.slice (some ⟨go8, 0, none⟩) y353.length co8) x3_1) ∧ Aside0 (Kd.R (Kd.int .i64) 3 w' w.heap.size (fun k_ => some k_ ≠ (v5 : Value).ownBlock) v4 x4_1) ∧ Aside0 (Kd.R (Kd.int .i64) 3 w' w.heap.size (fun k_ => some k_ ≠ (v4 : Value).ownBlock) v5 x5_1) ∧ Aside0 (w'.heap[gb352]? = some (.cells #[.string a0_0, (.slice A0_1 l0_1.length c0_1), .string a0_2, (.slice A0_3 l0_3.length c0_3), (.slice A0_4 l0_4.length c0_4), (.slice A0_5 l0_5.length c0_5)] 26 (0, 0))) ∧ Aside0 (Below w.heap.size w w'))
     case atStart => exact ⟨(y359), (y356), (y360), H', ⟨Nat.le_refl _⟩, ⟨by (with_reducible repeat (first | apply Kd.R_alloc | apply Kd.R_drewN | apply Kd.R_drew)); exact HO355.out⟩, ⟨by (with_reducible repeat (first | apply Kd.R_alloc | apply Kd.R_drewN | apply Kd.R_drew)); exact Kd.R_mono HO358.out (fun _ hk => hk.2)⟩, ⟨by (with_reducible repeat (first | apply Kd.R_alloc | apply Kd.R_drewN | apply Kd.R_drew)); exact Kd.R_mono HO362.out (fun _ hk => hk.2)⟩, ⟨by (with_reducible repeat (first | refine blk_drewN ?_ _ | refine blk_drew ?_ | refine blk_alloc ?_ _)); exact BK352.out⟩, ⟨by repeat (first | (with_reducible first | exact HB.out | apply below_alloc | apply pw_below_drewN | apply below_drew1 | refine below_set ?_ GE352.out) | exact HB.out)⟩⟩
     case round =>
      clear H'
      try clear c2
      try clear c2b0
      try clear c2b1
      try clear c2b2
      try clear p2
      try clear c5
      try clear c5b0
      try clear c5b1
      try clear c6
      try clear c6b0
      try clear c6b1
      try clear c7
      try clear c7b0
      try clear c7b1
      try clear p8
      try clear q8
      try clear hx8
      try clear qi8
      try clear hf8
      try clear hcz10_0
      try clear hcz10_1
      try clear hcz10_2
      try clear hcz10_3
      try clear hcz10_4
      try clear hcz10_5
      try clear hcz4_0
      try clear hcz4_1
      try clear hcz4_2
      try clear hcz4_3
      try clear hcz4_4
      try clear hcz4_5
      try clear hfz10_0
      try clear hfz10_1
      try clear hfz10_2
      try clear hfz10_3
      try clear hfz10_4
      try clear hfz10_5
      try clear hfz4_0
      try clear hfz4_1
      try clear hfz4_2
      try clear hfz4_3
      try clear hfz4_4
      try clear hfz4_5
      try clear hx8_0
      try clear p8
      try clear q8
      obtain ⟨x3_1, x4_1, x5_1, HA, HK1, HO_3, HO_4, HO_5, BK352, HB⟩ := hrel
      have hl3_1 := (Kd.R_reads' HO_3.out).1
      rw [hl3_1] at HO_3
      (try simp only [hl3_1])
      (try simp only [hl3_1] at BK352)
      (try simp only [hl3_1] at HO_4)
      (try simp only [hl3_1] at HO_5)
      cases gk with
      | zero => exact absurd HA.out (by simp [truantref09_Order.l0])
      | succ k1 =>
       have H := HA.out
       clear HA
       simp only [truantref09_Order.l0] at H
       by_cases c19 : (x4_1.length : Int) > 0
       ·rw [if_pos c19] at H
        have c19b0 : decide (0 < (x4_1.length : Int)) = true := decide_eq_true c19
        have c19b1 : decide (0 < x4_1.length) = true := decide_eq_true (by omega)
        clear c19
        obtain ⟨ji20, hji20⟩ : ∃ j_ : Int, (wrap64 ((x4_1.length : Int) - 1)) = j_ := ⟨_, rfl⟩
        replace H : (if 0 ≤ (ji20) then (if (ji20) < (x4_1.length : Int) then ((truantref09_Next.f k1 a0_0 l0_1 a0_2 l0_3 l0_4 l0_5 (rd x4_1 (ji20))).bind fun t364 => (truantref09_Order.l1 k1 x3_1 x4_1 x5_1 (rd x4_1 (ji20)) t364 (-1) (wrap64 ((t364.length : Int) - 1)) a0_0 l0_1 a0_2 l0_3 l0_4 l0_5)) else (none)) else (none)) = some r := by first | (rw [hji20] at H; exact H) | (simp only [hji20] at H ⊢; exact H)
        have hji20w : (IntKind.i64.wrap ((x4_1.length : Int) - 1)) = ji20 := (i64_w _).trans hji20
        by_cases c21 : 0 ≤ (ji20)
        ·rw [if_pos c21] at H
         have c21b0 : decide (0 ≤ (ji20)) = true := decide_eq_true c21
         clear c21
         by_cases c22 : (ji20) < (x4_1.length : Int)
         ·rw [if_pos c22] at H
          have c22b0 : decide ((ji20) < (x4_1.length : Int)) = true := decide_eq_true c22
          clear c22
          replace H := Option.bind_eq_some_iff.mp H
          obtain ⟨t364, A230, H⟩ := H
          replace H : (truantref09_Order.l1 k1 x3_1 x4_1 x5_1 (rd x4_1 (ji20)) t364 (-1) (wrap64 ((t364.length : Int) - 1)) a0_0 l0_1 a0_2 l0_3 l0_4 l0_5) = some r := H
          have A23 := Aside0.mk A230
          clear A230
          have H' := Aside0.mk H
          clear H
          obtain ⟨Ao24, co24, eo24⟩ := Kd.R_slice HO_4.out
          subst eo24
          have p363 : 0 ≤ ((ji20) : Int) := of_decide_eq_true (by first | (with_reducible assumption) | assumption)
          have q363 : (ji20) < (x4_1.length : Int) := of_decide_eq_true (by first | (with_reducible assumption) | assumption)
          obtain ⟨ad363, e363, hx363_0⟩ := Kd.at_int (Kd.R_reads' HO_4.out).2.2 (ji20) p363 q363
          cases e363
          replace p363 := eq_true p363
          replace q363 := eq_true q363
          have hcz25_0 : wr.cell? ⟨gb352, 0, none⟩ = some (.string a0_0) := (blk_cell BK352.out 0).trans rfl
          have hcz25_1 : wr.cell? ⟨gb352, 1, none⟩ = some (.slice A0_1 l0_1.length c0_1) := (blk_cell BK352.out 1).trans rfl
          have hcz25_2 : wr.cell? ⟨gb352, 2, none⟩ = some (.string a0_2) := (blk_cell BK352.out 2).trans rfl
          have hcz25_3 : wr.cell? ⟨gb352, 3, none⟩ = some (.slice A0_3 l0_3.length c0_3) := (blk_cell BK352.out 3).trans rfl
          have hcz25_4 : wr.cell? ⟨gb352, 4, none⟩ = some (.slice A0_4 l0_4.length c0_4) := (blk_cell BK352.out 4).trans rfl
          have hcz25_5 : wr.cell? ⟨gb352, 5, none⟩ = some (.slice A0_5 l0_5.length c0_5) := (blk_cell BK352.out 5).trans rfl
          have hfz25_0 := blk_frozen BK352.out 0
          have hfz25_1 := blk_frozen BK352.out 1
          have hfz25_2 := blk_frozen BK352.out 2
          have hfz25_3 := blk_frozen BK352.out 3
          have hfz25_4 := blk_frozen BK352.out 4
          have hfz25_5 := blk_frozen BK352.out 5
          go_wp2_with (first | ((with_reducible refine gate_callee (f := 21) rfl ?_); refine goesL_ (some 33) rfl rfl Try.func21 (by kernel_rfl) rfl #[.agg #[.string a0_0, .slice A0_1 l0_1.length c0_1, .string a0_2, .slice A0_3 l0_3.length c0_3, .slice A0_4 l0_4.length c0_4, .slice A0_5 l0_5.length c0_5], .int .i64 (rd x4_1 (ji20))] rfl (by (try simp only [List.map_toArray, List.map_cons, List.map_nil]); first | done | (simp only [hji20]; rfl) | rfl | (simp only [List.length_drop, List.length_take]; rfl)) ?_; (with_reducible refine (truantref09_Next.calls k1 a0_0 _ _ l0_1 a0_2 _ _ l0_3 _ _ l0_4 _ _ l0_5 (rd x4_1 (ji20)) t364 _ ?side1 ?side2 ?side3 ?side4 ?side5 ?side6 ?side7 ?side8 A23.out).mono ?_); (case side1 => repeat (first | exact (Kd.C_below HR0_1.out HB.out) | (with_reducible refine Kd.C_alloc ?_ _) | (with_reducible refine Kd.C_drewN ?_ _) | (with_reducible refine Kd.C_drew ?_))); (case side2 => exact HC0_1.out); (case side3 => repeat (first | exact (Kd.C_below HR0_3.out HB.out) | (with_reducible refine Kd.C_alloc ?_ _) | (with_reducible refine Kd.C_drewN ?_ _) | (with_reducible refine Kd.C_drew ?_))); (case side4 => exact HC0_3.out); (case side5 => repeat (first | exact (Kd.C_below HR0_4.out HB.out) | (with_reducible refine Kd.C_alloc ?_ _) | (with_reducible refine Kd.C_drewN ?_ _) | (with_reducible refine Kd.C_drew ?_))); (case side6 => exact HC0_4.out); (case side7 => repeat (first | exact (Kd.C_below HR0_5.out HB.out) | (with_reducible refine Kd.C_alloc ?_ _) | (with_reducible refine Kd.C_drewN ?_ _) | (with_reducible refine Kd.C_drew ?_))); (case side8 => exact HC0_5.out); rintro e w26 ⟨v365, rfl, ho0, hb⟩; refine ⟨_, rfl, ?_⟩; have n0_ := Aside0.mk (Kd.R_below (by (with_reducible repeat (first | apply Kd.R_alloc | apply Kd.R_drewN | apply Kd.R_drew)); exact HO_3.out) hb); have n1_ := Aside0.mk (Kd.R_elder' (by (with_reducible repeat (first | apply Kd.R_alloc | apply Kd.R_drewN | apply Kd.R_drew)); exact HO_4.out) (Kd.R_base ho0) hb); have n2_ := Aside0.mk (Kd.R_elder' (by (with_reducible repeat (first | apply Kd.R_alloc | apply Kd.R_drewN | apply Kd.R_drew)); exact HO_5.out) (Kd.R_base ho0) hb); have n3_ := Aside0.mk (Kd.R_lower (Kd.R_new' (Kd.R_new' ho0 (Kd.R_lt (by (with_reducible repeat (first | apply Kd.R_alloc | apply Kd.R_drewN | apply Kd.R_drew)); exact HO_4.out))) (Kd.R_lt (by (with_reducible repeat (first | apply Kd.R_alloc | apply Kd.R_drewN | apply Kd.R_drew)); exact HO_5.out))) (below_size (by repeat (first | (with_reducible first | exact HB.out | apply below_alloc | apply pw_below_drewN | apply below_drew1 | refine below_set ?_ GE352.out) | exact HB.out)))); have n4_ := Aside0.mk (blk_below (g := gb352) (o := .cells #[.string a0_0, .slice A0_1 l0_1.length c0_1, .string a0_2, .slice A0_3 l0_3.length c0_3, .slice A0_4 l0_4.length c0_4, .slice A0_5 l0_5.length c0_5] 26 (0, 0)) (by (with_reducible repeat (first | refine blk_drewN ?_ _ | refine blk_drew ?_ | refine blk_alloc ?_ _)); exact BK352.out) hb); have n5_ := Aside0.mk (below_step (by repeat (first | (with_reducible first | exact HB.out | apply below_alloc | apply pw_below_drewN | apply below_drew1 | refine below_set ?_ GE352.out) | exact HB.out)) hb); clear HO_3; clear HO_4; clear HO_5; clear BK352; clear HB; have HO_3 := n0_; have HO_4 := n1_; have HO_5 := n2_; have HO366 := n3_; have BK352 := n4_; have HB := n5_; clear n0_ n1_ n2_ n3_ n4_ n5_; (try clear hb); (try clear hb2); (try clear hk); (try clear hi); (try clear ho0); obtain ⟨Ao27, co27, eo27⟩ := Kd.R_slice HO366.out; subst eo27))
          go_loopg [8, 9] k1 (fun kq v8 v9 w' => ∃ (x8_2 : Int) (x9_2 : Int), v8 = .int .i64 x8_2 ∧ v9 = .int .i64 x9_2 ∧ Aside0 (truantref09_Order.l1 kq x3_1 x4_1 x5_1 (rd x4_1 (ji20)) t364 x8_2 x9_2 a0_0 l0_1 a0_2 l0_3 l0_4 l0_5 = some r) ∧ Aside0 (kq ≤ k1) ∧ Aside0 (Kd.R Kd.bool 4 w' w.heap.size (fun _ => True) (.slice (some ⟨go8, 0, none⟩) x3_1.length co8) x3_1) ∧ Aside0 (Kd.R (Kd.int .i64) 3 w' w.heap.size (fun k_ => some k_ ≠ (u5 : Value).ownBlock ∧ some k_ ≠ ((.slice Ao27 t364.length co27) : Value).ownBlock) (.slice (some ad363) x4_1.length co24) x4_1) ∧ Aside0 (Kd.R (Kd.int .i64) 3 w' w.heap.size (fun k_ => some k_ ≠ ((.slice (some ad363) x4_1.length co24) : Value).ownBlock ∧ some k_ ≠ ((.slice Ao27 t364.length co27) : Value).ownBlock) u5 x5_1) ∧ Aside0 (Kd.R (Kd.int .i64) 3 w' w.heap.size (fun k_ => some k_ ≠ ((.slice (some ad363) x4_1.length co24) : Value).ownBlock ∧ some k_ ≠ (u5 : Value).ownBlock) (.slice Ao27 t364.length co27) t364) ∧ Aside0 (w'.heap[gb352]? = some (.cells #[.string a0_0, (.slice A0_1 l0_1.length c0_1), .string a0_2, (.slice A0_3 l0_3.length c0_3), (.slice A0_4 l0_4.length c0_4), (.slice A0_5 l0_5.length c0_5)] 26 (0, 0))) ∧ Aside0 (Below w.heap.size w w'))
          case atStart => exact ⟨((-1)), (wrap64 ((t364.length : Int) - 1)), (by first | rfl | (simp; done) | (simp [*]; done)), (by first | rfl | (simp; done) | (simp [*]; done)), H', ⟨Nat.le_refl _⟩, ⟨by (try simp only [hl3_1]); (with_reducible repeat (first | apply Kd.R_alloc | apply Kd.R_drewN | apply Kd.R_drew)); exact HO_3.out⟩, ⟨by (try simp only [hl3_1]); (with_reducible repeat (first | apply Kd.R_alloc | apply Kd.R_drewN | apply Kd.R_drew)); exact HO_4.out⟩, ⟨by (try simp only [hl3_1]); (with_reducible repeat (first | apply Kd.R_alloc | apply Kd.R_drewN | apply Kd.R_drew)); exact HO_5.out⟩, ⟨by (try simp only [hl3_1]); (with_reducible repeat (first | apply Kd.R_alloc | apply Kd.R_drewN | apply Kd.R_drew)); exact Kd.R_mono HO366.out (fun _ hk => ⟨hk.1.2, hk.2⟩)⟩, ⟨by (try simp only [hl3_1]); (with_reducible repeat (first | refine blk_drewN ?_ _ | refine blk_drew ?_ | refine blk_alloc ?_ _)); exact BK352.out⟩, ⟨by repeat (first | (with_reducible first | exact HB.out | apply below_alloc | apply pw_below_drewN | apply below_drew1 | refine below_set ?_ GE352.out) | exact HB.out)⟩⟩
          case round =>
           clear H'
           try clear c1
           try clear c2
           try clear c2b0
           try clear c2b1
           try clear c2b2
           try clear p2
           try clear p3
           try clear q3
           try clear hx3
           try clear c5
           try clear c5b0
           try clear c5b1
           try clear c6
           try clear c6b0
           try clear c6b1
           try clear p6
           try clear c7
           try clear c7b0
           try clear c7b1
           try clear p8
           try clear q8
           try clear hx8
           try clear qi8
           try clear hf8
           try clear c19
           try clear c19b0
           try clear c19b1
           try clear c21
           try clear c21b0
           try clear c22
           try clear c22b0
           try clear c23
           try clear hcz10_0
           try clear hcz10_1
           try clear hcz10_2
           try clear hcz10_3
           try clear hcz10_4
           try clear hcz10_5
           try clear hcz25_0
           try clear hcz25_1
           try clear hcz25_2
           try clear hcz25_3
           try clear hcz25_4
           try clear hcz25_5
           try clear hcz4_0
           try clear hcz4_1
           try clear hcz4_2
           try clear hcz4_3
           try clear hcz4_4
           try clear hcz4_5
           try clear hfz10_0
           try clear hfz10_1
           try clear hfz10_2
           try clear hfz10_3
           try clear hfz10_4
           try clear hfz10_5
           try clear hfz25_0
           try clear hfz25_1
           try clear hfz25_2
           try clear hfz25_3
           try clear hfz25_4
           try clear hfz25_5
           try clear hfz4_0
           try clear hfz4_1
           try clear hfz4_2
           try clear hfz4_3
           try clear hfz4_4
           try clear hfz4_5
           try clear hx363_0
           try clear hx8_0
           try clear p2
           try clear p363
           try clear p8
           try clear q363
           try clear q8
           obtain ⟨x8_2, x9_2, rfl, rfl, HA, HK2, HO_3, HO_4, HO_5, HO_7, BK352, HB⟩ := hrel
           cases gk with
           | zero => exact absurd HA.out (by simp [truantref09_Order.l1])
           | succ k2 =>
            have H := HA.out
            clear HA
            simp only [truantref09_Order.l1] at H
            by_cases c28 : x9_2 ≥ 0
            ·rw [if_pos c28] at H
             have c28b0 : decide (0 ≤ x9_2) = true := decide_eq_true c28
             clear c28
             by_cases c29 : 0 ≤ x9_2
             ·rw [if_pos c29] at H
              have c29b0 : decide (0 ≤ x9_2) = true := decide_eq_true c29
              clear c29
              by_cases c30 : x9_2 < (t364.length : Int)
              ·rw [if_pos c30] at H
               have c30b0 : decide (x9_2 < (t364.length : Int)) = true := decide_eq_true c30
               clear c30
               by_cases c31 : 0 ≤ (rd t364 x9_2)
               ·rw [if_pos c31] at H
                have c31b0 : decide (0 ≤ (rd t364 x9_2)) = true := decide_eq_true c31
                clear c31
                by_cases c32 : (rd t364 x9_2) < (x3_1.length : Int)
                ·rw [if_pos c32] at H
                 have c32b0 : decide ((rd t364 x9_2) < (x3_1.length : Int)) = true := decide_eq_true c32
                 clear c32
                 obtain ⟨bq33, hbq33⟩ : ∃ b_ : Bool, b_ = (rdOf false x3_1 (rd t364 x9_2)) := ⟨_, rfl⟩
                 replace H : (if (bq33 = true) then (truantref09_Order.l1 k2 x3_1 x4_1 x5_1 (rd x4_1 (ji20)) t364 x8_2 (wrap64 (x9_2 - 1)) a0_0 l0_1 a0_2 l0_3 l0_4 l0_5) else (truantref09_Order.l1 k2 x3_1 x4_1 x5_1 (rd x4_1 (ji20)) t364 (rd t364 x9_2) (wrap64 (x9_2 - 1)) a0_0 l0_1 a0_2 l0_3 l0_4 l0_5)) = some r := by rw [← hbq33] at H; exact H
                 have Nbq33 := Aside0.mk hbq33
                 clear hbq33
                 by_cases c34 : (bq33 = true)
                 ·subst c34
                  have H1 : (truantref09_Order.l1 k2 x3_1 x4_1 x5_1 (rd x4_1 (ji20)) t364 x8_2 (wrap64 (x9_2 - 1)) a0_0 l0_1 a0_2 l0_3 l0_4 l0_5) = some r := by rw [if_pos rfl] at H; exact H
                  clear H
                  have H := H1
                  clear H1
                  have H' := Aside0.mk H
                  clear H
                  have p367 : 0 ≤ (x9_2 : Int) := of_decide_eq_true (by first | (with_reducible assumption) | assumption)
                  have q367 : x9_2 < (t364.length : Int) := of_decide_eq_true (by first | (with_reducible assumption) | assumption)
                  obtain ⟨ad367, e367, hx367_0⟩ := Kd.at_int (Kd.R_reads' HO_7.out).2.2 x9_2 p367 q367
                  cases e367
                  replace p367 := eq_true p367
                  replace q367 := eq_true q367
                  have p368 : 0 ≤ ((rd t364 x9_2) : Int) := of_decide_eq_true (by first | (with_reducible assumption) | assumption)
                  have q368 : (rd t364 x9_2) < (x3_1.length : Int) := of_decide_eq_true (by first | (with_reducible assumption) | assumption)
                  obtain ⟨ad368, e368, hx368_0⟩ := Kd.at_bool (Kd.R_reads' HO_3.out).2.2 (rd t364 x9_2) p368 q368
                  (try rw [← Nbq33.out] at hx368_0)
                  obtain rfl : (⟨go8, 0, none⟩ : Addr) = ad368 := (by injection e368)
                  (first | simp only [add_plain] at hx368_0 | simp only [add_at] at hx368_0 | simp only [Addr.add, Nat.zero_add] at hx368_0 | skip)
                  replace p368 := eq_true p368
                  replace q368 := eq_true q368
                  go_wp2
                  go_roundg k2
                  case measure => have := HK1.out; have := HK2.out; omega
                  case rel => exact ⟨(x8_2), (wrap64 (x9_2 - 1)), (by first | rfl | (simp; done) | (simp [*]; done)), (by first | rfl | (simp; done) | (simp [*]; done)), H', ⟨by have := HK1.out; have := HK2.out; omega⟩, ⟨by (try simp only [hl3_1]); (with_reducible repeat (first | apply Kd.R_alloc | apply Kd.R_drewN | apply Kd.R_drew)); exact HO_3.out⟩, ⟨by (try simp only [hl3_1]); (with_reducible repeat (first | apply Kd.R_alloc | apply Kd.R_drewN | apply Kd.R_drew)); exact HO_4.out⟩, ⟨by (try simp only [hl3_1]); (with_reducible repeat (first | apply Kd.R_alloc | apply Kd.R_drewN | apply Kd.R_drew)); exact HO_5.out⟩, ⟨by (try simp only [hl3_1]); (with_reducible repeat (first | apply Kd.R_alloc | apply Kd.R_drewN | apply Kd.R_drew)); exact HO_7.out⟩, ⟨by (try simp only [hl3_1]); (with_reducible repeat (first | refine blk_drewN ?_ _ | refine blk_drew ?_ | refine blk_alloc ?_ _)); exact BK352.out⟩, ⟨by repeat (first | (with_reducible first | exact HB.out | apply below_alloc | apply pw_below_drewN | apply below_drew1 | refine below_set ?_ GE352.out) | exact HB.out)⟩⟩
                 ·replace c34 := Bool.eq_false_iff.mpr c34
                  subst c34
                  have H1 : (truantref09_Order.l1 k2 x3_1 x4_1 x5_1 (rd x4_1 (ji20)) t364 (rd t364 x9_2) (wrap64 (x9_2 - 1)) a0_0 l0_1 a0_2 l0_3 l0_4 l0_5) = some r := by rw [if_neg (show ¬ (false = true) by decide)] at H; exact H
                  clear H
                  have H := H1
                  clear H1
                  have H' := Aside0.mk H
                  clear H
                  have p367 : 0 ≤ (x9_2 : Int) := of_decide_eq_true (by first | (with_reducible assumption) | assumption)
                  have q367 : x9_2 < (t364.length : Int) := of_decide_eq_true (by first | (with_reducible assumption) | assumption)
                  obtain ⟨ad367, e367, hx367_0⟩ := Kd.at_int (Kd.R_reads' HO_7.out).2.2 x9_2 p367 q367
                  cases e367
                  replace p367 := eq_true p367
                  replace q367 := eq_true q367
                  have p368 : 0 ≤ ((rd t364 x9_2) : Int) := of_decide_eq_true (by first | (with_reducible assumption) | assumption)
                  have q368 : (rd t364 x9_2) < (x3_1.length : Int) := of_decide_eq_true (by first | (with_reducible assumption) | assumption)
                  obtain ⟨ad368, e368, hx368_0⟩ := Kd.at_bool (Kd.R_reads' HO_3.out).2.2 (rd t364 x9_2) p368 q368
                  (try rw [← Nbq33.out] at hx368_0)
                  obtain rfl : (⟨go8, 0, none⟩ : Addr) = ad368 := (by injection e368)
                  (first | simp only [add_plain] at hx368_0 | simp only [add_at] at hx368_0 | simp only [Addr.add, Nat.zero_add] at hx368_0 | skip)
                  replace p368 := eq_true p368
                  replace q368 := eq_true q368
                  have p369 : 0 ≤ (x9_2 : Int) := of_decide_eq_true (by first | (with_reducible assumption) | assumption)
                  have q369 : x9_2 < (t364.length : Int) := of_decide_eq_true (by first | (with_reducible assumption) | assumption)
                  obtain ⟨ad369, e369, hx369_0⟩ := Kd.at_int (Kd.R_reads' HO_7.out).2.2 x9_2 p369 q369
                  obtain rfl : ad367 = ad369 := (by injection e369)
                  replace p369 := eq_true p369
                  replace q369 := eq_true q369
                  go_wp2
                  go_roundg k2
                  case measure => have := HK1.out; have := HK2.out; omega
                  case rel => exact ⟨(rd t364 x9_2), (wrap64 (x9_2 - 1)), (by first | rfl | (simp; done) | (simp [*]; done)), (by first | rfl | (simp; done) | (simp [*]; done)), H', ⟨by have := HK1.out; have := HK2.out; omega⟩, ⟨by (try simp only [hl3_1]); (with_reducible repeat (first | apply Kd.R_alloc | apply Kd.R_drewN | apply Kd.R_drew)); exact HO_3.out⟩, ⟨by (try simp only [hl3_1]); (with_reducible repeat (first | apply Kd.R_alloc | apply Kd.R_drewN | apply Kd.R_drew)); exact HO_4.out⟩, ⟨by (try simp only [hl3_1]); (with_reducible repeat (first | apply Kd.R_alloc | apply Kd.R_drewN | apply Kd.R_drew)); exact HO_5.out⟩, ⟨by (try simp only [hl3_1]); (with_reducible repeat (first | apply Kd.R_alloc | apply Kd.R_drewN | apply Kd.R_drew)); exact HO_7.out⟩, ⟨by (try simp only [hl3_1]); (with_reducible repeat (first | refine blk_drewN ?_ _ | refine blk_drew ?_ | refine blk_alloc ?_ _)); exact BK352.out⟩, ⟨by repeat (first | (with_reducible first | exact HB.out | apply below_alloc | apply pw_below_drewN | apply below_drew1 | refine below_set ?_ GE352.out) | exact HB.out)⟩⟩
                ·rw [if_neg c32] at H
                 exact absurd H (by simp)
               ·rw [if_neg c31] at H
                exact absurd H (by simp)
              ·rw [if_neg c30] at H
               exact absurd H (by simp)
             ·rw [if_neg c29] at H
              exact absurd H (by simp)
            ·rw [if_neg c28] at H
             have c28b0 : decide (0 ≤ x9_2) = false := decide_eq_false c28
             clear c28
             by_cases c35 : x8_2 ≥ 0
             ·rw [if_pos c35] at H
              have c35b0 : decide (0 ≤ x8_2) = true := decide_eq_true c35
              clear c35
              by_cases c36 : 0 ≤ x8_2
              ·rw [if_pos c36] at H
               have c36b0 : decide (0 ≤ x8_2) = true := decide_eq_true c36
               clear c36
               by_cases c37 : x8_2 < (x3_1.length : Int)
               ·rw [if_pos c37] at H
                have c37b0 : decide (x8_2 < (x3_1.length : Int)) = true := decide_eq_true c37
                clear c37
                obtain ⟨y370, hy370⟩ : ∃ y_ : List Bool, y_ = (x3_1.set (x8_2 : Int).toNat true) := ⟨_, rfl⟩
                replace H : (if x4_1.length < 17592186044416 then (truantref09_Order.l0 k2 y370 (x4_1 ++ [x8_2]) x5_1 a0_0 l0_1 a0_2 l0_3 l0_4 l0_5) else (none)) = some r := by first | (rw [hy370]; with_reducible exact H) | (have H2_ := (Option.bind_some _ _).symm.trans H; rw [hy370]; with_reducible exact H2_) | (have H2_ := (Option.bind_some _ _).symm.trans H; with_reducible exact H2_) | with_reducible exact H | (rw [hy370]; exact H) | exact H
                have Ny370 := Aside0.mk hy370
                clear hy370
                by_cases c39 : x4_1.length < 17592186044416
                ·rw [if_pos c39] at H
                 have LMc39 := Aside0.mk c39
                 clear c39
                 obtain ⟨y371, hy371⟩ : ∃ y_ : List Int, y_ = (x4_1 ++ [x8_2]) := ⟨_, rfl⟩
                 replace H : (truantref09_Order.l0 k2 y370 y371 x5_1 a0_0 l0_1 a0_2 l0_3 l0_4 l0_5) = some r := by first | (rw [hy371]; with_reducible exact H) | (have H2_ := (Option.bind_some _ _).symm.trans H; rw [hy371]; with_reducible exact H2_) | (have H2_ := (Option.bind_some _ _).symm.trans H; with_reducible exact H2_) | with_reducible exact H | (rw [hy371]; exact H) | exact H
                 have Ny371 := Aside0.mk hy371
                 clear hy371
                 have H' := Aside0.mk H
                 clear H
                 have p38 : 0 ≤ (x8_2 : Int) := of_decide_eq_true (by first | (with_reducible assumption) | assumption)
                 have q38 : (x8_2 : Int) < ((x3_1.length : Int) : Int) := of_decide_eq_true (by first | (with_reducible assumption) | assumption)
                 obtain ⟨hx38_0, hf38_0⟩ := Kd.R_celln false HO_3.out (x8_2 : Int) p38 q38
                 replace p38 := eq_true p38
                 replace q38 := eq_true q38
                 have HP40 := Kd.R_putg HO_3.out (x8_2 : Int) true
                 go_wp2_with (first | ((with_reducible refine gate_store (t := 4) (p := 57) rfl ?_); refine store_event (t := 4) (p := 57) (v := ?vo_w41) (w1 := (wr.setCell ⟨go8, (x8_2 : Int).toNat, none⟩ (.bool true))) ?hg ?ho ?hn ?hr ?_; (case ho => rfl); (case hg => rfl); (case hn => rfl); (case hr => first | (go_simp; done) | (go_simp; rfl)); intro w41 hw; have hg : wr.grownBy w41 (some go8) := (by rw [hw]; exact HP40.2); have hp_ : Kd.R Kd.bool 4 w41 w.heap.size (fun _ => True) (.slice (some ⟨go8, 0, none⟩) x3_1.length co8) y370 := (by rw [hw, Ny370.out]; exact HP40.1); clear HP40; have n0_ := Aside0.mk (hp_); have n1_ := Aside0.mk (Kd.R_over' (v := (.slice (some ⟨go8, 0, none⟩) x3_1.length co8)) (by (with_reducible repeat (first | apply Kd.R_alloc | apply Kd.R_drewN | apply Kd.R_drew)); exact HO_4.out) (Kd.R_typed HO_3.out) (by decide) hg); have n2_ := Aside0.mk (Kd.R_over' (v := (.slice (some ⟨go8, 0, none⟩) x3_1.length co8)) (by (with_reducible repeat (first | apply Kd.R_alloc | apply Kd.R_drewN | apply Kd.R_drew)); exact HO_5.out) (Kd.R_typed HO_3.out) (by decide) hg); have n3_ := Aside0.mk (Kd.R_over' (v := (.slice (some ⟨go8, 0, none⟩) x3_1.length co8)) (by (with_reducible repeat (first | apply Kd.R_alloc | apply Kd.R_drewN | apply Kd.R_drew)); exact HO_7.out) (Kd.R_typed HO_3.out) (by decide) hg); have n4_ := Aside0.mk (blk_grown (g := gb352) (o := .cells #[.string a0_0, .slice A0_1 l0_1.length c0_1, .string a0_2, .slice A0_3 l0_3.length c0_3, .slice A0_4 l0_4.length c0_4, .slice A0_5 l0_5.length c0_5] 26 (0, 0)) (by (with_reducible repeat (first | refine blk_drewN ?_ _ | refine blk_drew ?_ | refine blk_alloc ?_ _)); exact BK352.out) hg (Kd.R_ne HO_3.out BK352.out (by decide))); have n5_ := Aside0.mk ((by rw [hw]; exact below_set (HB.out) GB8.out : Below w.heap.size w w41)); clear HO_3; clear HO_4; clear HO_5; clear HO_7; clear BK352; clear HB; have HO_3 := n0_; have HO_4 := n1_; have HO_5 := n2_; have HO_7 := n3_; have BK352 := n4_; have HB := n5_; clear n0_ n1_ n2_ n3_ n4_ n5_; clear hg hw hp_) | ((with_reducible refine gate_builtin (b := .append) (xs := #[.tmp 58, .tmp 60]) rfl ?_); at_builtin; refine Kd.R_append (Kd.int .i64) (w0 := w) w.heap.size rfl (.tmp 58) (.tmp 60) 34 3 (.int .i64 0) 8 rfl Try.underlying34 info3 rfl (by decide) (by omega) (.slice (some ad363) x4_1.length co24) x4_1 x8_2 [.int .i64 x8_2] (fun k_ => some k_ ≠ (u5 : Value).ownBlock ∧ some k_ ≠ (.slice Ao27 t364.length co27 : Value).ownBlock) (fun _ => False) rfl rfl ?aP (fun _ hk => hk.elim) ?aF ?aO ?aB ?aS ?aL ?_; (case aP => exact rfl); (case aB => exact (by repeat (first | (with_reducible first | exact HB.out | apply below_alloc | apply pw_below_drewN | apply below_drew1 | refine below_set ?_ GE352.out) | exact HB.out))); (case aF => exact (fun k_ hk => ⟨Kd.fresh' (Kd.R_lt (by (with_reducible repeat (first | apply Kd.R_alloc | apply Kd.R_drewN | apply Kd.R_drew)); exact HO_5.out)) k_ hk, Kd.fresh' (Kd.R_lt (by (with_reducible repeat (first | apply Kd.R_alloc | apply Kd.R_drewN | apply Kd.R_drew)); exact HO_7.out)) k_ hk⟩)); (case aO => exact (by (with_reducible repeat (first | apply Kd.R_alloc | apply Kd.R_drewN | apply Kd.R_drew)); exact HO_4.out)); (case aS => exact (below_size (by repeat (first | (with_reducible first | exact HB.out | apply below_alloc | apply pw_below_drewN | apply below_drew1 | refine below_set ?_ GE352.out) | exact HB.out)))); (case aL => have := LMc39.out; omega); intro v372 w42 ho hb hg hat; rw [← Ny371.out] at ho; have n0_ := Aside0.mk (Kd.R_over' (by (with_reducible repeat (first | apply Kd.R_alloc | apply Kd.R_drewN | apply Kd.R_drew)); exact HO_3.out) (Kd.R_typed (by (with_reducible repeat (first | apply Kd.R_alloc | apply Kd.R_drewN | apply Kd.R_drew)); exact HO_4.out)) (by decide) hg); have n1_ := Aside0.mk (Kd.R_after (ok := (fun k_ => some k_ ≠ (.slice Ao27 t364.length co27 : Value).ownBlock)) (by (with_reducible repeat (first | apply Kd.R_alloc | apply Kd.R_drewN | apply Kd.R_drew)); exact Kd.R_mono HO_5.out (fun _ hk => ⟨hk.2, hk.1⟩)) hg hat); have n2_ := Aside0.mk (Kd.R_after (ok := (fun k_ => some k_ ≠ (u5 : Value).ownBlock)) (by (with_reducible repeat (first | apply Kd.R_alloc | apply Kd.R_drewN | apply Kd.R_drew)); exact Kd.R_mono HO_7.out (fun _ hk => ⟨hk.2, hk.1⟩)) hg hat); have n3_ := Aside0.mk (blk_grown (g := gb352) (o := .cells #[.string a0_0, .slice A0_1 l0_1.length c0_1, .string a0_2, .slice A0_3 l0_3.length c0_3, .slice A0_4 l0_4.length c0_4, .slice A0_5 l0_5.length c0_5] 26 (0, 0)) (by (with_reducible repeat (first | refine blk_drewN ?_ _ | refine blk_drew ?_ | refine blk_alloc ?_ _)); exact BK352.out) hg (Kd.R_ne HO_4.out BK352.out (by decide))); have n4_ := Aside0.mk (hb); have n5_ := Aside0.mk (ho); clear HO_3; clear HO_5; clear HO_7; clear BK352; clear HB; clear HO_4; have HO_3 := n0_; have HO_5 := n1_; have HO_7 := n2_; have BK352 := n3_; have HB := n4_; have HO373 := n5_; clear n0_ n1_ n2_ n3_ n4_ n5_; clear ho hb hg hat))
                 (try simp only [← hl3_1])
                 go_roundg k2
                 case measure => have := HK1.out; have := HK2.out; omega
                 case rel => exact ⟨(y370), (y371), (x5_1), H', ⟨by have := HK1.out; have := HK2.out; omega⟩, ⟨by (try simp only [hl3_1]); (with_reducible repeat (first | apply Kd.R_alloc | apply Kd.R_drewN | apply Kd.R_drew)); exact HO_3.out⟩, ⟨by (try simp only [hl3_1]); (with_reducible repeat (first | apply Kd.R_alloc | apply Kd.R_drewN | apply Kd.R_drew)); exact Kd.R_mono HO373.out (fun _ hk => hk.1)⟩, ⟨by (try simp only [hl3_1]); (with_reducible repeat (first | apply Kd.R_alloc | apply Kd.R_drewN | apply Kd.R_drew)); exact Kd.R_mono HO_5.out (fun _ hk => hk.2)⟩, ⟨by (try simp only [hl3_1]); (with_reducible repeat (first | refine blk_drewN ?_ _ | refine blk_drew ?_ | refine blk_alloc ?_ _)); exact BK352.out⟩, ⟨by repeat (first | (with_reducible first | exact HB.out | apply below_alloc | apply pw_below_drewN | apply below_drew1 | refine below_set ?_ GE352.out) | exact HB.out)⟩⟩
                ·rw [if_neg c39] at H
                 exact absurd H (by simp)
               ·rw [if_neg c37] at H
                exact absurd H (by simp)
              ·rw [if_neg c36] at H
               exact absurd H (by simp)
             ·rw [if_neg c35] at H
              have c35b0 : decide (0 ≤ x8_2) = false := decide_eq_false c35
              clear c35
              obtain ⟨y374, hy374⟩ : ∃ y_ : List Int, y_ = (([(rd x4_1 (ji20))] : List Int)) := ⟨_, rfl⟩
              replace H : (if y374.length + x5_1.length < 17592186044416 then (if 0 ≤ (wrap64 ((x4_1.length : Int) - 1)) then (if (wrap64 ((x4_1.length : Int) - 1)) ≤ (x4_1.length : Int) then (truantref09_Order.l0 k2 x3_1 (x4_1.take ((wrap64 ((x4_1.length : Int) - 1)) : Int).toNat) (y374 ++ x5_1) a0_0 l0_1 a0_2 l0_3 l0_4 l0_5) else (none)) else (none)) else (none)) = some r := by first | (rw [hy374]; with_reducible exact H) | (have H2_ := (Option.bind_some _ _).symm.trans H; rw [hy374]; with_reducible exact H2_) | (have H2_ := (Option.bind_some _ _).symm.trans H; with_reducible exact H2_) | with_reducible exact H | (rw [hy374]; exact H) | exact H
              have Ny374 := Aside0.mk hy374
              clear hy374
              by_cases c43 : y374.length + x5_1.length < 17592186044416
              ·rw [if_pos c43] at H
               have LMc43 := Aside0.mk c43
               clear c43
               obtain ⟨y377, hy377⟩ : ∃ y_ : List Int, y_ = (y374 ++ x5_1) := ⟨_, rfl⟩
               replace H : (if 0 ≤ (wrap64 ((x4_1.length : Int) - 1)) then (if (wrap64 ((x4_1.length : Int) - 1)) ≤ (x4_1.length : Int) then (truantref09_Order.l0 k2 x3_1 (x4_1.take ((wrap64 ((x4_1.length : Int) - 1)) : Int).toNat) y377 a0_0 l0_1 a0_2 l0_3 l0_4 l0_5) else (none)) else (none)) = some r := by first | (rw [hy377]; with_reducible exact H) | (have H2_ := (Option.bind_some _ _).symm.trans H; rw [hy377]; with_reducible exact H2_) | (have H2_ := (Option.bind_some _ _).symm.trans H; with_reducible exact H2_) | with_reducible exact H | (rw [hy377]; exact H) | exact H
               have Ny377 := Aside0.mk hy377
               clear hy377
               obtain ⟨ji44, hji44⟩ : ∃ j_ : Int, (wrap64 ((x4_1.length : Int) - 1)) = j_ := ⟨_, rfl⟩
               replace H : (if 0 ≤ (ji44) then (if (ji44) ≤ (x4_1.length : Int) then (truantref09_Order.l0 k2 x3_1 (x4_1.take ((ji44) : Int).toNat) y377 a0_0 l0_1 a0_2 l0_3 l0_4 l0_5) else (none)) else (none)) = some r := by first | (rw [hji44] at H; exact H) | (simp only [hji44] at H ⊢; exact H)
               have hji44w : (IntKind.i64.wrap ((x4_1.length : Int) - 1)) = ji44 := (i64_w _).trans hji44
               by_cases c45 : 0 ≤ (ji44)
               ·rw [if_pos c45] at H
                have c45b0 := eq_true c45
                have c45b1 : decide (0 ≤ (ji44)) = true := decide_eq_true c45
                clear c45
                by_cases c46 : (ji44) ≤ (x4_1.length : Int)
                ·rw [if_pos c46] at H
                 have c46b0 := eq_true c46
                 have c46b1 : decide ((ji44) ≤ (x4_1.length : Int)) = true := decide_eq_true c46
                 clear c46
                 obtain ⟨y380, hy380⟩ : ∃ y_ : List Int, y_ = (x4_1.take ((ji44) : Int).toNat) := ⟨_, rfl⟩
                 replace H : (truantref09_Order.l0 k2 x3_1 y380 y377 a0_0 l0_1 a0_2 l0_3 l0_4 l0_5) = some r := by first | (rw [hy380]; with_reducible exact H) | (have H2_ := (Option.bind_some _ _).symm.trans H; rw [hy380]; with_reducible exact H2_) | (have H2_ := (Option.bind_some _ _).symm.trans H; with_reducible exact H2_) | with_reducible exact H | (rw [hy380]; exact H) | exact H
                 have Ny380 := Aside0.mk hy380
                 clear hy380
                 have H' := Aside0.mk H
                 clear H
                 have ej_ : ji20 = ji44 := hji20.symm.trans hji44; have q0_ : 0 ≤ ji20 := (by have := of_decide_eq_true c45b1; omega); have q1_ : ji20 ≤ (co24 : Int) := (by have h1_ := (Kd.R_reads' HO_4.out).2.1; have h2_ := of_decide_eq_true c46b1; omega); clear ej_; go_wp2_with (first | ((with_reducible refine gate_dst (N := 63) rfl ?_); refine Kd.R_lit (Kd.int .i64) _ 3 ?hg (N := 63) ?hd (xs := ([(rd x4_1 (ji20))] : List Int)) (inner := [.int .i64 (rd x4_1 (ji20))]) (ok := fun _ => True) (okp := fun _ => True) ?hr ?hp (fun _ hk => hk) trivial (Below.refl _ _) (Nat.le_refl _) (by simp) ?_; (case hd => rfl); (case hg => rfl); (case hr => first | (go_simp; done) | (go_simp; rfl)); (case hp => exact (Reps.one (show Kd.M (Kd.int .i64) _ _ _ (rd x4_1 (ji20)) [.int .i64 (rd x4_1 (ji20))] from rfl) (Reps.none _ _))); intro v375 w47 ho48 hb hg_ hnew_; clear hg_ hnew_; (first | rw [← Ny374.out] at ho48 | (simp only [Int.reduceToNat] at ho48; rw [← Ny374.out] at ho48)); have n0_ := Aside0.mk (Kd.R_below (by (with_reducible repeat (first | apply Kd.R_alloc | apply Kd.R_drewN | apply Kd.R_drew)); exact HO_3.out) hb); have n1_ := Aside0.mk (Kd.R_elder' (by (with_reducible repeat (first | apply Kd.R_alloc | apply Kd.R_drewN | apply Kd.R_drew)); exact HO_4.out) (Kd.R_base ho48) hb); have n2_ := Aside0.mk (Kd.R_elder' (by (with_reducible repeat (first | apply Kd.R_alloc | apply Kd.R_drewN | apply Kd.R_drew)); exact HO_5.out) (Kd.R_base ho48) hb); have n3_ := Aside0.mk (Kd.R_elder' (by (with_reducible repeat (first | apply Kd.R_alloc | apply Kd.R_drewN | apply Kd.R_drew)); exact HO_7.out) (Kd.R_base ho48) hb); have n4_ := Aside0.mk (Kd.R_lower (Kd.R_new' (Kd.R_new' (Kd.R_new' ho48 (Kd.R_lt (by (with_reducible repeat (first | apply Kd.R_alloc | apply Kd.R_drewN | apply Kd.R_drew)); exact HO_4.out))) (Kd.R_lt (by (with_reducible repeat (first | apply Kd.R_alloc | apply Kd.R_drewN | apply Kd.R_drew)); exact HO_5.out))) (Kd.R_lt (by (with_reducible repeat (first | apply Kd.R_alloc | apply Kd.R_drewN | apply Kd.R_drew)); exact HO_7.out))) (below_size (by repeat (first | (with_reducible first | exact HB.out | apply below_alloc | apply pw_below_drewN | apply below_drew1 | refine below_set ?_ GE352.out) | exact HB.out)))); have n5_ := Aside0.mk (blk_below (g := gb352) (o := .cells #[.string a0_0, .slice A0_1 l0_1.length c0_1, .string a0_2, .slice A0_3 l0_3.length c0_3, .slice A0_4 l0_4.length c0_4, .slice A0_5 l0_5.length c0_5] 26 (0, 0)) (by (with_reducible repeat (first | refine blk_drewN ?_ _ | refine blk_drew ?_ | refine blk_alloc ?_ _)); exact BK352.out) hb); have n6_ := Aside0.mk (below_step (by repeat (first | (with_reducible first | exact HB.out | apply below_alloc | apply pw_below_drewN | apply below_drew1 | refine below_set ?_ GE352.out) | exact HB.out)) hb); clear HO_3; clear HO_4; clear HO_5; clear HO_7; clear BK352; clear HB; have HO_3 := n0_; have HO_4 := n1_; have HO_5 := n2_; have HO_7 := n3_; have HO376 := n4_; have BK352 := n5_; have HB := n6_; clear n0_ n1_ n2_ n3_ n4_ n5_ n6_; clear hb ho48; obtain ⟨Ao50, co50, eo50⟩ := Kd.R_slice HO_5.out; subst eo50) | ((with_reducible refine gate_builtin (b := .append) (xs := #[.tmp 63, .tmp 64]) rfl ?_); at_builtin; refine Kd.R_append_rows (Kd.int .i64) (w0 := w) w.heap.size rfl (.tmp 63) (.tmp 64) 34 3 (.int .i64 0) 8 rfl Try.underlying34 info3 rfl (by decide) (by omega) v375 y374 x5_1 _ _ _ (fun k_ => some k_ ≠ (.slice (some ad363) x4_1.length co24 : Value).ownBlock ∧ some k_ ≠ (.slice Ao50 x5_1.length co50 : Value).ownBlock ∧ some k_ ≠ (.slice Ao27 t364.length co27 : Value).ownBlock) (fun _ => False) rfl rfl ?aO ?aR (fun _ _ h => h) (fun _ h => h.elim) ?aF ?aB ?aS ?aL ?_; (case aR => repeat (first | exact (Kd.R_reads' HO_5.out).2.2 | (with_reducible refine Kd.C_alloc ?_ _) | (with_reducible refine Kd.C_drewN ?_ _) | (with_reducible refine Kd.C_drew ?_))); (case aB => exact (by repeat (first | (with_reducible first | exact HB.out | apply below_alloc | apply pw_below_drewN | apply below_drew1 | refine below_set ?_ GE352.out) | exact HB.out))); (case aF => exact (fun k_ hk => ⟨Kd.fresh' (Kd.R_lt (by (with_reducible repeat (first | apply Kd.R_alloc | apply Kd.R_drewN | apply Kd.R_drew)); exact HO_4.out)) k_ hk, Kd.fresh' (Kd.R_lt (by (with_reducible repeat (first | apply Kd.R_alloc | apply Kd.R_drewN | apply Kd.R_drew)); exact HO_5.out)) k_ hk, Kd.fresh' (Kd.R_lt (by (with_reducible repeat (first | apply Kd.R_alloc | apply Kd.R_drewN | apply Kd.R_drew)); exact HO_7.out)) k_ hk⟩)); (case aO => exact (by (with_reducible repeat (first | apply Kd.R_alloc | apply Kd.R_drewN | apply Kd.R_drew)); exact Kd.R_mono HO376.out (fun _ hk => ⟨hk.1.1.2, ⟨hk.1.2, hk.2⟩⟩))); (case aS => exact (below_size (by repeat (first | (with_reducible first | exact HB.out | apply below_alloc | apply pw_below_drewN | apply below_drew1 | refine below_set ?_ GE352.out) | exact HB.out)))); (case aL => have := LMc43.out; omega); intro v378 w49 ho hb hg hat; rw [← Ny377.out] at ho; have n0_ := Aside0.mk (Kd.R_over' (by (with_reducible repeat (first | apply Kd.R_alloc | apply Kd.R_drewN | apply Kd.R_drew)); exact HO_3.out) (Kd.R_typed (by (with_reducible repeat (first | apply Kd.R_alloc | apply Kd.R_drewN | apply Kd.R_drew)); exact HO376.out)) (by decide) hg); have n1_ := Aside0.mk (Kd.R_after (ok := (fun k_ => some k_ ≠ (.slice Ao50 x5_1.length co50 : Value).ownBlock ∧ some k_ ≠ (.slice Ao27 t364.length co27 : Value).ownBlock)) (by (with_reducible repeat (first | apply Kd.R_alloc | apply Kd.R_drewN | apply Kd.R_drew)); exact HO_4.out) hg hat); have n2_ := Aside0.mk (Kd.R_after (ok := (fun k_ => some k_ ≠ (.slice (some ad363) x4_1.length co24 : Value).ownBlock ∧ some k_ ≠ (.slice Ao27 t364.length co27 : Value).ownBlock)) (by (with_reducible repeat (first | apply Kd.R_alloc | apply Kd.R_drewN | apply Kd.R_drew)); exact HO_5.out) hg hat); have n3_ := Aside0.mk (Kd.R_after (ok := (fun k_ => some k_ ≠ (.slice (some ad363) x4_1.length co24 : Value).ownBlock ∧ some k_ ≠ (.slice Ao50 x5_1.length co50 : Value).ownBlock)) (by (with_reducible repeat (first | apply Kd.R_alloc | apply Kd.R_drewN | apply Kd.R_drew)); exact HO_7.out) hg hat); have n4_ := Aside0.mk (blk_grown (g := gb352) (o := .cells #[.string a0_0, .slice A0_1 l0_1.length c0_1, .string a0_2, .slice A0_3 l0_3.length c0_3, .slice A0_4 l0_4.length c0_4, .slice A0_5 l0_5.length c0_5] 26 (0, 0)) (by (with_reducible repeat (first | refine blk_drewN ?_ _ | refine blk_drew ?_ | refine blk_alloc ?_ _)); exact BK352.out) hg (Kd.R_ne HO376.out BK352.out (by decide))); have n5_ := Aside0.mk (hb); have n6_ := Aside0.mk (ho); clear HO_3; clear HO_4; clear HO_5; clear HO_7; clear BK352; clear HB; clear HO376; have HO_3 := n0_; have HO_4 := n1_; have HO_5 := n2_; have HO_7 := n3_; have BK352 := n4_; have HB := n5_; have HO379 := n6_; clear n0_ n1_ n2_ n3_ n4_ n5_ n6_; clear ho hb hg hat; have q51 : ((ji44) : Int) ≤ ((x4_1.length : Int) : Int) := of_decide_eq_true (by first | (with_reducible assumption) | assumption); obtain ⟨i051, hi051, _, hsz51, _⟩ := info_parts info3; have hcut51 := cut_to (P := Try.prog) 34 3 .i64 Try.underlying34 hi051 (some ad363) x4_1.length co24 (ji44) (of_decide_eq_true (by first | (with_reducible assumption) | assumption)) q51 (Kd.R_reads' HO_4.out).2.1; have hr51 := Kd.R_take (m := ((ji44) : Int).toNat) HO_4.out (by omega); have hy51 : y380.length = ((ji44) : Int).toNat := (by rw [Ny380.out, List.length_take]; omega); rw [← Ny380.out] at hr51; rw [← hy51] at hr51 hcut51; clear hy51 hi051 hsz51 HO_4; have HO382 := Aside0.mk hr51; clear hr51; replace q51 := eq_true q51))
                 (try simp only [← hl3_1])
                 go_roundg k2
                 case measure => have := HK1.out; have := HK2.out; omega
                 case rel => exact ⟨(x3_1), (y380), (y377), H', ⟨by have := HK1.out; have := HK2.out; omega⟩, ⟨by (try simp only [hl3_1]); (with_reducible repeat (first | apply Kd.R_alloc | apply Kd.R_drewN | apply Kd.R_drew)); exact HO_3.out⟩, ⟨by (try simp only [hl3_1]); (with_reducible repeat (first | apply Kd.R_alloc | apply Kd.R_drewN | apply Kd.R_drew)); have e_ : y380.length = ji20.toNat := (by have h1_ := of_decide_eq_true c46b1; have h2_ := of_decide_eq_true c45b1; rw [Ny380.out, List.length_take, show ji20 = ji44 from hji20.symm.trans hji44]; omega); rw [← e_]; exact Kd.R_mono HO382.out (fun _ hk => hk.2)⟩, ⟨by (try simp only [hl3_1]); (with_reducible repeat (first | apply Kd.R_alloc | apply Kd.R_drewN | apply Kd.R_drew)); exact Kd.R_mono HO379.out (fun _ hk => hk.1)⟩, ⟨by (try simp only [hl3_1]); (with_reducible repeat (first | refine blk_drewN ?_ _ | refine blk_drew ?_ | refine blk_alloc ?_ _)); exact BK352.out⟩, ⟨by repeat (first | (with_reducible first | exact HB.out | apply below_alloc | apply pw_below_drewN | apply below_drew1 | refine below_set ?_ GE352.out) | exact HB.out)⟩⟩
                ·rw [if_neg c46] at H
                 exact absurd H (by simp)
               ·rw [if_neg c45] at H
                exact absurd H (by simp)
              ·rw [if_neg c43] at H
               exact absurd H (by simp)
         ·rw [if_neg c22] at H
          exact absurd H (by simp)
        ·rw [if_neg c21] at H
         exact absurd H (by simp)
       ·rw [if_neg c19] at H
        have c19b0 : decide (0 < (x4_1.length : Int)) = false := decide_eq_false c19
        have c19b1 : decide (0 < x4_1.length) = false := decide_eq_false (by omega)
        clear c19
        obtain rfl := Option.some.inj H
        obtain ⟨Ao52, co52, eo52⟩ := Kd.R_slice HO_4.out
        subst eo52
        go_wp2
        go_ret
        exact ⟨_, by first | rfl | (simp [errW_none, errW_some] <;> rfl) | (simp [*, errW_none, errW_some] <;> rfl), by (with_reducible repeat (first | apply Kd.R_alloc | apply Kd.R_drewN | apply Kd.R_drew)); exact Kd.R_mono HO_5.out (fun _ hk => trivial), by repeat (first | (with_reducible first | exact HB.out | apply below_alloc | apply pw_below_drewN | apply below_drew1 | refine below_set ?_ GE352.out) | exact HB.out)⟩
    ·rw [if_neg c7] at H
     exact absurd H (by simp)
   ·rw [if_neg c6] at H
    exact absurd H (by simp)
  ·rw [if_neg c5] at H
   exact absurd H (by simp)

end Go.Proofs.Ytclhjalgflebfaa.Q

