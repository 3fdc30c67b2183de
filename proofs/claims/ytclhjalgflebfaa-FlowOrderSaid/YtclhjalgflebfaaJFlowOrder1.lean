/- What the row of FlowOrder rests on, part 1: contracts of the functions that it reaches, and the plain law. -/
import Derived.Test.YtclhjalgflebfaaJFlowOrder0
namespace Go.Proofs.Ytclhjalgflebfaa.Q
open Go.RowKit Go.Proofs.YtclhjalgflebfaaW.PrintWords Go.Proofs.YtclhjalgflebfaaW.PrintLast Go.Proofs.YtclhjalgflebfaaW.PrintMore
attribute [local go_sem] max2_int min2_int max_two min_two max_three min_three max_four min_four   -- for this text's walks alone
set_option linter.unusedVariables false
set_option linter.unusedSimpArgs false

/-! ### truantlaw09_awake: function 14 -/
def truantlaw09_awake.f (k : Nat)  : Option (Bool) := (truantlaw09_four.f).bind fun bt279 => ((flow_Order.f bt279.1 bt279.2.1 bt279.2.2.1 bt279.2.2.2.1 bt279.2.2.2.2.1 bt279.2.2.2.2.2).bind fun t294 => ((flow_Ahead.f k bt279.1 bt279.2.1 bt279.2.2.1 bt279.2.2.2.1 bt279.2.2.2.2.1 bt279.2.2.2.2.2).bind fun t297 => ((flow_Where.f k bt279.1 bt279.2.1 bt279.2.2.1 bt279.2.2.2.1 bt279.2.2.2.2.1 bt279.2.2.2.2.2).bind fun t300 => ((flow_Reached.f bt279.1 bt279.2.1 bt279.2.2.1 bt279.2.2.2.1 bt279.2.2.2.2.1 bt279.2.2.2.2.2).bind fun t303 => ((flow_Next.f bt279.1 bt279.2.1 bt279.2.2.1 bt279.2.2.2.1 bt279.2.2.2.2.1 bt279.2.2.2.2.2 0).bind fun t306 => (if (t294.length : Int) = 4 then (if 0 < (t294.length : Int) then (if (rd t294 0) = 0 then (if 1 < (t294.length : Int) then (if (rd t294 1) = 2 then (if 2 < (t294.length : Int) then (if (rd t294 2) = 1 then (if 3 < (t294.length : Int) then (if (rd t294 3) = 3 then (if (t297.length : Int) = 5 then (if 3 < (t297.length : Int) then (if ((rd_L2 t297 3).length : Int) = 2 then (if 0 < (t297.length : Int) then (if ((rd_L2 t297 0).length : Int) = 1 then (if (t300.length : Int) = 2 then (if 0 < (t300.length : Int) then (if (rd t300 0) = (-1) then (if 1 < (t300.length : Int) then (if (rd t300 1) = 0 then (if (t303.length : Int) = 5 then (if 3 < (t303.length : Int) then (if rdOf false t303 3 = true then (if 4 < (t303.length : Int) then (if rdOf false t303 4 = true then (none) else (if (t306.length : Int) = 2 then ((flow_Back.f bt279.1 bt279.2.1 bt279.2.2.1 bt279.2.2.2.1 bt279.2.2.2.2.1 bt279.2.2.2.2.2).bind fun t319 => (some ((t319.length : Int) == 0))) else (none))) else (none)) else (none)) else (none)) else (none)) else (none)) else (none)) else (none)) else (none)) else (none)) else (none)) else (none)) else (none)) else (none)) else (none)) else (none)) else (none)) else (none)) else (none)) else (none)) else (none)) else (none)) else (none)) else (none)))))))
theorem truantlaw09_awake.mono : ∀ k, LeO (truantlaw09_awake.f k ) (truantlaw09_awake.f (k + 1) ) := by
 intro  k
 unfold truantlaw09_awake.f
 repeat' first
   | (with_reducible exact flow_Ahead.mono _ _ _ _ _ _ _)
   | (with_reducible exact flow_Where.mono _ _ _ _ _ _ _)
   | (with_reducible exact LeO.refl _)
   | (with_reducible exact LeO.none _)
   | (with_reducible refine LeO.ite ?_ ?_)
   | (with_reducible refine LeO.bind ?_ (fun _ => ?_))
   | exact flow_Ahead.mono _ _ _ _ _ _ _
   | exact flow_Where.mono _ _ _ _ _ _ _
   | exact LeO.none _
   | refine LeO.ite ?_ ?_
   | refine LeO.bind ?_ (fun _ => ?_)
set_option maxHeartbeats 8000000 in
set_option maxRecDepth 100000 in
theorem truantlaw09_awake.calls (k : Nat)  (r : Bool) (w : World) (h : truantlaw09_awake.f k  = some r) :
  Calls Try.prog 14 #[] w fun e w' => e = .returned (.bool r) ∧ Below w.heap.size w w' := by
 have hu26 := Try.underlying26
 have HB := Aside0.mk (Below.refl w.heap.size w)
 have H : ((truantlaw09_four.f).bind fun bt279 => ((flow_Order.f bt279.1 bt279.2.1 bt279.2.2.1 bt279.2.2.2.1 bt279.2.2.2.2.1 bt279.2.2.2.2.2).bind fun t294 => ((flow_Ahead.f k bt279.1 bt279.2.1 bt279.2.2.1 bt279.2.2.2.1 bt279.2.2.2.2.1 bt279.2.2.2.2.2).bind fun t297 => ((flow_Where.f k bt279.1 bt279.2.1 bt279.2.2.1 bt279.2.2.2.1 bt279.2.2.2.2.1 bt279.2.2.2.2.2).bind fun t300 => ((flow_Reached.f bt279.1 bt279.2.1 bt279.2.2.1 bt279.2.2.2.1 bt279.2.2.2.2.1 bt279.2.2.2.2.2).bind fun t303 => ((flow_Next.f bt279.1 bt279.2.1 bt279.2.2.1 bt279.2.2.2.1 bt279.2.2.2.2.1 bt279.2.2.2.2.2 0).bind fun t306 => (if (t294.length : Int) = 4 then (if 0 < (t294.length : Int) then (if (rd t294 0) = 0 then (if 1 < (t294.length : Int) then (if (rd t294 1) = 2 then (if 2 < (t294.length : Int) then (if (rd t294 2) = 1 then (if 3 < (t294.length : Int) then (if (rd t294 3) = 3 then (if (t297.length : Int) = 5 then (if 3 < (t297.length : Int) then (if ((rd_L2 t297 3).length : Int) = 2 then (if 0 < (t297.length : Int) then (if ((rd_L2 t297 0).length : Int) = 1 then (if (t300.length : Int) = 2 then (if 0 < (t300.length : Int) then (if (rd t300 0) = (-1) then (if 1 < (t300.length : Int) then (if (rd t300 1) = 0 then (if (t303.length : Int) = 5 then (if 3 < (t303.length : Int) then (if rdOf false t303 3 = true then (if 4 < (t303.length : Int) then (if rdOf false t303 4 = true then (none) else (if (t306.length : Int) = 2 then ((flow_Back.f bt279.1 bt279.2.1 bt279.2.2.1 bt279.2.2.2.1 bt279.2.2.2.2.1 bt279.2.2.2.2.2).bind fun t319 => (some ((t319.length : Int) == 0))) else (none))) else (none)) else (none)) else (none)) else (none)) else (none)) else (none)) else (none)) else (none)) else (none)) else (none)) else (none)) else (none)) else (none)) else (none)) else (none)) else (none)) else (none)) else (none)) else (none)) else (none)) else (none)) else (none)) else (none)))))))) = some r := h
 clear h
 replace H := Option.bind_eq_some_iff.mp H
 obtain ⟨⟨t279, t280, t283, t284, t287, t290⟩, A10, H⟩ := H
 replace H : ((flow_Order.f t279 t280 t283 t284 t287 t290).bind fun t294 => ((flow_Ahead.f k t279 t280 t283 t284 t287 t290).bind fun t297 => ((flow_Where.f k t279 t280 t283 t284 t287 t290).bind fun t300 => ((flow_Reached.f t279 t280 t283 t284 t287 t290).bind fun t303 => ((flow_Next.f t279 t280 t283 t284 t287 t290 0).bind fun t306 => (if (t294.length : Int) = 4 then (if 0 < (t294.length : Int) then (if (rd t294 0) = 0 then (if 1 < (t294.length : Int) then (if (rd t294 1) = 2 then (if 2 < (t294.length : Int) then (if (rd t294 2) = 1 then (if 3 < (t294.length : Int) then (if (rd t294 3) = 3 then (if (t297.length : Int) = 5 then (if 3 < (t297.length : Int) then (if ((rd_L2 t297 3).length : Int) = 2 then (if 0 < (t297.length : Int) then (if ((rd_L2 t297 0).length : Int) = 1 then (if (t300.length : Int) = 2 then (if 0 < (t300.length : Int) then (if (rd t300 0) = (-1) then (if 1 < (t300.length : Int) then (if (rd t300 1) = 0 then (if (t303.length : Int) = 5 then (if 3 < (t303.length : Int) then (if rdOf false t303 3 = true then (if 4 < (t303.length : Int) then (if rdOf false t303 4 = true then (none) else (if (t306.length : Int) = 2 then ((flow_Back.f t279 t280 t283 t284 t287 t290).bind fun t319 => (some ((t319.length : Int) == 0))) else (none))) else (none)) else (none)) else (none)) else (none)) else (none)) else (none)) else (none)) else (none)) else (none)) else (none)) else (none)) else (none)) else (none)) else (none)) else (none)) else (none)) else (none)) else (none)) else (none)) else (none)) else (none)) else (none)) else (none))))))) = some r := H
 have A1 := Aside0.mk A10
 clear A10
 replace H := Option.bind_eq_some_iff.mp H
 obtain ⟨t294, A20, H⟩ := H
 replace H : ((flow_Ahead.f k t279 t280 t283 t284 t287 t290).bind fun t297 => ((flow_Where.f k t279 t280 t283 t284 t287 t290).bind fun t300 => ((flow_Reached.f t279 t280 t283 t284 t287 t290).bind fun t303 => ((flow_Next.f t279 t280 t283 t284 t287 t290 0).bind fun t306 => (if (t294.length : Int) = 4 then (if 0 < (t294.length : Int) then (if (rd t294 0) = 0 then (if 1 < (t294.length : Int) then (if (rd t294 1) = 2 then (if 2 < (t294.length : Int) then (if (rd t294 2) = 1 then (if 3 < (t294.length : Int) then (if (rd t294 3) = 3 then (if (t297.length : Int) = 5 then (if 3 < (t297.length : Int) then (if ((rd_L2 t297 3).length : Int) = 2 then (if 0 < (t297.length : Int) then (if ((rd_L2 t297 0).length : Int) = 1 then (if (t300.length : Int) = 2 then (if 0 < (t300.length : Int) then (if (rd t300 0) = (-1) then (if 1 < (t300.length : Int) then (if (rd t300 1) = 0 then (if (t303.length : Int) = 5 then (if 3 < (t303.length : Int) then (if rdOf false t303 3 = true then (if 4 < (t303.length : Int) then (if rdOf false t303 4 = true then (none) else (if (t306.length : Int) = 2 then ((flow_Back.f t279 t280 t283 t284 t287 t290).bind fun t319 => (some ((t319.length : Int) == 0))) else (none))) else (none)) else (none)) else (none)) else (none)) else (none)) else (none)) else (none)) else (none)) else (none)) else (none)) else (none)) else (none)) else (none)) else (none)) else (none)) else (none)) else (none)) else (none)) else (none)) else (none)) else (none)) else (none)) else (none)))))) = some r := H
 have A2 := Aside0.mk A20
 clear A20
 replace H := Option.bind_eq_some_iff.mp H
 obtain ⟨t297, A30, H⟩ := H
 replace H : ((flow_Where.f k t279 t280 t283 t284 t287 t290).bind fun t300 => ((flow_Reached.f t279 t280 t283 t284 t287 t290).bind fun t303 => ((flow_Next.f t279 t280 t283 t284 t287 t290 0).bind fun t306 => (if (t294.length : Int) = 4 then (if 0 < (t294.length : Int) then (if (rd t294 0) = 0 then (if 1 < (t294.length : Int) then (if (rd t294 1) = 2 then (if 2 < (t294.length : Int) then (if (rd t294 2) = 1 then (if 3 < (t294.length : Int) then (if (rd t294 3) = 3 then (if (t297.length : Int) = 5 then (if 3 < (t297.length : Int) then (if ((rd_L2 t297 3).length : Int) = 2 then (if 0 < (t297.length : Int) then (if ((rd_L2 t297 0).length : Int) = 1 then (if (t300.length : Int) = 2 then (if 0 < (t300.length : Int) then (if (rd t300 0) = (-1) then (if 1 < (t300.length : Int) then (if (rd t300 1) = 0 then (if (t303.length : Int) = 5 then (if 3 < (t303.length : Int) then (if rdOf false t303 3 = true then (if 4 < (t303.length : Int) then (if rdOf false t303 4 = true then (none) else (if (t306.length : Int) = 2 then ((flow_Back.f t279 t280 t283 t284 t287 t290).bind fun t319 => (some ((t319.length : Int) == 0))) else (none))) else (none)) else (none)) else (none)) else (none)) else (none)) else (none)) else (none)) else (none)) else (none)) else (none)) else (none)) else (none)) else (none)) else (none)) else (none)) else (none)) else (none)) else (none)) else (none)) else (none)) else (none)) else (none)) else (none))))) = some r := H
 have A3 := Aside0.mk A30
 clear A30
 replace H := Option.bind_eq_some_iff.mp H
 obtain ⟨t300, A40, H⟩ := H
 replace H : ((flow_Reached.f t279 t280 t283 t284 t287 t290).bind fun t303 => ((flow_Next.f t279 t280 t283 t284 t287 t290 0).bind fun t306 => (if (t294.length : Int) = 4 then (if 0 < (t294.length : Int) then (if (rd t294 0) = 0 then (if 1 < (t294.length : Int) then (if (rd t294 1) = 2 then (if 2 < (t294.length : Int) then (if (rd t294 2) = 1 then (if 3 < (t294.length : Int) then (if (rd t294 3) = 3 then (if (t297.length : Int) = 5 then (if 3 < (t297.length : Int) then (if ((rd_L2 t297 3).length : Int) = 2 then (if 0 < (t297.length : Int) then (if ((rd_L2 t297 0).length : Int) = 1 then (if (t300.length : Int) = 2 then (if 0 < (t300.length : Int) then (if (rd t300 0) = (-1) then (if 1 < (t300.length : Int) then (if (rd t300 1) = 0 then (if (t303.length : Int) = 5 then (if 3 < (t303.length : Int) then (if rdOf false t303 3 = true then (if 4 < (t303.length : Int) then (if rdOf false t303 4 = true then (none) else (if (t306.length : Int) = 2 then ((flow_Back.f t279 t280 t283 t284 t287 t290).bind fun t319 => (some ((t319.length : Int) == 0))) else (none))) else (none)) else (none)) else (none)) else (none)) else (none)) else (none)) else (none)) else (none)) else (none)) else (none)) else (none)) else (none)) else (none)) else (none)) else (none)) else (none)) else (none)) else (none)) else (none)) else (none)) else (none)) else (none)) else (none)))) = some r := H
 have A4 := Aside0.mk A40
 clear A40
 replace H := Option.bind_eq_some_iff.mp H
 obtain ⟨t303, A50, H⟩ := H
 replace H : ((flow_Next.f t279 t280 t283 t284 t287 t290 0).bind fun t306 => (if (t294.length : Int) = 4 then (if 0 < (t294.length : Int) then (if (rd t294 0) = 0 then (if 1 < (t294.length : Int) then (if (rd t294 1) = 2 then (if 2 < (t294.length : Int) then (if (rd t294 2) = 1 then (if 3 < (t294.length : Int) then (if (rd t294 3) = 3 then (if (t297.length : Int) = 5 then (if 3 < (t297.length : Int) then (if ((rd_L2 t297 3).length : Int) = 2 then (if 0 < (t297.length : Int) then (if ((rd_L2 t297 0).length : Int) = 1 then (if (t300.length : Int) = 2 then (if 0 < (t300.length : Int) then (if (rd t300 0) = (-1) then (if 1 < (t300.length : Int) then (if (rd t300 1) = 0 then (if (t303.length : Int) = 5 then (if 3 < (t303.length : Int) then (if rdOf false t303 3 = true then (if 4 < (t303.length : Int) then (if rdOf false t303 4 = true then (none) else (if (t306.length : Int) = 2 then ((flow_Back.f t279 t280 t283 t284 t287 t290).bind fun t319 => (some ((t319.length : Int) == 0))) else (none))) else (none)) else (none)) else (none)) else (none)) else (none)) else (none)) else (none)) else (none)) else (none)) else (none)) else (none)) else (none)) else (none)) else (none)) else (none)) else (none)) else (none)) else (none)) else (none)) else (none)) else (none)) else (none)) else (none))) = some r := H
 have A5 := Aside0.mk A50
 clear A50
 replace H := Option.bind_eq_some_iff.mp H
 obtain ⟨t306, A60, H⟩ := H
 replace H : (if (t294.length : Int) = 4 then (if 0 < (t294.length : Int) then (if (rd t294 0) = 0 then (if 1 < (t294.length : Int) then (if (rd t294 1) = 2 then (if 2 < (t294.length : Int) then (if (rd t294 2) = 1 then (if 3 < (t294.length : Int) then (if (rd t294 3) = 3 then (if (t297.length : Int) = 5 then (if 3 < (t297.length : Int) then (if ((rd_L2 t297 3).length : Int) = 2 then (if 0 < (t297.length : Int) then (if ((rd_L2 t297 0).length : Int) = 1 then (if (t300.length : Int) = 2 then (if 0 < (t300.length : Int) then (if (rd t300 0) = (-1) then (if 1 < (t300.length : Int) then (if (rd t300 1) = 0 then (if (t303.length : Int) = 5 then (if 3 < (t303.length : Int) then (if rdOf false t303 3 = true then (if 4 < (t303.length : Int) then (if rdOf false t303 4 = true then (none) else (if (t306.length : Int) = 2 then ((flow_Back.f t279 t280 t283 t284 t287 t290).bind fun t319 => (some ((t319.length : Int) == 0))) else (none))) else (none)) else (none)) else (none)) else (none)) else (none)) else (none)) else (none)) else (none)) else (none)) else (none)) else (none)) else (none)) else (none)) else (none)) else (none)) else (none)) else (none)) else (none)) else (none)) else (none)) else (none)) else (none)) else (none)) = some r := H
 have A6 := Aside0.mk A60
 clear A60
 by_cases c7 : (t294.length : Int) = 4
 ·rw [if_pos c7] at H
  have c7b0 : ((t294.length : Int) == 4) = true := beq_iff_eq.mpr c7
  have c7b1 : ((t294.length : Int) != 4) = false := bne_eq_false_iff_eq.mpr c7
  clear c7
  by_cases c8 : 0 < (t294.length : Int)
  ·rw [if_pos c8] at H
   have c8b0 : decide (0 < (t294.length : Int)) = true := decide_eq_true c8
   have c8b1 : decide (0 < t294.length) = true := decide_eq_true (by omega)
   clear c8
   by_cases c9 : (rd t294 0) = 0
   ·rw [if_pos c9] at H
    have c9b0 : ((rd t294 0) == 0) = true := beq_iff_eq.mpr c9
    have c9b1 : ((rd t294 0) != 0) = false := bne_eq_false_iff_eq.mpr c9
    clear c9
    by_cases c10 : 1 < (t294.length : Int)
    ·rw [if_pos c10] at H
     have c10b0 : decide (1 < (t294.length : Int)) = true := decide_eq_true c10
     have c10b1 : decide (1 < t294.length) = true := decide_eq_true (by omega)
     clear c10
     by_cases c11 : (rd t294 1) = 2
     ·rw [if_pos c11] at H
      have c11b0 : ((rd t294 1) == 2) = true := beq_iff_eq.mpr c11
      have c11b1 : ((rd t294 1) != 2) = false := bne_eq_false_iff_eq.mpr c11
      clear c11
      by_cases c12 : 2 < (t294.length : Int)
      ·rw [if_pos c12] at H
       have c12b0 : decide (2 < (t294.length : Int)) = true := decide_eq_true c12
       have c12b1 : decide (2 < t294.length) = true := decide_eq_true (by omega)
       clear c12
       by_cases c13 : (rd t294 2) = 1
       ·rw [if_pos c13] at H
        have c13b0 : ((rd t294 2) == 1) = true := beq_iff_eq.mpr c13
        have c13b1 : ((rd t294 2) != 1) = false := bne_eq_false_iff_eq.mpr c13
        clear c13
        by_cases c14 : 3 < (t294.length : Int)
        ·rw [if_pos c14] at H
         have c14b0 : decide (3 < (t294.length : Int)) = true := decide_eq_true c14
         have c14b1 : decide (3 < t294.length) = true := decide_eq_true (by omega)
         clear c14
         by_cases c15 : (rd t294 3) = 3
         ·rw [if_pos c15] at H
          have c15b0 : ((rd t294 3) == 3) = true := beq_iff_eq.mpr c15
          have c15b1 : ((rd t294 3) != 3) = false := bne_eq_false_iff_eq.mpr c15
          clear c15
          by_cases c16 : (t297.length : Int) = 5
          ·rw [if_pos c16] at H
           have c16b0 : ((t297.length : Int) == 5) = true := beq_iff_eq.mpr c16
           have c16b1 : ((t297.length : Int) != 5) = false := bne_eq_false_iff_eq.mpr c16
           clear c16
           by_cases c17 : 3 < (t297.length : Int)
           ·rw [if_pos c17] at H
            have c17b0 : decide (3 < (t297.length : Int)) = true := decide_eq_true c17
            have c17b1 : decide (3 < t297.length) = true := decide_eq_true (by omega)
            clear c17
            by_cases c18 : ((rd_L2 t297 3).length : Int) = 2
            ·rw [if_pos c18] at H
             have c18b0 : (((rd_L2 t297 3).length : Int) == 2) = true := beq_iff_eq.mpr c18
             have c18b1 : (((rd_L2 t297 3).length : Int) != 2) = false := bne_eq_false_iff_eq.mpr c18
             clear c18
             by_cases c19 : 0 < (t297.length : Int)
             ·rw [if_pos c19] at H
              have c19b0 : decide (0 < (t297.length : Int)) = true := decide_eq_true c19
              have c19b1 : decide (0 < t297.length) = true := decide_eq_true (by omega)
              clear c19
              by_cases c20 : ((rd_L2 t297 0).length : Int) = 1
              ·rw [if_pos c20] at H
               have c20b0 : (((rd_L2 t297 0).length : Int) == 1) = true := beq_iff_eq.mpr c20
               have c20b1 : (((rd_L2 t297 0).length : Int) != 1) = false := bne_eq_false_iff_eq.mpr c20
               clear c20
               by_cases c21 : (t300.length : Int) = 2
               ·rw [if_pos c21] at H
                have c21b0 : ((t300.length : Int) == 2) = true := beq_iff_eq.mpr c21
                have c21b1 : ((t300.length : Int) != 2) = false := bne_eq_false_iff_eq.mpr c21
                clear c21
                by_cases c22 : 0 < (t300.length : Int)
                ·rw [if_pos c22] at H
                 have c22b0 : decide (0 < (t300.length : Int)) = true := decide_eq_true c22
                 have c22b1 : decide (0 < t300.length) = true := decide_eq_true (by omega)
                 clear c22
                 by_cases c23 : (rd t300 0) = (-1)
                 ·rw [if_pos c23] at H
                  have c23b0 : ((rd t300 0) == (-1)) = true := beq_iff_eq.mpr c23
                  have c23b1 : ((rd t300 0) != (-1)) = false := bne_eq_false_iff_eq.mpr c23
                  clear c23
                  by_cases c24 : 1 < (t300.length : Int)
                  ·rw [if_pos c24] at H
                   have c24b0 : decide (1 < (t300.length : Int)) = true := decide_eq_true c24
                   have c24b1 : decide (1 < t300.length) = true := decide_eq_true (by omega)
                   clear c24
                   by_cases c25 : (rd t300 1) = 0
                   ·rw [if_pos c25] at H
                    have c25b0 : ((rd t300 1) == 0) = true := beq_iff_eq.mpr c25
                    have c25b1 : ((rd t300 1) != 0) = false := bne_eq_false_iff_eq.mpr c25
                    clear c25
                    by_cases c26 : (t303.length : Int) = 5
                    ·rw [if_pos c26] at H
                     have c26b0 : ((t303.length : Int) == 5) = true := beq_iff_eq.mpr c26
                     have c26b1 : ((t303.length : Int) != 5) = false := bne_eq_false_iff_eq.mpr c26
                     clear c26
                     by_cases c27 : 3 < (t303.length : Int)
                     ·rw [if_pos c27] at H
                      have c27b0 : decide (3 < (t303.length : Int)) = true := decide_eq_true c27
                      have c27b1 : decide (3 < t303.length) = true := decide_eq_true (by omega)
                      clear c27
                      obtain ⟨bq28, hbq28⟩ : ∃ b_ : Bool, b_ = (rdOf false t303 3) := ⟨_, rfl⟩
                      replace H : (if bq28 = true then (if 4 < (t303.length : Int) then (if rdOf false t303 4 = true then (none) else (if (t306.length : Int) = 2 then ((flow_Back.f t279 t280 t283 t284 t287 t290).bind fun t319 => (some ((t319.length : Int) == 0))) else (none))) else (none)) else (none)) = some r := by rw [← hbq28] at H; exact H
                      have Nbq28 := Aside0.mk hbq28
                      clear hbq28
                      by_cases c29 : bq28 = true
                      ·subst c29
                       have H1 : (if 4 < (t303.length : Int) then (if rdOf false t303 4 = true then (none) else (if (t306.length : Int) = 2 then ((flow_Back.f t279 t280 t283 t284 t287 t290).bind fun t319 => (some ((t319.length : Int) == 0))) else (none))) else (none)) = some r := by rw [if_pos rfl] at H; exact H
                       clear H
                       have H := H1
                       clear H1
                       by_cases c30 : 4 < (t303.length : Int)
                       ·rw [if_pos c30] at H
                        have c30b0 : decide (4 < (t303.length : Int)) = true := decide_eq_true c30
                        have c30b1 : decide (4 < t303.length) = true := decide_eq_true (by omega)
                        clear c30
                        obtain ⟨bq31, hbq31⟩ : ∃ b_ : Bool, b_ = (rdOf false t303 4) := ⟨_, rfl⟩
                        replace H : (if bq31 = true then (none) else (if (t306.length : Int) = 2 then ((flow_Back.f t279 t280 t283 t284 t287 t290).bind fun t319 => (some ((t319.length : Int) == 0))) else (none))) = some r := by rw [← hbq31] at H; exact H
                        have Nbq31 := Aside0.mk hbq31
                        clear hbq31
                        by_cases c32 : bq31 = true
                        ·subst c32
                         have H1 : (none) = some r := by rw [if_pos rfl] at H; exact H
                         clear H
                         have H := H1
                         clear H1
                         exact absurd H (by simp)
                        ·replace c32 := Bool.eq_false_iff.mpr c32
                         subst c32
                         have H1 : (if (t306.length : Int) = 2 then ((flow_Back.f t279 t280 t283 t284 t287 t290).bind fun t319 => (some ((t319.length : Int) == 0))) else (none)) = some r := by rw [if_neg (show ¬ (false = true) by decide)] at H; exact H
                         clear H
                         have H := H1
                         clear H1
                         by_cases c33 : (t306.length : Int) = 2
                         ·rw [if_pos c33] at H
                          have c33b0 : ((t306.length : Int) == 2) = true := beq_iff_eq.mpr c33
                          have c33b1 : ((t306.length : Int) != 2) = false := bne_eq_false_iff_eq.mpr c33
                          clear c33
                          replace H := Option.bind_eq_some_iff.mp H
                          obtain ⟨t319, A340, H⟩ := H
                          replace H : (some ((t319.length : Int) == 0)) = some r := H
                          have A34 := Aside0.mk A340
                          clear A340
                          obtain rfl := Option.some.inj H
                          go_enter Try.func14, Try.ntmps14
                          go_wp2_with (first | ((with_reducible refine gate_callee (f := 48) rfl ?_); refine goesL_ (some 7) rfl rfl Try.func48 (by kernel_rfl) rfl #[] rfl (by (try simp only [List.map_toArray, List.map_cons, List.map_nil]); first | done | rfl | (simp only [List.length_drop, List.length_take]; rfl)) ?_; (with_reducible refine (truantlaw09_four.calls  t279 t280 t283 t284 t287 t290 _ A1.out).mono ?_); rintro e w35 ⟨v281, v285, v288, v291, rfl, ho0, ho1, ho2, ho3, hb⟩; refine ⟨_, rfl, ?_⟩; have n0_ := Aside0.mk (Kd.R_lower (Kd.R_mono (ok' := fun k_ => some k_ ≠ (v285 : Value).ownBlock) ho0 (fun _ hk_ => hk_.2)) (below_size (by repeat (first | (with_reducible first | exact HB.out | apply below_alloc | apply pw_below_drewN | apply below_drew1) | exact HB.out)))); have n1_ := Aside0.mk (Kd.R_lower (Kd.R_mono (ok' := fun k_ => some k_ ≠ (v281 : Value).ownBlock) ho1 (fun _ hk_ => hk_.2)) (below_size (by repeat (first | (with_reducible first | exact HB.out | apply below_alloc | apply pw_below_drewN | apply below_drew1) | exact HB.out)))); have n2_ := Aside0.mk (Kd.N_lower (Kd.N_mono (ok' := fun k_ => some k_ ≠ (v281 : Value).ownBlock ∧ some k_ ≠ (v285 : Value).ownBlock ∧ some k_ ≠ (v291 : Value).ownBlock) ho2 (fun k_ hk_ => ⟨hk_.2.1, hk_.2.2.1, hk_.2.2.2⟩)) (below_size (by repeat (first | (with_reducible first | exact HB.out | apply below_alloc | apply pw_below_drewN | apply below_drew1) | exact HB.out)))); have n3_ := Aside0.mk (Kd.N_lower (Kd.N_mono (ok' := fun k_ => some k_ ≠ (v281 : Value).ownBlock ∧ some k_ ≠ (v285 : Value).ownBlock ∧ some k_ ≠ (v288 : Value).ownBlock) ho3 (fun k_ hk_ => ⟨hk_.2.1, hk_.2.2.1, hk_.2.2.2⟩)) (below_size (by repeat (first | (with_reducible first | exact HB.out | apply below_alloc | apply pw_below_drewN | apply below_drew1) | exact HB.out)))); have n4_ := Aside0.mk (below_step (by repeat (first | (with_reducible first | exact HB.out | apply below_alloc | apply pw_below_drewN | apply below_drew1) | exact HB.out)) hb); clear HB; have HO282 := n0_; have HO286 := n1_; have HO289 := n2_; have HO292 := n3_; have HB := n4_; clear n0_ n1_ n2_ n3_ n4_; (try clear hb); (try clear hb2); (try clear hk); (try clear hi); (try clear ho0); (try clear ho1); (try clear ho2); (try clear ho3)) | ((with_reducible refine gate_dst (N := 1) rfl ?_); (try (refine gate_guard (by rfl) ?_; dsimp only)); refine box_event ?hg (N := 1) ?hd (cs := #[.string (⟨#[]⟩ : ByteArray), .slice none 0 0, .string (⟨#[]⟩ : ByteArray), .slice none 0 0, .slice none 0 0, .slice none 0 0]) (t := 26) ?hr ?_; (case hd => rfl); (case hg => rfl); (case hr => first | (go_simp; done) | (go_simp; rfl)); intro gb293 hg w36 hbox hb; have n0_ := Aside0.mk (Kd.R_below (by (with_reducible repeat (first | apply Kd.R_alloc | apply Kd.R_drewN | apply Kd.R_drew)); exact HO282.out) hb); have n1_ := Aside0.mk (Kd.R_below (by (with_reducible repeat (first | apply Kd.R_alloc | apply Kd.R_drewN | apply Kd.R_drew)); exact HO286.out) hb); have n2_ := Aside0.mk (Kd.N_below (Kd.N_elderB (by (with_reducible repeat (first | apply Kd.N_alloc | apply Kd.N_drewN | apply Kd.N_drew)); exact HO289.out) gb293 (Nat.le_of_eq hg.symm)) hb); have n3_ := Aside0.mk (Kd.N_below (Kd.N_elderB (by (with_reducible repeat (first | apply Kd.N_alloc | apply Kd.N_drewN | apply Kd.N_drew)); exact HO292.out) gb293 (Nat.le_of_eq hg.symm)) hb); have n4_ := Aside0.mk (below_step (by repeat (first | (with_reducible first | exact HB.out | apply below_alloc | apply pw_below_drewN | apply below_drew1) | exact HB.out)) hb); have n5_ := Aside0.mk (hbox); have n6_ := Aside0.mk ((by rw [hg]; exact (below_size (by repeat (first | (with_reducible first | exact HB.out | apply below_alloc | apply pw_below_drewN | apply below_drew1) | exact HB.out))) : w.heap.size ≤ gb293)); have n7_ := Aside0.mk ((by rw [hg]; exact (below_size (by repeat (first | (with_reducible first | exact HB.out | apply below_alloc | apply pw_below_drewN | apply below_drew1) | exact HB.out))) : w.heap.size ≤ gb293)); clear HO282; clear HO286; clear HO289; clear HO292; clear HB; have HO282 := n0_; have HO286 := n1_; have HO289 := n2_; have HO292 := n3_; have HB := n4_; have BK293 := n5_; have GW293 := n6_; have GE293 := n7_; clear n0_ n1_ n2_ n3_ n4_ n5_ n6_ n7_; clear hb hbox hg; have hcz37_0 : w36.cell? ⟨gb293, 0, none⟩ = some (.string (⟨#[]⟩ : ByteArray)) := (blk_cell BK293.out 0).trans rfl; have hcz37_1 : w36.cell? ⟨gb293, 1, none⟩ = some (.slice none 0 0) := (blk_cell BK293.out 1).trans rfl; have hcz37_2 : w36.cell? ⟨gb293, 2, none⟩ = some (.string (⟨#[]⟩ : ByteArray)) := (blk_cell BK293.out 2).trans rfl; have hcz37_3 : w36.cell? ⟨gb293, 3, none⟩ = some (.slice none 0 0) := (blk_cell BK293.out 3).trans rfl; have hcz37_4 : w36.cell? ⟨gb293, 4, none⟩ = some (.slice none 0 0) := (blk_cell BK293.out 4).trans rfl; have hcz37_5 : w36.cell? ⟨gb293, 5, none⟩ = some (.slice none 0 0) := (blk_cell BK293.out 5).trans rfl; have hfz37_0 := blk_frozen BK293.out 0; have hfz37_1 := blk_frozen BK293.out 1; have hfz37_2 := blk_frozen BK293.out 2; have hfz37_3 := blk_frozen BK293.out 3; have hfz37_4 := blk_frozen BK293.out 4; have hfz37_5 := blk_frozen BK293.out 5; obtain ⟨Ao38, co38, eo38⟩ := Kd.R_slice HO282.out; subst eo38; obtain ⟨Ao39, co39, eo39⟩ := Kd.R_slice HO286.out; subst eo39; obtain ⟨Ao40, co40, eo40⟩ := Kd.N_slice HO289.out; subst eo40; obtain ⟨Ao41, co41, eo41⟩ := Kd.N_slice HO292.out; subst eo41) | ((with_reducible refine gate_callee (f := 22) rfl ?_); refine goesL_ (some 9) rfl rfl Try.func22 (by kernel_rfl) rfl #[.agg #[.string t279, .slice Ao38 t280.length co38, .string t283, .slice Ao39 t284.length co39, .slice Ao40 t287.length co40, .slice Ao41 t290.length co41]] rfl (by (try simp only [List.map_toArray, List.map_cons, List.map_nil]); first | done | rfl | (simp only [List.length_drop, List.length_take]; rfl)) ?_; (with_reducible refine (flow_Order.calls t279 _ _ t280 t283 _ _ t284 _ _ t287 _ _ t290 t294 _ ?side1 ?side2 ?side3 ?side4 ?side5 ?side6 ?side7 ?side8 A2.out).mono ?_); (case side1 => refine (Kd.R_reads' (e := 9) (base := w.heap.size) (ok := fun k_ => some k_ ≠ (.slice Ao39 t284.length co39 : Value).ownBlock) (n := t280.length) (c := co38) ?_).2.2; exact (by (with_reducible repeat (first | apply Kd.R_alloc | apply Kd.R_drewN | apply Kd.R_drew)); exact (Kd.R_mono (Kd.R_far (p := ⟨gb293, 5, none⟩) (Kd.R_far (p := ⟨gb293, 4, none⟩) (Kd.R_far (p := ⟨gb293, 3, none⟩) (Kd.R_far (p := ⟨gb293, 2, none⟩) (Kd.R_far (p := ⟨gb293, 1, none⟩) (Kd.R_far (p := ⟨gb293, 0, none⟩) (Kd.R_types HO282.out BK293.out (by decide)) (fun _ hk => hk.2) (.string t279)) (fun _ hk => hk.2) (.slice Ao38 t280.length co38)) (fun _ hk => hk.2) (.string t283)) (fun _ hk => hk.2) (.slice Ao39 t284.length co39)) (fun _ hk => hk.2) (.slice Ao40 t287.length co40)) (fun _ hk => hk.2) (.slice Ao41 t290.length co41)) (fun _ h_ => h_.1)))); (case side2 => exact (Kd.R_reads' HO282.out).2.1); (case side3 => refine (Kd.R_reads' (e := 9) (base := w.heap.size) (ok := fun k_ => some k_ ≠ (.slice Ao38 t280.length co38 : Value).ownBlock) (n := t284.length) (c := co39) ?_).2.2; exact (by (with_reducible repeat (first | apply Kd.R_alloc | apply Kd.R_drewN | apply Kd.R_drew)); exact (Kd.R_mono (Kd.R_far (p := ⟨gb293, 5, none⟩) (Kd.R_far (p := ⟨gb293, 4, none⟩) (Kd.R_far (p := ⟨gb293, 3, none⟩) (Kd.R_far (p := ⟨gb293, 2, none⟩) (Kd.R_far (p := ⟨gb293, 1, none⟩) (Kd.R_far (p := ⟨gb293, 0, none⟩) (Kd.R_types HO286.out BK293.out (by decide)) (fun _ hk => hk.2) (.string t279)) (fun _ hk => hk.2) (.slice Ao38 t280.length co38)) (fun _ hk => hk.2) (.string t283)) (fun _ hk => hk.2) (.slice Ao39 t284.length co39)) (fun _ hk => hk.2) (.slice Ao40 t287.length co40)) (fun _ hk => hk.2) (.slice Ao41 t290.length co41)) (fun _ h_ => h_.1)))); (case side4 => exact (Kd.R_reads' HO286.out).2.1); (case side5 => refine (Kd.N_reads' (e := 58) (base := w.heap.size) (ok := fun k_ => ((some k_ ≠ (.slice Ao38 t280.length co38 : Value).ownBlock ∧ (some k_ ≠ (.slice Ao39 t284.length co39 : Value).ownBlock ∧ some k_ ≠ (.slice Ao41 t290.length co41 : Value).ownBlock)) ∧ k_ ≠ gb293)) (n := t287.length) (c := co40) ?_).2.2; exact (by (with_reducible repeat (first | apply Kd.N_alloc | apply Kd.N_drewN | apply Kd.N_drew)); exact (Kd.N_mono (Kd.N_far (p := ⟨gb293, 5, none⟩) (Kd.N_far (p := ⟨gb293, 4, none⟩) (Kd.N_far (p := ⟨gb293, 3, none⟩) (Kd.N_far (p := ⟨gb293, 2, none⟩) (Kd.N_far (p := ⟨gb293, 1, none⟩) (Kd.N_far (p := ⟨gb293, 0, none⟩) (Kd.N_mono HO289.out (fun k_ hk => (⟨hk, hk.2⟩ : _ ∧ k_ ≠ gb293))) (fun _ hk => hk.2) (.string t279)) (fun _ hk => hk.2) (.slice Ao38 t280.length co38)) (fun _ hk => hk.2) (.string t283)) (fun _ hk => hk.2) (.slice Ao39 t284.length co39)) (fun _ hk => hk.2) (.slice Ao40 t287.length co40)) (fun _ hk => hk.2) (.slice Ao41 t290.length co41)) (fun _ h_ => h_.1)))); (case side6 => exact (Kd.N_reads' HO289.out).2.1); (case side7 => refine (Kd.N_reads' (e := 40) (base := w.heap.size) (ok := fun k_ => ((some k_ ≠ (.slice Ao38 t280.length co38 : Value).ownBlock ∧ (some k_ ≠ (.slice Ao39 t284.length co39 : Value).ownBlock ∧ some k_ ≠ (.slice Ao40 t287.length co40 : Value).ownBlock)) ∧ k_ ≠ gb293)) (n := t290.length) (c := co41) ?_).2.2; exact (by (with_reducible repeat (first | apply Kd.N_alloc | apply Kd.N_drewN | apply Kd.N_drew)); exact (Kd.N_mono (Kd.N_far (p := ⟨gb293, 5, none⟩) (Kd.N_far (p := ⟨gb293, 4, none⟩) (Kd.N_far (p := ⟨gb293, 3, none⟩) (Kd.N_far (p := ⟨gb293, 2, none⟩) (Kd.N_far (p := ⟨gb293, 1, none⟩) (Kd.N_far (p := ⟨gb293, 0, none⟩) (Kd.N_mono HO292.out (fun k_ hk => (⟨hk, hk.2⟩ : _ ∧ k_ ≠ gb293))) (fun _ hk => hk.2) (.string t279)) (fun _ hk => hk.2) (.slice Ao38 t280.length co38)) (fun _ hk => hk.2) (.string t283)) (fun _ hk => hk.2) (.slice Ao39 t284.length co39)) (fun _ hk => hk.2) (.slice Ao40 t287.length co40)) (fun _ hk => hk.2) (.slice Ao41 t290.length co41)) (fun _ h_ => h_.1)))); (case side8 => exact (Kd.N_reads' HO292.out).2.1); rintro e w42 ⟨v295, rfl, ho0, hb⟩; refine ⟨_, rfl, ?_⟩; have n0_ := Aside0.mk (Kd.R_below (by (with_reducible repeat (first | apply Kd.R_alloc | apply Kd.R_drewN | apply Kd.R_drew)); exact (Kd.R_mono (Kd.R_far (p := ⟨gb293, 5, none⟩) (Kd.R_far (p := ⟨gb293, 4, none⟩) (Kd.R_far (p := ⟨gb293, 3, none⟩) (Kd.R_far (p := ⟨gb293, 2, none⟩) (Kd.R_far (p := ⟨gb293, 1, none⟩) (Kd.R_far (p := ⟨gb293, 0, none⟩) (Kd.R_types HO282.out BK293.out (by decide)) (fun _ hk => hk.2) (.string t279)) (fun _ hk => hk.2) (.slice Ao38 t280.length co38)) (fun _ hk => hk.2) (.string t283)) (fun _ hk => hk.2) (.slice Ao39 t284.length co39)) (fun _ hk => hk.2) (.slice Ao40 t287.length co40)) (fun _ hk => hk.2) (.slice Ao41 t290.length co41)) (fun _ h_ => h_.1))) hb); have n1_ := Aside0.mk (Kd.R_below (by (with_reducible repeat (first | apply Kd.R_alloc | apply Kd.R_drewN | apply Kd.R_drew)); exact (Kd.R_mono (Kd.R_far (p := ⟨gb293, 5, none⟩) (Kd.R_far (p := ⟨gb293, 4, none⟩) (Kd.R_far (p := ⟨gb293, 3, none⟩) (Kd.R_far (p := ⟨gb293, 2, none⟩) (Kd.R_far (p := ⟨gb293, 1, none⟩) (Kd.R_far (p := ⟨gb293, 0, none⟩) (Kd.R_types HO286.out BK293.out (by decide)) (fun _ hk => hk.2) (.string t279)) (fun _ hk => hk.2) (.slice Ao38 t280.length co38)) (fun _ hk => hk.2) (.string t283)) (fun _ hk => hk.2) (.slice Ao39 t284.length co39)) (fun _ hk => hk.2) (.slice Ao40 t287.length co40)) (fun _ hk => hk.2) (.slice Ao41 t290.length co41)) (fun _ h_ => h_.1))) hb); have n2_ := Aside0.mk (Kd.N_elder' (by (with_reducible repeat (first | apply Kd.N_alloc | apply Kd.N_drewN | apply Kd.N_drew)); exact (Kd.N_mono (Kd.N_far (p := ⟨gb293, 5, none⟩) (Kd.N_far (p := ⟨gb293, 4, none⟩) (Kd.N_far (p := ⟨gb293, 3, none⟩) (Kd.N_far (p := ⟨gb293, 2, none⟩) (Kd.N_far (p := ⟨gb293, 1, none⟩) (Kd.N_far (p := ⟨gb293, 0, none⟩) (Kd.N_mono HO289.out (fun k_ hk => (⟨hk, hk.2⟩ : _ ∧ k_ ≠ gb293))) (fun _ hk => hk.2) (.string t279)) (fun _ hk => hk.2) (.slice Ao38 t280.length co38)) (fun _ hk => hk.2) (.string t283)) (fun _ hk => hk.2) (.slice Ao39 t284.length co39)) (fun _ hk => hk.2) (.slice Ao40 t287.length co40)) (fun _ hk => hk.2) (.slice Ao41 t290.length co41)) (fun _ h_ => h_.1))) (Kd.R_base ho0) hb); have n3_ := Aside0.mk (Kd.N_elder' (by (with_reducible repeat (first | apply Kd.N_alloc | apply Kd.N_drewN | apply Kd.N_drew)); exact (Kd.N_mono (Kd.N_far (p := ⟨gb293, 5, none⟩) (Kd.N_far (p := ⟨gb293, 4, none⟩) (Kd.N_far (p := ⟨gb293, 3, none⟩) (Kd.N_far (p := ⟨gb293, 2, none⟩) (Kd.N_far (p := ⟨gb293, 1, none⟩) (Kd.N_far (p := ⟨gb293, 0, none⟩) (Kd.N_mono HO292.out (fun k_ hk => (⟨hk, hk.2⟩ : _ ∧ k_ ≠ gb293))) (fun _ hk => hk.2) (.string t279)) (fun _ hk => hk.2) (.slice Ao38 t280.length co38)) (fun _ hk => hk.2) (.string t283)) (fun _ hk => hk.2) (.slice Ao39 t284.length co39)) (fun _ hk => hk.2) (.slice Ao40 t287.length co40)) (fun _ hk => hk.2) (.slice Ao41 t290.length co41)) (fun _ h_ => h_.1))) (Kd.R_base ho0) hb); have n4_ := Aside0.mk (Kd.R_lower ho0 (below_size (by repeat (first | (with_reducible first | exact HB.out | apply below_alloc | apply pw_below_drewN | apply below_drew1 | refine below_set ?_ GE293.out) | exact HB.out)))); have n5_ := Aside0.mk (blk_below (g := gb293) (o := .cells #[.string t279, .slice Ao38 t280.length co38, .string t283, .slice Ao39 t284.length co39, .slice Ao40 t287.length co40, .slice Ao41 t290.length co41] 26 (0, 0)) (by (with_reducible repeat (first | refine blk_drewN ?_ _ | refine blk_drew ?_ | refine blk_alloc ?_ _)); refine blk_put (cs := #[.string t279, .slice Ao38 t280.length co38, .string t283, .slice Ao39 t284.length co39, .slice Ao40 t287.length co40, .slice none 0 0]) ?_ 5 _ rfl; (with_reducible repeat (first | refine blk_drewN ?_ _ | refine blk_drew ?_ | refine blk_alloc ?_ _)); refine blk_put (cs := #[.string t279, .slice Ao38 t280.length co38, .string t283, .slice Ao39 t284.length co39, .slice none 0 0, .slice none 0 0]) ?_ 4 _ rfl; (with_reducible repeat (first | refine blk_drewN ?_ _ | refine blk_drew ?_ | refine blk_alloc ?_ _)); refine blk_put (cs := #[.string t279, .slice Ao38 t280.length co38, .string t283, .slice none 0 0, .slice none 0 0, .slice none 0 0]) ?_ 3 _ rfl; (with_reducible repeat (first | refine blk_drewN ?_ _ | refine blk_drew ?_ | refine blk_alloc ?_ _)); refine blk_put (cs := #[.string t279, .slice Ao38 t280.length co38, .string (⟨#[]⟩ : ByteArray), .slice none 0 0, .slice none 0 0, .slice none 0 0]) ?_ 2 _ rfl; (with_reducible repeat (first | refine blk_drewN ?_ _ | refine blk_drew ?_ | refine blk_alloc ?_ _)); refine blk_put (cs := #[.string t279, .slice none 0 0, .string (⟨#[]⟩ : ByteArray), .slice none 0 0, .slice none 0 0, .slice none 0 0]) ?_ 1 _ rfl; (with_reducible repeat (first | refine blk_drewN ?_ _ | refine blk_drew ?_ | refine blk_alloc ?_ _)); refine blk_put (cs := #[.string (⟨#[]⟩ : ByteArray), .slice none 0 0, .string (⟨#[]⟩ : ByteArray), .slice none 0 0, .slice none 0 0, .slice none 0 0]) ?_ 0 _ rfl; (with_reducible repeat (first | refine blk_drewN ?_ _ | refine blk_drew ?_ | refine blk_alloc ?_ _)); exact BK293.out) hb); have n6_ := Aside0.mk (below_step (by repeat (first | (with_reducible first | exact HB.out | apply below_alloc | apply pw_below_drewN | apply below_drew1 | refine below_set ?_ GE293.out) | exact HB.out)) hb); clear HO282; clear HO286; clear HO289; clear HO292; clear BK293; clear HB; have HO282 := n0_; have HO286 := n1_; have HO289 := n2_; have HO292 := n3_; have HO296 := n4_; have BK293 := n5_; have HB := n6_; clear n0_ n1_ n2_ n3_ n4_ n5_ n6_; (try clear hb); (try clear hb2); (try clear hk); (try clear hi); (try clear ho0); have hcz43_0 : w42.cell? ⟨gb293, 0, none⟩ = some (.string t279) := (blk_cell BK293.out 0).trans rfl; have hcz43_1 : w42.cell? ⟨gb293, 1, none⟩ = some (.slice Ao38 t280.length co38) := (blk_cell BK293.out 1).trans rfl; have hcz43_2 : w42.cell? ⟨gb293, 2, none⟩ = some (.string t283) := (blk_cell BK293.out 2).trans rfl; have hcz43_3 : w42.cell? ⟨gb293, 3, none⟩ = some (.slice Ao39 t284.length co39) := (blk_cell BK293.out 3).trans rfl; have hcz43_4 : w42.cell? ⟨gb293, 4, none⟩ = some (.slice Ao40 t287.length co40) := (blk_cell BK293.out 4).trans rfl; have hcz43_5 : w42.cell? ⟨gb293, 5, none⟩ = some (.slice Ao41 t290.length co41) := (blk_cell BK293.out 5).trans rfl; have hfz43_0 := blk_frozen BK293.out 0; have hfz43_1 := blk_frozen BK293.out 1; have hfz43_2 := blk_frozen BK293.out 2; have hfz43_3 := blk_frozen BK293.out 3; have hfz43_4 := blk_frozen BK293.out 4; have hfz43_5 := blk_frozen BK293.out 5) | ((with_reducible refine gate_callee (f := 16) rfl ?_); refine goesL_ (some 11) rfl rfl Try.func16 (by kernel_rfl) rfl #[.agg #[.string t279, .slice Ao38 t280.length co38, .string t283, .slice Ao39 t284.length co39, .slice Ao40 t287.length co40, .slice Ao41 t290.length co41]] rfl (by (try simp only [List.map_toArray, List.map_cons, List.map_nil]); first | done | rfl | (simp only [List.length_drop, List.length_take]; rfl)) ?_; (with_reducible refine (flow_Ahead.calls k t279 _ _ t280 t283 _ _ t284 _ _ t287 _ _ t290 t297 _ ?side1 ?side2 ?side3 ?side4 ?side5 ?side6 ?side7 ?side8 A3.out).mono ?_); (case side1 => repeat (first | exact (Kd.R_reads' HO282.out).2.2 | (with_reducible refine Kd.C_alloc ?_ _) | (with_reducible refine Kd.C_drewN ?_ _) | (with_reducible refine Kd.C_drew ?_))); (case side2 => exact (Kd.R_reads' HO282.out).2.1); (case side3 => repeat (first | exact (Kd.R_reads' HO286.out).2.2 | (with_reducible refine Kd.C_alloc ?_ _) | (with_reducible refine Kd.C_drewN ?_ _) | (with_reducible refine Kd.C_drew ?_))); (case side4 => exact (Kd.R_reads' HO286.out).2.1); (case side5 => repeat (first | exact (Kd.N_reads' HO289.out).2.2 | (with_reducible refine Kd.C_alloc ?_ _) | (with_reducible refine Kd.C_drewN ?_ _) | (with_reducible refine Kd.C_drew ?_))); (case side6 => exact (Kd.N_reads' HO289.out).2.1); (case side7 => repeat (first | exact (Kd.N_reads' HO292.out).2.2 | (with_reducible refine Kd.C_alloc ?_ _) | (with_reducible refine Kd.C_drewN ?_ _) | (with_reducible refine Kd.C_drew ?_))); (case side8 => exact (Kd.N_reads' HO292.out).2.1); rintro e w44 ⟨v298, rfl, ho0, hb⟩; refine ⟨_, rfl, ?_⟩; have n0_ := Aside0.mk (Kd.R_below (by (with_reducible repeat (first | apply Kd.R_alloc | apply Kd.R_drewN | apply Kd.R_drew)); exact HO282.out) hb); have n1_ := Aside0.mk (Kd.R_below (by (with_reducible repeat (first | apply Kd.R_alloc | apply Kd.R_drewN | apply Kd.R_drew)); exact HO286.out) hb); have n2_ := Aside0.mk (Kd.N_elder' (by (with_reducible repeat (first | apply Kd.N_alloc | apply Kd.N_drewN | apply Kd.N_drew)); exact HO289.out) (by first | exact Kd.N_base ho0 | exact Kd.S_base ho0 | exact Kd.R_base ho0) hb); have n3_ := Aside0.mk (Kd.N_elder' (by (with_reducible repeat (first | apply Kd.N_alloc | apply Kd.N_drewN | apply Kd.N_drew)); exact HO292.out) (by first | exact Kd.N_base ho0 | exact Kd.S_base ho0 | exact Kd.R_base ho0) hb); have n4_ := Aside0.mk (Kd.R_below (by (with_reducible repeat (first | apply Kd.R_alloc | apply Kd.R_drewN | apply Kd.R_drew)); exact HO296.out) hb); have n5_ := Aside0.mk (Kd.N_lower (Kd.N_mono (ok' := fun k_ => some k_ ≠ (.slice Ao38 t280.length co38 : Value).ownBlock ∧ some k_ ≠ (.slice Ao39 t284.length co39 : Value).ownBlock ∧ some k_ ≠ (.slice Ao40 t287.length co40 : Value).ownBlock ∧ some k_ ≠ (.slice Ao41 t290.length co41 : Value).ownBlock ∧ some k_ ≠ (v295 : Value).ownBlock ∧ k_ ≠ gb293) (Kd.S_N (Kd.S_bound ho0)) (fun k_ hk_ => ⟨(Kd.fresh' (Kd.R_lt (by (with_reducible repeat (first | apply Kd.R_alloc | apply Kd.R_drewN | apply Kd.R_drew)); exact HO282.out)) k_ hk_.2.1), (Kd.fresh' (Kd.R_lt (by (with_reducible repeat (first | apply Kd.R_alloc | apply Kd.R_drewN | apply Kd.R_drew)); exact HO286.out)) k_ hk_.2.1), (Kd.fresh' (Kd.N_lt (by (with_reducible repeat (first | apply Kd.N_alloc | apply Kd.N_drewN | apply Kd.N_drew)); exact HO289.out)) k_ hk_.2.1), (Kd.fresh' (Kd.N_lt (by (with_reducible repeat (first | apply Kd.N_alloc | apply Kd.N_drewN | apply Kd.N_drew)); exact HO292.out)) k_ hk_.2.1), (Kd.fresh' (Kd.R_lt (by (with_reducible repeat (first | apply Kd.R_alloc | apply Kd.R_drewN | apply Kd.R_drew)); exact HO296.out)) k_ hk_.2.1), (Kd.freshB (g := gb293) (o := .cells #[.string t279, .slice Ao38 t280.length co38, .string t283, .slice Ao39 t284.length co39, .slice Ao40 t287.length co40, .slice Ao41 t290.length co41] 26 (0, 0)) (by (with_reducible repeat (first | refine blk_drewN ?_ _ | refine blk_drew ?_ | refine blk_alloc ?_ _)); exact BK293.out) k_ hk_.2.1)⟩)) (below_size (by repeat (first | (with_reducible first | exact HB.out | apply below_alloc | apply pw_below_drewN | apply below_drew1 | refine below_set ?_ GE293.out) | exact HB.out)))); have n6_ := Aside0.mk (blk_below (g := gb293) (o := .cells #[.string t279, .slice Ao38 t280.length co38, .string t283, .slice Ao39 t284.length co39, .slice Ao40 t287.length co40, .slice Ao41 t290.length co41] 26 (0, 0)) (by (with_reducible repeat (first | refine blk_drewN ?_ _ | refine blk_drew ?_ | refine blk_alloc ?_ _)); exact BK293.out) hb); have n7_ := Aside0.mk (below_step (by repeat (first | (with_reducible first | exact HB.out | apply below_alloc | apply pw_below_drewN | apply below_drew1 | refine below_set ?_ GE293.out) | exact HB.out)) hb); clear HO282; clear HO286; clear HO289; clear HO292; clear HO296; clear BK293; clear HB; have HO282 := n0_; have HO286 := n1_; have HO289 := n2_; have HO292 := n3_; have HO296 := n4_; have HO299 := n5_; have BK293 := n6_; have HB := n7_; clear n0_ n1_ n2_ n3_ n4_ n5_ n6_ n7_; (try clear hb); (try clear hb2); (try clear hk); (try clear hi); (try clear ho0); have hcz45_0 : w44.cell? ⟨gb293, 0, none⟩ = some (.string t279) := (blk_cell BK293.out 0).trans rfl; have hcz45_1 : w44.cell? ⟨gb293, 1, none⟩ = some (.slice Ao38 t280.length co38) := (blk_cell BK293.out 1).trans rfl; have hcz45_2 : w44.cell? ⟨gb293, 2, none⟩ = some (.string t283) := (blk_cell BK293.out 2).trans rfl; have hcz45_3 : w44.cell? ⟨gb293, 3, none⟩ = some (.slice Ao39 t284.length co39) := (blk_cell BK293.out 3).trans rfl; have hcz45_4 : w44.cell? ⟨gb293, 4, none⟩ = some (.slice Ao40 t287.length co40) := (blk_cell BK293.out 4).trans rfl; have hcz45_5 : w44.cell? ⟨gb293, 5, none⟩ = some (.slice Ao41 t290.length co41) := (blk_cell BK293.out 5).trans rfl; have hfz45_0 := blk_frozen BK293.out 0; have hfz45_1 := blk_frozen BK293.out 1; have hfz45_2 := blk_frozen BK293.out 2; have hfz45_3 := blk_frozen BK293.out 3; have hfz45_4 := blk_frozen BK293.out 4; have hfz45_5 := blk_frozen BK293.out 5) | ((with_reducible refine gate_callee (f := 25) rfl ?_); refine goesL_ (some 13) rfl rfl Try.func25 (by kernel_rfl) rfl #[.agg #[.string t279, .slice Ao38 t280.length co38, .string t283, .slice Ao39 t284.length co39, .slice Ao40 t287.length co40, .slice Ao41 t290.length co41]] rfl (by (try simp only [List.map_toArray, List.map_cons, List.map_nil]); first | done | rfl | (simp only [List.length_drop, List.length_take]; rfl)) ?_; (with_reducible refine (flow_Where.calls k t279 _ _ t280 t283 _ _ t284 _ _ t287 _ _ t290 t300 _ ?side1 ?side2 ?side3 ?side4 ?side5 ?side6 ?side7 ?side8 A4.out).mono ?_); (case side1 => repeat (first | exact (Kd.R_reads' HO282.out).2.2 | (with_reducible refine Kd.C_alloc ?_ _) | (with_reducible refine Kd.C_drewN ?_ _) | (with_reducible refine Kd.C_drew ?_))); (case side2 => exact (Kd.R_reads' HO282.out).2.1); (case side3 => repeat (first | exact (Kd.R_reads' HO286.out).2.2 | (with_reducible refine Kd.C_alloc ?_ _) | (with_reducible refine Kd.C_drewN ?_ _) | (with_reducible refine Kd.C_drew ?_))); (case side4 => exact (Kd.R_reads' HO286.out).2.1); (case side5 => repeat (first | exact (Kd.N_reads' HO289.out).2.2 | (with_reducible refine Kd.C_alloc ?_ _) | (with_reducible refine Kd.C_drewN ?_ _) | (with_reducible refine Kd.C_drew ?_))); (case side6 => exact (Kd.N_reads' HO289.out).2.1); (case side7 => repeat (first | exact (Kd.N_reads' HO292.out).2.2 | (with_reducible refine Kd.C_alloc ?_ _) | (with_reducible refine Kd.C_drewN ?_ _) | (with_reducible refine Kd.C_drew ?_))); (case side8 => exact (Kd.N_reads' HO292.out).2.1); rintro e w46 ⟨v301, rfl, ho0, hb⟩; refine ⟨_, rfl, ?_⟩; have n0_ := Aside0.mk (Kd.R_below (by (with_reducible repeat (first | apply Kd.R_alloc | apply Kd.R_drewN | apply Kd.R_drew)); exact HO282.out) hb); have n1_ := Aside0.mk (Kd.R_below (by (with_reducible repeat (first | apply Kd.R_alloc | apply Kd.R_drewN | apply Kd.R_drew)); exact HO286.out) hb); have n2_ := Aside0.mk (Kd.N_elder' (by (with_reducible repeat (first | apply Kd.N_alloc | apply Kd.N_drewN | apply Kd.N_drew)); exact HO289.out) (Kd.R_base ho0) hb); have n3_ := Aside0.mk (Kd.N_elder' (by (with_reducible repeat (first | apply Kd.N_alloc | apply Kd.N_drewN | apply Kd.N_drew)); exact HO292.out) (Kd.R_base ho0) hb); have n4_ := Aside0.mk (Kd.R_elder' (by (with_reducible repeat (first | apply Kd.R_alloc | apply Kd.R_drewN | apply Kd.R_drew)); exact HO296.out) (Kd.R_base ho0) hb); have n5_ := Aside0.mk (Kd.N_elder' (by (with_reducible repeat (first | apply Kd.N_alloc | apply Kd.N_drewN | apply Kd.N_drew)); exact HO299.out) (Kd.R_base ho0) hb); have n6_ := Aside0.mk (Kd.R_lower (Kd.R_new' ho0 (Kd.R_lt (by (with_reducible repeat (first | apply Kd.R_alloc | apply Kd.R_drewN | apply Kd.R_drew)); exact HO296.out))) (below_size (by repeat (first | (with_reducible first | exact HB.out | apply below_alloc | apply pw_below_drewN | apply below_drew1 | refine below_set ?_ GE293.out) | exact HB.out)))); have n7_ := Aside0.mk (blk_below (g := gb293) (o := .cells #[.string t279, .slice Ao38 t280.length co38, .string t283, .slice Ao39 t284.length co39, .slice Ao40 t287.length co40, .slice Ao41 t290.length co41] 26 (0, 0)) (by (with_reducible repeat (first | refine blk_drewN ?_ _ | refine blk_drew ?_ | refine blk_alloc ?_ _)); exact BK293.out) hb); have n8_ := Aside0.mk (below_step (by repeat (first | (with_reducible first | exact HB.out | apply below_alloc | apply pw_below_drewN | apply below_drew1 | refine below_set ?_ GE293.out) | exact HB.out)) hb); clear HO282; clear HO286; clear HO289; clear HO292; clear HO296; clear HO299; clear BK293; clear HB; have HO282 := n0_; have HO286 := n1_; have HO289 := n2_; have HO292 := n3_; have HO296 := n4_; have HO299 := n5_; have HO302 := n6_; have BK293 := n7_; have HB := n8_; clear n0_ n1_ n2_ n3_ n4_ n5_ n6_ n7_ n8_; (try clear hb); (try clear hb2); (try clear hk); (try clear hi); (try clear ho0); have hcz47_0 : w46.cell? ⟨gb293, 0, none⟩ = some (.string t279) := (blk_cell BK293.out 0).trans rfl; have hcz47_1 : w46.cell? ⟨gb293, 1, none⟩ = some (.slice Ao38 t280.length co38) := (blk_cell BK293.out 1).trans rfl; have hcz47_2 : w46.cell? ⟨gb293, 2, none⟩ = some (.string t283) := (blk_cell BK293.out 2).trans rfl; have hcz47_3 : w46.cell? ⟨gb293, 3, none⟩ = some (.slice Ao39 t284.length co39) := (blk_cell BK293.out 3).trans rfl; have hcz47_4 : w46.cell? ⟨gb293, 4, none⟩ = some (.slice Ao40 t287.length co40) := (blk_cell BK293.out 4).trans rfl; have hcz47_5 : w46.cell? ⟨gb293, 5, none⟩ = some (.slice Ao41 t290.length co41) := (blk_cell BK293.out 5).trans rfl; have hfz47_0 := blk_frozen BK293.out 0; have hfz47_1 := blk_frozen BK293.out 1; have hfz47_2 := blk_frozen BK293.out 2; have hfz47_3 := blk_frozen BK293.out 3; have hfz47_4 := blk_frozen BK293.out 4; have hfz47_5 := blk_frozen BK293.out 5) | ((with_reducible refine gate_callee (f := 17) rfl ?_); refine goesL_ (some 15) rfl rfl Try.func17 (by kernel_rfl) rfl #[.agg #[.string t279, .slice Ao38 t280.length co38, .string t283, .slice Ao39 t284.length co39, .slice Ao40 t287.length co40, .slice Ao41 t290.length co41]] rfl (by (try simp only [List.map_toArray, List.map_cons, List.map_nil]); first | done | rfl | (simp only [List.length_drop, List.length_take]; rfl)) ?_; (with_reducible refine (flow_Reached.calls t279 _ _ t280 t283 _ _ t284 _ _ t287 _ _ t290 t303 _ ?side1 ?side2 ?side3 ?side4 ?side5 ?side6 ?side7 ?side8 A5.out).mono ?_); (case side1 => repeat (first | exact (Kd.R_reads' HO282.out).2.2 | (with_reducible refine Kd.C_alloc ?_ _) | (with_reducible refine Kd.C_drewN ?_ _) | (with_reducible refine Kd.C_drew ?_))); (case side2 => exact (Kd.R_reads' HO282.out).2.1); (case side3 => repeat (first | exact (Kd.R_reads' HO286.out).2.2 | (with_reducible refine Kd.C_alloc ?_ _) | (with_reducible refine Kd.C_drewN ?_ _) | (with_reducible refine Kd.C_drew ?_))); (case side4 => exact (Kd.R_reads' HO286.out).2.1); (case side5 => repeat (first | exact (Kd.N_reads' HO289.out).2.2 | (with_reducible refine Kd.C_alloc ?_ _) | (with_reducible refine Kd.C_drewN ?_ _) | (with_reducible refine Kd.C_drew ?_))); (case side6 => exact (Kd.N_reads' HO289.out).2.1); (case side7 => repeat (first | exact (Kd.N_reads' HO292.out).2.2 | (with_reducible refine Kd.C_alloc ?_ _) | (with_reducible refine Kd.C_drewN ?_ _) | (with_reducible refine Kd.C_drew ?_))); (case side8 => exact (Kd.N_reads' HO292.out).2.1); rintro e w48 ⟨v304, rfl, ho0, hb⟩; refine ⟨_, rfl, ?_⟩; have n0_ := Aside0.mk (Kd.R_below (by (with_reducible repeat (first | apply Kd.R_alloc | apply Kd.R_drewN | apply Kd.R_drew)); exact HO282.out) hb); have n1_ := Aside0.mk (Kd.R_below (by (with_reducible repeat (first | apply Kd.R_alloc | apply Kd.R_drewN | apply Kd.R_drew)); exact HO286.out) hb); have n2_ := Aside0.mk (Kd.N_elder' (by (with_reducible repeat (first | apply Kd.N_alloc | apply Kd.N_drewN | apply Kd.N_drew)); exact HO289.out) (Kd.R_base ho0) hb); have n3_ := Aside0.mk (Kd.N_elder' (by (with_reducible repeat (first | apply Kd.N_alloc | apply Kd.N_drewN | apply Kd.N_drew)); exact HO292.out) (Kd.R_base ho0) hb); have n4_ := Aside0.mk (Kd.R_below (by (with_reducible repeat (first | apply Kd.R_alloc | apply Kd.R_drewN | apply Kd.R_drew)); exact HO296.out) hb); have n5_ := Aside0.mk (Kd.N_elder' (by (with_reducible repeat (first | apply Kd.N_alloc | apply Kd.N_drewN | apply Kd.N_drew)); exact HO299.out) (Kd.R_base ho0) hb); have n6_ := Aside0.mk (Kd.R_below (by (with_reducible repeat (first | apply Kd.R_alloc | apply Kd.R_drewN | apply Kd.R_drew)); exact HO302.out) hb); have n7_ := Aside0.mk (Kd.R_lower ho0 (below_size (by repeat (first | (with_reducible first | exact HB.out | apply below_alloc | apply pw_below_drewN | apply below_drew1 | refine below_set ?_ GE293.out) | exact HB.out)))); have n8_ := Aside0.mk (blk_below (g := gb293) (o := .cells #[.string t279, .slice Ao38 t280.length co38, .string t283, .slice Ao39 t284.length co39, .slice Ao40 t287.length co40, .slice Ao41 t290.length co41] 26 (0, 0)) (by (with_reducible repeat (first | refine blk_drewN ?_ _ | refine blk_drew ?_ | refine blk_alloc ?_ _)); exact BK293.out) hb); have n9_ := Aside0.mk (below_step (by repeat (first | (with_reducible first | exact HB.out | apply below_alloc | apply pw_below_drewN | apply below_drew1 | refine below_set ?_ GE293.out) | exact HB.out)) hb); clear HO282; clear HO286; clear HO289; clear HO292; clear HO296; clear HO299; clear HO302; clear BK293; clear HB; have HO282 := n0_; have HO286 := n1_; have HO289 := n2_; have HO292 := n3_; have HO296 := n4_; have HO299 := n5_; have HO302 := n6_; have HO305 := n7_; have BK293 := n8_; have HB := n9_; clear n0_ n1_ n2_ n3_ n4_ n5_ n6_ n7_ n8_ n9_; (try clear hb); (try clear hb2); (try clear hk); (try clear hi); (try clear ho0); have hcz49_0 : w48.cell? ⟨gb293, 0, none⟩ = some (.string t279) := (blk_cell BK293.out 0).trans rfl; have hcz49_1 : w48.cell? ⟨gb293, 1, none⟩ = some (.slice Ao38 t280.length co38) := (blk_cell BK293.out 1).trans rfl; have hcz49_2 : w48.cell? ⟨gb293, 2, none⟩ = some (.string t283) := (blk_cell BK293.out 2).trans rfl; have hcz49_3 : w48.cell? ⟨gb293, 3, none⟩ = some (.slice Ao39 t284.length co39) := (blk_cell BK293.out 3).trans rfl; have hcz49_4 : w48.cell? ⟨gb293, 4, none⟩ = some (.slice Ao40 t287.length co40) := (blk_cell BK293.out 4).trans rfl; have hcz49_5 : w48.cell? ⟨gb293, 5, none⟩ = some (.slice Ao41 t290.length co41) := (blk_cell BK293.out 5).trans rfl; have hfz49_0 := blk_frozen BK293.out 0; have hfz49_1 := blk_frozen BK293.out 1; have hfz49_2 := blk_frozen BK293.out 2; have hfz49_3 := blk_frozen BK293.out 3; have hfz49_4 := blk_frozen BK293.out 4; have hfz49_5 := blk_frozen BK293.out 5) | ((with_reducible refine gate_callee (f := 20) rfl ?_); refine goesL_ (some 17) rfl rfl Try.func20 (by kernel_rfl) rfl #[.agg #[.string t279, .slice Ao38 t280.length co38, .string t283, .slice Ao39 t284.length co39, .slice Ao40 t287.length co40, .slice Ao41 t290.length co41], .int .i64 0] rfl (by (try simp only [List.map_toArray, List.map_cons, List.map_nil]); first | done | rfl | (simp only [List.length_drop, List.length_take]; rfl)) ?_; (with_reducible refine (flow_Next.calls t279 _ _ t280 t283 _ _ t284 _ _ t287 _ _ t290 0 t306 _ ?side1 ?side2 ?side3 ?side4 ?side5 ?side6 ?side7 ?side8 A6.out).mono ?_); (case side1 => repeat (first | exact (Kd.R_reads' HO282.out).2.2 | (with_reducible refine Kd.C_alloc ?_ _) | (with_reducible refine Kd.C_drewN ?_ _) | (with_reducible refine Kd.C_drew ?_))); (case side2 => exact (Kd.R_reads' HO282.out).2.1); (case side3 => repeat (first | exact (Kd.R_reads' HO286.out).2.2 | (with_reducible refine Kd.C_alloc ?_ _) | (with_reducible refine Kd.C_drewN ?_ _) | (with_reducible refine Kd.C_drew ?_))); (case side4 => exact (Kd.R_reads' HO286.out).2.1); (case side5 => repeat (first | exact (Kd.N_reads' HO289.out).2.2 | (with_reducible refine Kd.C_alloc ?_ _) | (with_reducible refine Kd.C_drewN ?_ _) | (with_reducible refine Kd.C_drew ?_))); (case side6 => exact (Kd.N_reads' HO289.out).2.1); (case side7 => repeat (first | exact (Kd.N_reads' HO292.out).2.2 | (with_reducible refine Kd.C_alloc ?_ _) | (with_reducible refine Kd.C_drewN ?_ _) | (with_reducible refine Kd.C_drew ?_))); (case side8 => exact (Kd.N_reads' HO292.out).2.1); rintro e w50 ⟨v307, rfl, ho0, hb⟩; refine ⟨_, rfl, ?_⟩; have n0_ := Aside0.mk (Kd.R_below (by (with_reducible repeat (first | apply Kd.R_alloc | apply Kd.R_drewN | apply Kd.R_drew)); exact HO282.out) hb); have n1_ := Aside0.mk (Kd.R_below (by (with_reducible repeat (first | apply Kd.R_alloc | apply Kd.R_drewN | apply Kd.R_drew)); exact HO286.out) hb); have n2_ := Aside0.mk (Kd.N_elder' (by (with_reducible repeat (first | apply Kd.N_alloc | apply Kd.N_drewN | apply Kd.N_drew)); exact HO289.out) (Kd.R_base ho0) hb); have n3_ := Aside0.mk (Kd.N_elder' (by (with_reducible repeat (first | apply Kd.N_alloc | apply Kd.N_drewN | apply Kd.N_drew)); exact HO292.out) (Kd.R_base ho0) hb); have n4_ := Aside0.mk (Kd.R_elder' (by (with_reducible repeat (first | apply Kd.R_alloc | apply Kd.R_drewN | apply Kd.R_drew)); exact HO296.out) (Kd.R_base ho0) hb); have n5_ := Aside0.mk (Kd.N_elder' (by (with_reducible repeat (first | apply Kd.N_alloc | apply Kd.N_drewN | apply Kd.N_drew)); exact HO299.out) (Kd.R_base ho0) hb); have n6_ := Aside0.mk (Kd.R_elder' (by (with_reducible repeat (first | apply Kd.R_alloc | apply Kd.R_drewN | apply Kd.R_drew)); exact HO302.out) (Kd.R_base ho0) hb); have n7_ := Aside0.mk (Kd.R_below (by (with_reducible repeat (first | apply Kd.R_alloc | apply Kd.R_drewN | apply Kd.R_drew)); exact HO305.out) hb); have n8_ := Aside0.mk (Kd.R_lower (Kd.R_new' (Kd.R_new' ho0 (Kd.R_lt (by (with_reducible repeat (first | apply Kd.R_alloc | apply Kd.R_drewN | apply Kd.R_drew)); exact HO296.out))) (Kd.R_lt (by (with_reducible repeat (first | apply Kd.R_alloc | apply Kd.R_drewN | apply Kd.R_drew)); exact HO302.out))) (below_size (by repeat (first | (with_reducible first | exact HB.out | apply below_alloc | apply pw_below_drewN | apply below_drew1 | refine below_set ?_ GE293.out) | exact HB.out)))); have n9_ := Aside0.mk (blk_below (g := gb293) (o := .cells #[.string t279, .slice Ao38 t280.length co38, .string t283, .slice Ao39 t284.length co39, .slice Ao40 t287.length co40, .slice Ao41 t290.length co41] 26 (0, 0)) (by (with_reducible repeat (first | refine blk_drewN ?_ _ | refine blk_drew ?_ | refine blk_alloc ?_ _)); exact BK293.out) hb); have n10_ := Aside0.mk (below_step (by repeat (first | (with_reducible first | exact HB.out | apply below_alloc | apply pw_below_drewN | apply below_drew1 | refine below_set ?_ GE293.out) | exact HB.out)) hb); clear HO282; clear HO286; clear HO289; clear HO292; clear HO296; clear HO299; clear HO302; clear HO305; clear BK293; clear HB; have HO282 := n0_; have HO286 := n1_; have HO289 := n2_; have HO292 := n3_; have HO296 := n4_; have HO299 := n5_; have HO302 := n6_; have HO305 := n7_; have HO308 := n8_; have BK293 := n9_; have HB := n10_; clear n0_ n1_ n2_ n3_ n4_ n5_ n6_ n7_ n8_ n9_ n10_; (try clear hb); (try clear hb2); (try clear hk); (try clear hi); (try clear ho0); obtain ⟨Ao51, co51, eo51⟩ := Kd.R_slice HO296.out; subst eo51; have p309 : 0 ≤ (0 : Int) := (by omega); have q309 : 0 < (t294.length : Int) := of_decide_eq_true (by first | (with_reducible assumption) | assumption); obtain ⟨ad309, e309, hx309_0⟩ := Kd.at_int (Kd.R_reads' HO296.out).2.2 0 p309 q309; cases e309; have qi309 : (0 < t294.length) = True := eq_true (by omega); (try rw [show ((0 : Int)).toNat = 0 from rfl] at hx309_0); (try rw [Addr.add_zero'] at hx309_0); replace p309 := eq_true p309; replace q309 := eq_true q309; have p310 : 0 ≤ (1 : Int) := (by omega); have q310 : 1 < (t294.length : Int) := of_decide_eq_true (by first | (with_reducible assumption) | assumption); obtain ⟨ad310, e310, hx310_0⟩ := Kd.at_int (Kd.R_reads' HO296.out).2.2 1 p310 q310; obtain rfl : ad309 = ad310 := (by injection e310); (try simp only [show (1 : Int).toNat = 1 from rfl, Nat.reduceMul, Nat.reduceEqDiff, Go.Addr.add, ↓reduceIte] at hx310_0); have qi310 : (1 < t294.length) = True := eq_true (by omega); (try rw [show ((1 : Int)).toNat = 1 from rfl] at hx310_0); replace p310 := eq_true p310; replace q310 := eq_true q310; have p311 : 0 ≤ (2 : Int) := (by omega); have q311 : 2 < (t294.length : Int) := of_decide_eq_true (by first | (with_reducible assumption) | assumption); obtain ⟨ad311, e311, hx311_0⟩ := Kd.at_int (Kd.R_reads' HO296.out).2.2 2 p311 q311; obtain rfl : ad309 = ad311 := (by injection e311); (try simp only [show (2 : Int).toNat = 2 from rfl, Nat.reduceMul, Nat.reduceEqDiff, Go.Addr.add, ↓reduceIte] at hx311_0); have qi311 : (2 < t294.length) = True := eq_true (by omega); (try rw [show ((2 : Int)).toNat = 2 from rfl] at hx311_0); replace p311 := eq_true p311; replace q311 := eq_true q311; have p312 : 0 ≤ (3 : Int) := (by omega); have q312 : 3 < (t294.length : Int) := of_decide_eq_true (by first | (with_reducible assumption) | assumption); obtain ⟨ad312, e312, hx312_0⟩ := Kd.at_int (Kd.R_reads' HO296.out).2.2 3 p312 q312; obtain rfl : ad309 = ad312 := (by injection e312); (try simp only [show (3 : Int).toNat = 3 from rfl, Nat.reduceMul, Nat.reduceEqDiff, Go.Addr.add, ↓reduceIte] at hx312_0); have qi312 : (3 < t294.length) = True := eq_true (by omega); (try rw [show ((3 : Int)).toNat = 3 from rfl] at hx312_0); replace p312 := eq_true p312; replace q312 := eq_true q312; obtain ⟨Ao52, co52, eo52⟩ := Kd.N_slice HO299.out; subst eo52; have p313 : 0 ≤ (3 : Int) := (by omega); have q313 : 3 < (t297.length : Int) := of_decide_eq_true (by first | (with_reducible assumption) | assumption); obtain ⟨ad313, A313_0, c313_0, e313, hx313_0, hl313_0, hi313_0⟩ := at_L2 (Kd.N_reads' HO299.out).2.2 3 p313 q313; cases e313; obtain ⟨ce313, hce313, hMe313, hcc313⟩ := Kd.N_get HO299.out [] 3 p313 (by first | exact q313 | exact of_decide_eq_true (by first | (with_reducible assumption) | assumption) | (have e_ := (Kd.N_reads' HO299.out).1; omega)); obtain ⟨ua313_0, uc313_0, rfl, ul313_0, ge313_0⟩ := Kd.FK_slice_open hMe313; have hv313_0 := hcc313 0 _ rfl; rw [Nat.add_zero, show ((Kd.slice 3 (Kd.int .i64))).sz = 1 from rfl, Nat.mul_one] at hv313_0; replace hv313_0 := Option.some.inj (hv313_0.symm.trans hx313_0); injection hv313_0 with hva_ hvn_ hvc_; rw [hva_] at ge313_0; rw [hvc_] at ul313_0; have HL313_0 := Aside0.mk (show Kd.V (Kd.int .i64) 3 _ w.heap.size _ _ (rd_L2 t297 3) from Kd.V_mk ul313_0 ge313_0); clear hva_ hvn_ hvc_ ge313_0 ul313_0; clear hcc313 hce313; (try simp only [show (3 : Int).toNat = 3 from rfl, Nat.reduceMul, Nat.reduceEqDiff, Go.Addr.add, ↓reduceIte] at hx313_0); have qi313 : (3 < t297.length) = True := eq_true (by omega); (try rw [show ((3 : Int)).toNat = 3 from rfl] at hx313_0); have HR313_0 := Aside0.mk hi313_0; have HC313_0 := Aside0.mk hl313_0; clear hi313_0 hl313_0; replace p313 := eq_true p313; replace q313 := eq_true q313; have p314 : 0 ≤ (0 : Int) := (by omega); have q314 : 0 < (t297.length : Int) := of_decide_eq_true (by first | (with_reducible assumption) | assumption); obtain ⟨ad314, A314_0, c314_0, e314, hx314_0, hl314_0, hi314_0⟩ := at_L2 (Kd.N_reads' HO299.out).2.2 0 p314 q314; obtain rfl : ad313 = ad314 := (by injection e314); obtain ⟨ce314, hce314, hMe314, hcc314⟩ := Kd.N_get HO299.out [] 0 p314 (by first | exact q314 | exact of_decide_eq_true (by first | (with_reducible assumption) | assumption) | (have e_ := (Kd.N_reads' HO299.out).1; omega)); obtain ⟨ua314_0, uc314_0, rfl, ul314_0, ge314_0⟩ := Kd.FK_slice_open hMe314; have hv314_0 := hcc314 0 _ rfl; rw [Nat.add_zero, show ((Kd.slice 3 (Kd.int .i64))).sz = 1 from rfl, Nat.mul_one] at hv314_0; replace hv314_0 := Option.some.inj (hv314_0.symm.trans hx314_0); injection hv314_0 with hva_ hvn_ hvc_; rw [hva_] at ge314_0; rw [hvc_] at ul314_0; have HL314_0 := Aside0.mk (show Kd.V (Kd.int .i64) 3 _ w.heap.size _ _ (rd_L2 t297 0) from Kd.V_mk ul314_0 ge314_0); clear hva_ hvn_ hvc_ ge314_0 ul314_0; clear hcc314 hce314; have qi314 : (0 < t297.length) = True := eq_true (by omega); (try rw [show ((0 : Int)).toNat = 0 from rfl] at hx314_0); (try rw [Addr.add_zero'] at hx314_0); have HR314_0 := Aside0.mk hi314_0; have HC314_0 := Aside0.mk hl314_0; clear hi314_0 hl314_0; replace p314 := eq_true p314; replace q314 := eq_true q314; obtain ⟨Ao53, co53, eo53⟩ := Kd.R_slice HO302.out; subst eo53; have p315 : 0 ≤ (0 : Int) := (by omega); have q315 : 0 < (t300.length : Int) := of_decide_eq_true (by first | (with_reducible assumption) | assumption); obtain ⟨ad315, e315, hx315_0⟩ := Kd.at_int (Kd.R_reads' HO302.out).2.2 0 p315 q315; cases e315; have qi315 : (0 < t300.length) = True := eq_true (by omega); (try rw [show ((0 : Int)).toNat = 0 from rfl] at hx315_0); (try rw [Addr.add_zero'] at hx315_0); replace p315 := eq_true p315; replace q315 := eq_true q315; have p316 : 0 ≤ (1 : Int) := (by omega); have q316 : 1 < (t300.length : Int) := of_decide_eq_true (by first | (with_reducible assumption) | assumption); obtain ⟨ad316, e316, hx316_0⟩ := Kd.at_int (Kd.R_reads' HO302.out).2.2 1 p316 q316; obtain rfl : ad315 = ad316 := (by injection e316); (try simp only [show (1 : Int).toNat = 1 from rfl, Nat.reduceMul, Nat.reduceEqDiff, Go.Addr.add, ↓reduceIte] at hx316_0); have qi316 : (1 < t300.length) = True := eq_true (by omega); (try rw [show ((1 : Int)).toNat = 1 from rfl] at hx316_0); replace p316 := eq_true p316; replace q316 := eq_true q316; obtain ⟨Ao54, co54, eo54⟩ := Kd.R_slice HO305.out; subst eo54; have p317 : 0 ≤ (3 : Int) := (by omega); have q317 : 3 < (t303.length : Int) := of_decide_eq_true (by first | (with_reducible assumption) | assumption); obtain ⟨ad317, e317, hx317_0⟩ := Kd.at_bool (Kd.R_reads' HO305.out).2.2 3 p317 q317; (try rw [← Nbq28.out] at hx317_0); (try rw [← Nbq31.out] at hx317_0); cases e317; (try simp only [show (3 : Int).toNat = 3 from rfl, Nat.reduceMul, Nat.reduceEqDiff, Go.Addr.add, ↓reduceIte] at hx317_0); have qi317 : (3 < t303.length) = True := eq_true (by omega); (try rw [show ((3 : Int)).toNat = 3 from rfl] at hx317_0); replace p317 := eq_true p317; replace q317 := eq_true q317; have p318 : 0 ≤ (4 : Int) := (by omega); have q318 : 4 < (t303.length : Int) := of_decide_eq_true (by first | (with_reducible assumption) | assumption); obtain ⟨ad318, e318, hx318_0⟩ := Kd.at_bool (Kd.R_reads' HO305.out).2.2 4 p318 q318; (try rw [← Nbq28.out] at hx318_0); (try rw [← Nbq31.out] at hx318_0); obtain rfl : ad317 = ad318 := (by injection e318); (try simp only [show (4 : Int).toNat = 4 from rfl, Nat.reduceMul, Nat.reduceEqDiff, Go.Addr.add, ↓reduceIte] at hx318_0); have qi318 : (4 < t303.length) = True := eq_true (by omega); (try rw [show ((4 : Int)).toNat = 4 from rfl] at hx318_0); replace p318 := eq_true p318; replace q318 := eq_true q318; obtain ⟨Ao55, co55, eo55⟩ := Kd.R_slice HO308.out; subst eo55; have hcz56_0 : w50.cell? ⟨gb293, 0, none⟩ = some (.string t279) := (blk_cell BK293.out 0).trans rfl; have hcz56_1 : w50.cell? ⟨gb293, 1, none⟩ = some (.slice Ao38 t280.length co38) := (blk_cell BK293.out 1).trans rfl; have hcz56_2 : w50.cell? ⟨gb293, 2, none⟩ = some (.string t283) := (blk_cell BK293.out 2).trans rfl; have hcz56_3 : w50.cell? ⟨gb293, 3, none⟩ = some (.slice Ao39 t284.length co39) := (blk_cell BK293.out 3).trans rfl; have hcz56_4 : w50.cell? ⟨gb293, 4, none⟩ = some (.slice Ao40 t287.length co40) := (blk_cell BK293.out 4).trans rfl; have hcz56_5 : w50.cell? ⟨gb293, 5, none⟩ = some (.slice Ao41 t290.length co41) := (blk_cell BK293.out 5).trans rfl; have hfz56_0 := blk_frozen BK293.out 0; have hfz56_1 := blk_frozen BK293.out 1; have hfz56_2 := blk_frozen BK293.out 2; have hfz56_3 := blk_frozen BK293.out 3; have hfz56_4 := blk_frozen BK293.out 4; have hfz56_5 := blk_frozen BK293.out 5) | (go_at_call 26; (with_reducible refine (flow_Back.calls t279 _ _ t280 t283 _ _ t284 _ _ t287 _ _ t290 t319 _ ?side1 ?side2 ?side3 ?side4 ?side5 ?side6 ?side7 ?side8 A34.out).mono ?_); (case side1 => repeat (first | exact (Kd.R_reads' HO282.out).2.2 | (with_reducible refine Kd.C_alloc ?_ _) | (with_reducible refine Kd.C_drewN ?_ _) | (with_reducible refine Kd.C_drew ?_))); (case side2 => exact (Kd.R_reads' HO282.out).2.1); (case side3 => repeat (first | exact (Kd.R_reads' HO286.out).2.2 | (with_reducible refine Kd.C_alloc ?_ _) | (with_reducible refine Kd.C_drewN ?_ _) | (with_reducible refine Kd.C_drew ?_))); (case side4 => exact (Kd.R_reads' HO286.out).2.1); (case side5 => repeat (first | exact (Kd.N_reads' HO289.out).2.2 | (with_reducible refine Kd.C_alloc ?_ _) | (with_reducible refine Kd.C_drewN ?_ _) | (with_reducible refine Kd.C_drew ?_))); (case side6 => exact (Kd.N_reads' HO289.out).2.1); (case side7 => repeat (first | exact (Kd.N_reads' HO292.out).2.2 | (with_reducible refine Kd.C_alloc ?_ _) | (with_reducible refine Kd.C_drewN ?_ _) | (with_reducible refine Kd.C_drew ?_))); (case side8 => exact (Kd.N_reads' HO292.out).2.1); rintro e w57 ⟨v320, rfl, ho0, hb⟩; have n0_ := Aside0.mk (Kd.R_below (by (with_reducible repeat (first | apply Kd.R_alloc | apply Kd.R_drewN | apply Kd.R_drew)); exact HO282.out) hb); have n1_ := Aside0.mk (Kd.R_below (by (with_reducible repeat (first | apply Kd.R_alloc | apply Kd.R_drewN | apply Kd.R_drew)); exact HO286.out) hb); have n2_ := Aside0.mk (Kd.N_elder' (by (with_reducible repeat (first | apply Kd.N_alloc | apply Kd.N_drewN | apply Kd.N_drew)); exact HO289.out) (Kd.R_base ho0) hb); have n3_ := Aside0.mk (Kd.N_elder' (by (with_reducible repeat (first | apply Kd.N_alloc | apply Kd.N_drewN | apply Kd.N_drew)); exact HO292.out) (Kd.R_base ho0) hb); have n4_ := Aside0.mk (Kd.R_below (by (with_reducible repeat (first | apply Kd.R_alloc | apply Kd.R_drewN | apply Kd.R_drew)); exact HO296.out) hb); have n5_ := Aside0.mk (Kd.N_elder' (by (with_reducible repeat (first | apply Kd.N_alloc | apply Kd.N_drewN | apply Kd.N_drew)); exact HO299.out) (Kd.R_base ho0) hb); have n6_ := Aside0.mk (Kd.R_below (by (with_reducible repeat (first | apply Kd.R_alloc | apply Kd.R_drewN | apply Kd.R_drew)); exact HO302.out) hb); have n7_ := Aside0.mk (Kd.R_below (by (with_reducible repeat (first | apply Kd.R_alloc | apply Kd.R_drewN | apply Kd.R_drew)); exact HO305.out) hb); have n8_ := Aside0.mk (Kd.R_below (by (with_reducible repeat (first | apply Kd.R_alloc | apply Kd.R_drewN | apply Kd.R_drew)); exact HO308.out) hb); have n9_ := Aside0.mk (Kd.V_elder' (by (with_reducible repeat (first | apply Kd.V_alloc | apply Kd.V_drewN | apply Kd.V_drew)); exact HL313_0.out) (Kd.R_base ho0) hb); have n10_ := Aside0.mk (Kd.V_elder' (by (with_reducible repeat (first | apply Kd.V_alloc | apply Kd.V_drewN | apply Kd.V_drew)); exact HL314_0.out) (Kd.R_base ho0) hb); have n11_ := Aside0.mk (Kd.R_lower ho0 (below_size (by repeat (first | (with_reducible first | exact HB.out | apply below_alloc | apply pw_below_drewN | apply below_drew1 | refine below_set ?_ GE293.out) | exact HB.out)))); have n12_ := Aside0.mk (blk_below (g := gb293) (o := .cells #[.string t279, .slice Ao38 t280.length co38, .string t283, .slice Ao39 t284.length co39, .slice Ao40 t287.length co40, .slice Ao41 t290.length co41] 26 (0, 0)) (by (with_reducible repeat (first | refine blk_drewN ?_ _ | refine blk_drew ?_ | refine blk_alloc ?_ _)); exact BK293.out) hb); have n13_ := Aside0.mk (Kd.C_below (by repeat (first | (with_reducible exact HR313_0.out) | (with_reducible refine Kd.C_alloc ?_ _) | (with_reducible refine Kd.C_drewN ?_ _) | (with_reducible refine Kd.C_drew ?_) | exact HR313_0.out)) hb); have n14_ := Aside0.mk (Kd.C_below (by repeat (first | (with_reducible exact HR314_0.out) | (with_reducible refine Kd.C_alloc ?_ _) | (with_reducible refine Kd.C_drewN ?_ _) | (with_reducible refine Kd.C_drew ?_) | exact HR314_0.out)) hb); have n15_ := Aside0.mk (below_step (by repeat (first | (with_reducible first | exact HB.out | apply below_alloc | apply pw_below_drewN | apply below_drew1 | refine below_set ?_ GE293.out) | exact HB.out)) hb); clear HO282; clear HO286; clear HO289; clear HO292; clear HO296; clear HO299; clear HO302; clear HO305; clear HO308; clear HL313_0; clear HL314_0; clear BK293; clear HR313_0; clear HR314_0; clear HB; have HO282 := n0_; have HO286 := n1_; have HO289 := n2_; have HO292 := n3_; have HO296 := n4_; have HO299 := n5_; have HO302 := n6_; have HO305 := n7_; have HO308 := n8_; have HL313_0 := n9_; have HL314_0 := n10_; have HO321 := n11_; have BK293 := n12_; have HR313_0 := n13_; have HR314_0 := n14_; have HB := n15_; clear n0_ n1_ n2_ n3_ n4_ n5_ n6_ n7_ n8_ n9_ n10_ n11_ n12_ n13_ n14_ n15_; (try clear hb); (try clear hb2); (try clear hk); (try clear hi); (try clear ho0); obtain ⟨Ao58, co58, eo58⟩ := Kd.R_slice HO321.out; subst eo58))
                          go_ret
                          exact ⟨by first | rfl | (simp [errW_none, errW_some] <;> rfl) | (simp [*, errW_none, errW_some] <;> rfl), by repeat (first | (with_reducible first | exact HB.out | apply below_alloc | apply pw_below_drewN | apply below_drew1 | refine below_set ?_ GE293.out) | exact HB.out)⟩
                         ·rw [if_neg c33] at H
                          exact absurd H (by simp)
                       ·rw [if_neg c30] at H
                        exact absurd H (by simp)
                      ·replace c29 := Bool.eq_false_iff.mpr c29
                       subst c29
                       have H1 : (none) = some r := by rw [if_neg (show ¬ (false = true) by decide)] at H; exact H
                       clear H
                       have H := H1
                       clear H1
                       exact absurd H (by simp)
                     ·rw [if_neg c27] at H
                      exact absurd H (by simp)
                    ·rw [if_neg c26] at H
                     exact absurd H (by simp)
                   ·rw [if_neg c25] at H
                    exact absurd H (by simp)
                  ·rw [if_neg c24] at H
                   exact absurd H (by simp)
                 ·rw [if_neg c23] at H
                  exact absurd H (by simp)
                ·rw [if_neg c22] at H
                 exact absurd H (by simp)
               ·rw [if_neg c21] at H
                exact absurd H (by simp)
              ·rw [if_neg c20] at H
               exact absurd H (by simp)
             ·rw [if_neg c19] at H
              exact absurd H (by simp)
            ·rw [if_neg c18] at H
             exact absurd H (by simp)
           ·rw [if_neg c17] at H
            exact absurd H (by simp)
          ·rw [if_neg c16] at H
           exact absurd H (by simp)
         ·rw [if_neg c15] at H
          exact absurd H (by simp)
        ·rw [if_neg c14] at H
         exact absurd H (by simp)
       ·rw [if_neg c13] at H
        exact absurd H (by simp)
      ·rw [if_neg c12] at H
       exact absurd H (by simp)
     ·rw [if_neg c11] at H
      exact absurd H (by simp)
    ·rw [if_neg c10] at H
     exact absurd H (by simp)
   ·rw [if_neg c9] at H
    exact absurd H (by simp)
  ·rw [if_neg c8] at H
   exact absurd H (by simp)
 ·rw [if_neg c7] at H
  exact absurd H (by simp)

end Go.Proofs.Ytclhjalgflebfaa.Q

namespace Go.Proofs.Ytclhjalgflebfaa.Q
open Go.RowKit Go.Proofs.YtclhjalgflebfaaW.PrintWords Go.Proofs.YtclhjalgflebfaaW.PrintLast Go.Proofs.YtclhjalgflebfaaW.PrintMore
attribute [local go_sem] max2_int min2_int max_two min_two max_three min_three max_four min_four   -- for this text's walks alone
set_option linter.unusedVariables false
set_option linter.unusedSimpArgs false

/-! ### truantlaw09_wide: function 15 -/
mutual
def truantlaw09_wide.j0 : Nat → Bool → ByteArray → List ByteArray → ByteArray → List ByteArray → List (S58) → List (S40) → Option (Bool)
 | 0, _, _, _, _, _, _, _ => none
 | k + 1, x14, x323000, x323001, x323002, x323003, x323004, x323005 => if x14 = true then (some true) else (truantlaw09_wide.l0 k 0 0 x323000 x323001 x323002 x323003 x323004 x323005)
def truantlaw09_wide.l0 : Nat → Int → Int → ByteArray → List ByteArray → ByteArray → List ByteArray → List (S58) → List (S40) → Option (Bool)
 | 0, _, _, _, _, _, _, _, _ => none
 | k + 1, x3, x4, x323000, x323001, x323002, x323003, x323004, x323005 => if x4 < (x323005.length : Int) then (if 0 ≤ x4 then (truantlaw09_wide.l0 k (wrap64 (x3 + (((rd_T40 x323005 x4).f0).length : Int))) (wrap64 (x4 + 1)) x323000 x323001 x323002 x323003 x323004 x323005) else (none)) else (some (decide (x3 > 1500)))
end
def truantlaw09_wide.f (k : Nat) (a0_0 : ByteArray) (l0_1 : List ByteArray) (a0_2 : ByteArray) (l0_3 : List ByteArray) (l0_4 : List (S58)) (l0_5 : List (S40)) : Option (Bool) := if (l0_4.length : Int) > 300 then (truantlaw09_wide.j0 k true a0_0 l0_1 a0_2 l0_3 l0_4 l0_5) else (truantlaw09_wide.j0 k (decide ((l0_5.length : Int) > 60)) a0_0 l0_1 a0_2 l0_3 l0_4 l0_5)
theorem truantlaw09_wide.mono_l : ∀ k, (∀ y0 y1 y2 y3 y4 y5 y6, LeO (truantlaw09_wide.j0 k y0 y1 y2 y3 y4 y5 y6) (truantlaw09_wide.j0 (k + 1) y0 y1 y2 y3 y4 y5 y6)) ∧ (∀ y0 y1 y2 y3 y4 y5 y6 y7, LeO (truantlaw09_wide.l0 k y0 y1 y2 y3 y4 y5 y6 y7) (truantlaw09_wide.l0 (k + 1) y0 y1 y2 y3 y4 y5 y6 y7))
 | 0 => ⟨fun _ _ _ _ _ _ _ r h => by simp [truantlaw09_wide.j0] at h, fun _ _ _ _ _ _ _ _ r h => by simp [truantlaw09_wide.l0] at h⟩
 | k + 1 => by
  obtain ⟨ih0, ih1⟩ := truantlaw09_wide.mono_l k
  refine ⟨?_, ?_⟩
  ·intro y0 y1 y2 y3 y4 y5 y6
   unfold truantlaw09_wide.j0
   repeat' first
   | (with_reducible exact ih0 _ _ _ _ _ _ _)
   | (with_reducible exact ih1 _ _ _ _ _ _ _ _)
   | (with_reducible exact LeO.refl _)
   | (with_reducible exact LeO.none _)
   | (with_reducible refine LeO.ite ?_ ?_)
   | (with_reducible refine LeO.bind ?_ (fun _ => ?_))
   | exact ih0 _ _ _ _ _ _ _
   | exact ih1 _ _ _ _ _ _ _ _
   | exact LeO.none _
   | refine LeO.ite ?_ ?_
   | refine LeO.bind ?_ (fun _ => ?_)
  ·intro y0 y1 y2 y3 y4 y5 y6 y7
   unfold truantlaw09_wide.l0
   repeat' first
   | (with_reducible exact ih0 _ _ _ _ _ _ _)
   | (with_reducible exact ih1 _ _ _ _ _ _ _ _)
   | (with_reducible exact LeO.refl _)
   | (with_reducible exact LeO.none _)
   | (with_reducible refine LeO.ite ?_ ?_)
   | (with_reducible refine LeO.bind ?_ (fun _ => ?_))
   | exact ih0 _ _ _ _ _ _ _
   | exact ih1 _ _ _ _ _ _ _ _
   | exact LeO.none _
   | refine LeO.ite ?_ ?_
   | refine LeO.bind ?_ (fun _ => ?_)
theorem truantlaw09_wide.mono : ∀ a0 a1 a2 a3 a4 a5 k, LeO (truantlaw09_wide.f k a0 a1 a2 a3 a4 a5) (truantlaw09_wide.f (k + 1) a0 a1 a2 a3 a4 a5) := by
 intro a0 a1 a2 a3 a4 a5 k
 obtain ⟨ih0, ih1⟩ := truantlaw09_wide.mono_l k
 unfold truantlaw09_wide.f
 repeat' first
   | (with_reducible exact ih0 _ _ _ _ _ _ _)
   | (with_reducible exact ih1 _ _ _ _ _ _ _ _)
   | (with_reducible exact LeO.refl _)
   | (with_reducible exact LeO.none _)
   | (with_reducible refine LeO.ite ?_ ?_)
   | (with_reducible refine LeO.bind ?_ (fun _ => ?_))
   | exact ih0 _ _ _ _ _ _ _
   | exact ih1 _ _ _ _ _ _ _ _
   | exact LeO.none _
   | refine LeO.ite ?_ ?_
   | refine LeO.bind ?_ (fun _ => ?_)
set_option maxHeartbeats 8000000 in
set_option maxRecDepth 100000 in
theorem truantlaw09_wide.calls (k : Nat) (a0_0 : ByteArray) (A0_1 : Option Addr) (c0_1 : Nat) (l0_1 : List ByteArray) (a0_2 : ByteArray) (A0_3 : Option Addr) (c0_3 : Nat) (l0_3 : List ByteArray) (A0_4 : Option Addr) (c0_4 : Nat) (l0_4 : List (S58)) (A0_5 : Option Addr) (c0_5 : Nat) (l0_5 : List (S40)) (r : Bool) (w : World) (hr0_1 : Kd.C Kd.string w A0_1 l0_1.length l0_1) (hc0_1 : l0_1.length ≤ c0_1) (hr0_3 : Kd.C Kd.string w A0_3 l0_3.length l0_3) (hc0_3 : l0_3.length ≤ c0_3) (hr0_4 : Kd.C k58 w A0_4 l0_4.length l0_4) (hc0_4 : l0_4.length ≤ c0_4) (hr0_5 : Kd.C k40 w A0_5 l0_5.length l0_5) (hc0_5 : l0_5.length ≤ c0_5) (h : truantlaw09_wide.f k a0_0 l0_1 a0_2 l0_3 l0_4 l0_5 = some r) :
  Calls Try.prog 15 #[.agg #[.string a0_0, .slice A0_1 l0_1.length c0_1, .string a0_2, .slice A0_3 l0_3.length c0_3, .slice A0_4 l0_4.length c0_4, .slice A0_5 l0_5.length c0_5]] w fun e w' => e = .returned (.bool r) ∧ Below w.heap.size w w' := by
 have hu26 := Try.underlying26
 have HR0_1 := Aside0.mk hr0_1
 have HC0_1 := Aside0.mk hc0_1
 clear hr0_1 hc0_1
 have HR0_3 := Aside0.mk hr0_3
 have HC0_3 := Aside0.mk hc0_3
 clear hr0_3 hc0_3
 have HR0_4 := Aside0.mk hr0_4
 have HC0_4 := Aside0.mk hc0_4
 clear hr0_4 hc0_4
 have HR0_5 := Aside0.mk hr0_5
 have HC0_5 := Aside0.mk hc0_5
 clear hr0_5 hc0_5
 have HB := Aside0.mk (Below.refl w.heap.size w)
 have H : (if (l0_4.length : Int) > 300 then (truantlaw09_wide.j0 k true a0_0 l0_1 a0_2 l0_3 l0_4 l0_5) else (truantlaw09_wide.j0 k (decide ((l0_5.length : Int) > 60)) a0_0 l0_1 a0_2 l0_3 l0_4 l0_5)) = some r := h
 clear h
 have HC2 := Aside0.mk H
 clear H
 go_enter Try.func15, Try.ntmps15
 go_upto_region 1 with (first | ((with_reducible refine gate_dst (N := 1) rfl ?_); (try (refine gate_guard (by rfl) ?_; dsimp only)); refine box_event ?hg (N := 1) ?hd (cs := #[.string a0_0, .slice A0_1 l0_1.length c0_1, .string a0_2, .slice A0_3 l0_3.length c0_3, .slice A0_4 l0_4.length c0_4, .slice A0_5 l0_5.length c0_5]) (t := 26) ?hr ?_; (case hd => rfl); (case hg => rfl); (case hr => first | (go_simp; done) | (go_simp; rfl)); intro gb322 hg w3 hbox hb; have n0_ := Aside0.mk (below_step (by repeat (first | (with_reducible first | exact HB.out | apply below_alloc | apply pw_below_drewN | apply below_drew1) | exact HB.out)) hb); have n1_ := Aside0.mk (hbox); have n2_ := Aside0.mk ((by rw [hg]; exact (below_size (by repeat (first | (with_reducible first | exact HB.out | apply below_alloc | apply pw_below_drewN | apply below_drew1) | exact HB.out))) : w.heap.size ≤ gb322)); have n3_ := Aside0.mk ((by rw [hg]; exact (below_size (by repeat (first | (with_reducible first | exact HB.out | apply below_alloc | apply pw_below_drewN | apply below_drew1) | exact HB.out))) : w.heap.size ≤ gb322)); clear HB; have HB := n0_; have BK322 := n1_; have GW322 := n2_; have GE322 := n3_; clear n0_ n1_ n2_ n3_; clear hb hbox hg))
 (try simp only [Act.put, List.setIfInBounds_toArray, List.set_cons_zero, List.set_cons_succ])
 go_cut [14] (fun v14 wc => ∃ (kq : Nat) (x14_1 : Bool), v14 = .bool x14_1 ∧ Aside0 (truantlaw09_wide.j0 kq x14_1 a0_0 l0_1 a0_2 l0_3 l0_4 l0_5 = some r) ∧ Aside0 (kq ≤ k) ∧ Aside0 (wc.heap[gb322]? = some (.cells #[.string a0_0, (.slice A0_1 l0_1.length c0_1), .string a0_2, (.slice A0_3 l0_3.length c0_3), (.slice A0_4 l0_4.length c0_4), (.slice A0_5 l0_5.length c0_5)] 26 (0, 0))) ∧ Aside0 (Below w.heap.size w wc))
 case first =>
  have H := HC2.out
  clear HC2
  by_cases c4 : (l0_4.length : Int) > 300
  ·rw [if_pos c4] at H
   have c4b0 : decide (300 < (l0_4.length : Int)) = true := decide_eq_true c4
   have c4b1 : decide (300 < l0_4.length) = true := decide_eq_true (by omega)
   clear c4
   (first | rw [c4b0] | (simp only [i64_w, i32_w]; rw [c4b0]) | skip)
   have H' := Aside0.mk H
   clear H
   have hcz5_0 : w3.cell? ⟨gb322, 0, none⟩ = some (.string a0_0) := (blk_cell BK322.out 0).trans rfl
   have hcz5_1 : w3.cell? ⟨gb322, 1, none⟩ = some (.slice A0_1 l0_1.length c0_1) := (blk_cell BK322.out 1).trans rfl
   have hcz5_2 : w3.cell? ⟨gb322, 2, none⟩ = some (.string a0_2) := (blk_cell BK322.out 2).trans rfl
   have hcz5_3 : w3.cell? ⟨gb322, 3, none⟩ = some (.slice A0_3 l0_3.length c0_3) := (blk_cell BK322.out 3).trans rfl
   have hcz5_4 : w3.cell? ⟨gb322, 4, none⟩ = some (.slice A0_4 l0_4.length c0_4) := (blk_cell BK322.out 4).trans rfl
   have hcz5_5 : w3.cell? ⟨gb322, 5, none⟩ = some (.slice A0_5 l0_5.length c0_5) := (blk_cell BK322.out 5).trans rfl
   have hfz5_0 := blk_frozen BK322.out 0
   have hfz5_1 := blk_frozen BK322.out 1
   have hfz5_2 := blk_frozen BK322.out 2
   have hfz5_3 := blk_frozen BK322.out 3
   have hfz5_4 := blk_frozen BK322.out 4
   have hfz5_5 := blk_frozen BK322.out 5
   go_wp2
   go_meet
   case rel => exact ⟨_, (true), (by first | rfl | (simp; done) | (simp [*]; done)), H', ⟨by first | omega | exact Nat.le_refl _⟩, ⟨by (with_reducible repeat (first | refine blk_drewN ?_ _ | refine blk_drew ?_ | refine blk_alloc ?_ _)); exact BK322.out⟩, ⟨by repeat (first | (with_reducible first | exact HB.out | apply below_alloc | apply pw_below_drewN | apply below_drew1 | refine below_set ?_ GE322.out) | exact HB.out)⟩⟩
  ·rw [if_neg c4] at H
   have c4b0 : decide (300 < (l0_4.length : Int)) = false := decide_eq_false c4
   have c4b1 : decide (300 < l0_4.length) = false := decide_eq_false (by omega)
   clear c4
   (first | rw [c4b0] | (simp only [i64_w, i32_w]; rw [c4b0]) | skip)
   have H' := Aside0.mk H
   clear H
   have hcz6_0 : w3.cell? ⟨gb322, 0, none⟩ = some (.string a0_0) := (blk_cell BK322.out 0).trans rfl
   have hcz6_1 : w3.cell? ⟨gb322, 1, none⟩ = some (.slice A0_1 l0_1.length c0_1) := (blk_cell BK322.out 1).trans rfl
   have hcz6_2 : w3.cell? ⟨gb322, 2, none⟩ = some (.string a0_2) := (blk_cell BK322.out 2).trans rfl
   have hcz6_3 : w3.cell? ⟨gb322, 3, none⟩ = some (.slice A0_3 l0_3.length c0_3) := (blk_cell BK322.out 3).trans rfl
   have hcz6_4 : w3.cell? ⟨gb322, 4, none⟩ = some (.slice A0_4 l0_4.length c0_4) := (blk_cell BK322.out 4).trans rfl
   have hcz6_5 : w3.cell? ⟨gb322, 5, none⟩ = some (.slice A0_5 l0_5.length c0_5) := (blk_cell BK322.out 5).trans rfl
   have hfz6_0 := blk_frozen BK322.out 0
   have hfz6_1 := blk_frozen BK322.out 1
   have hfz6_2 := blk_frozen BK322.out 2
   have hfz6_3 := blk_frozen BK322.out 3
   have hfz6_4 := blk_frozen BK322.out 4
   have hfz6_5 := blk_frozen BK322.out 5
   go_wp2
   go_meet
   case rel => exact ⟨_, (decide ((l0_5.length : Int) > 60)), (by first | rfl | (simp; done) | (simp [*]; done)), H', ⟨by first | omega | exact Nat.le_refl _⟩, ⟨by (with_reducible repeat (first | refine blk_drewN ?_ _ | refine blk_drew ?_ | refine blk_alloc ?_ _)); exact BK322.out⟩, ⟨by repeat (first | (with_reducible first | exact HB.out | apply below_alloc | apply pw_below_drewN | apply below_drew1 | refine below_set ?_ GE322.out) | exact HB.out)⟩⟩
 case rest =>
  clear HC2
  try clear c1
  try clear p2
  try clear c4
  try clear c4b0
  try clear c4b1
  try clear hcz5_0
  try clear hcz5_1
  try clear hcz5_2
  try clear hcz5_3
  try clear hcz5_4
  try clear hcz5_5
  try clear hcz6_0
  try clear hcz6_1
  try clear hcz6_2
  try clear hcz6_3
  try clear hcz6_4
  try clear hcz6_5
  try clear hfz5_0
  try clear hfz5_1
  try clear hfz5_2
  try clear hfz5_3
  try clear hfz5_4
  try clear hfz5_5
  try clear hfz6_0
  try clear hfz6_1
  try clear hfz6_2
  try clear hfz6_3
  try clear hfz6_4
  try clear hfz6_5
  obtain ⟨kq, x14_1, rfl, HA, HJ1, BK322, HB⟩ := hcut
  cases kq with
  | zero => exact absurd HA.out (by simp [truantlaw09_wide.j0])
  | succ kj1 =>
   have H := HA.out
   clear HA
   simp only [truantlaw09_wide.j0] at H
   by_cases c7 : x14_1 = true
   ·subst c7
    have H1 : (some true) = some r := by rw [if_pos rfl] at H; exact H
    clear H
    have H := H1
    clear H1
    obtain rfl := Option.some.inj H
    go_wp2
    go_ret
    exact ⟨by first | rfl | (simp [errW_none, errW_some] <;> rfl) | (simp [*, errW_none, errW_some] <;> rfl), by repeat (first | (with_reducible first | exact HB.out | apply below_alloc | apply pw_below_drewN | apply below_drew1 | refine below_set ?_ GE322.out) | exact HB.out)⟩
   ·replace c7 := Bool.eq_false_iff.mpr c7
    subst c7
    have H1 : (truantlaw09_wide.l0 kj1 0 0 a0_0 l0_1 a0_2 l0_3 l0_4 l0_5) = some r := by rw [if_neg (show ¬ (false = true) by decide)] at H; exact H
    clear H
    have H := H1
    clear H1
    have H' := Aside0.mk H
    clear H
    go_wp2
    go_loopg [3, 4] kj1 (fun kq v3 v4 w' => ∃ (x3_2 : Int) (x4_2 : Int), v3 = .int .i64 x3_2 ∧ v4 = .int .i64 x4_2 ∧ Aside0 (truantlaw09_wide.l0 kq x3_2 x4_2 a0_0 l0_1 a0_2 l0_3 l0_4 l0_5 = some r) ∧ Aside0 (kq ≤ kj1) ∧ Aside0 (w'.heap[gb322]? = some (.cells #[.string a0_0, (.slice A0_1 l0_1.length c0_1), .string a0_2, (.slice A0_3 l0_3.length c0_3), (.slice A0_4 l0_4.length c0_4), (.slice A0_5 l0_5.length c0_5)] 26 (0, 0))) ∧ Aside0 (Below w.heap.size w w'))
    case atStart => exact ⟨(0), (0), (by first | rfl | (simp; done) | (simp [*]; done)), (by first | rfl | (simp; done) | (simp [*]; done)), H', ⟨Nat.le_refl _⟩, ⟨by (with_reducible repeat (first | refine blk_drewN ?_ _ | refine blk_drew ?_ | refine blk_alloc ?_ _)); exact BK322.out⟩, ⟨by repeat (first | (with_reducible first | exact HB.out | apply below_alloc | apply pw_below_drewN | apply below_drew1 | refine below_set ?_ GE322.out) | exact HB.out)⟩⟩
    case round =>
     clear H'
     try clear c1
     try clear p2
     try clear c4
     try clear c4b0
     try clear c4b1
     try clear c7
     try clear hcz5_0
     try clear hcz5_1
     try clear hcz5_2
     try clear hcz5_3
     try clear hcz5_4
     try clear hcz5_5
     try clear hcz6_0
     try clear hcz6_1
     try clear hcz6_2
     try clear hcz6_3
     try clear hcz6_4
     try clear hcz6_5
     try clear hfz5_0
     try clear hfz5_1
     try clear hfz5_2
     try clear hfz5_3
     try clear hfz5_4
     try clear hfz5_5
     try clear hfz6_0
     try clear hfz6_1
     try clear hfz6_2
     try clear hfz6_3
     try clear hfz6_4
     try clear hfz6_5
     try clear p2
     obtain ⟨x3_2, x4_2, rfl, rfl, HA, HK2, BK322, HB⟩ := hrel
     cases gk with
     | zero => exact absurd HA.out (by simp [truantlaw09_wide.l0])
     | succ k2 =>
      have H := HA.out
      clear HA
      simp only [truantlaw09_wide.l0] at H
      by_cases c8 : x4_2 < (l0_5.length : Int)
      ·rw [if_pos c8] at H
       have c8b0 : decide (x4_2 < (l0_5.length : Int)) = true := decide_eq_true c8
       clear c8
       by_cases c9 : 0 ≤ x4_2
       ·rw [if_pos c9] at H
        have c9b0 : decide (0 ≤ x4_2) = true := decide_eq_true c9
        clear c9
        have H' := Aside0.mk H
        clear H
        have hcz10_0 : wr.cell? ⟨gb322, 0, none⟩ = some (.string a0_0) := (blk_cell BK322.out 0).trans rfl
        have hcz10_1 : wr.cell? ⟨gb322, 1, none⟩ = some (.slice A0_1 l0_1.length c0_1) := (blk_cell BK322.out 1).trans rfl
        have hcz10_2 : wr.cell? ⟨gb322, 2, none⟩ = some (.string a0_2) := (blk_cell BK322.out 2).trans rfl
        have hcz10_3 : wr.cell? ⟨gb322, 3, none⟩ = some (.slice A0_3 l0_3.length c0_3) := (blk_cell BK322.out 3).trans rfl
        have hcz10_4 : wr.cell? ⟨gb322, 4, none⟩ = some (.slice A0_4 l0_4.length c0_4) := (blk_cell BK322.out 4).trans rfl
        have hcz10_5 : wr.cell? ⟨gb322, 5, none⟩ = some (.slice A0_5 l0_5.length c0_5) := (blk_cell BK322.out 5).trans rfl
        have hfz10_0 := blk_frozen BK322.out 0
        have hfz10_1 := blk_frozen BK322.out 1
        have hfz10_2 := blk_frozen BK322.out 2
        have hfz10_3 := blk_frozen BK322.out 3
        have hfz10_4 := blk_frozen BK322.out 4
        have hfz10_5 := blk_frozen BK322.out 5
        have p323 : 0 ≤ (x4_2 : Int) := of_decide_eq_true (by first | (with_reducible assumption) | assumption)
        have q323 : x4_2 < (l0_5.length : Int) := of_decide_eq_true (by first | (with_reducible assumption) | assumption)
        obtain ⟨ad323, A323_0, c323_0, e323, hx323_0, hx323_1, hx323_2, hx323_3, hx323_4, hl323_0, hi323_0⟩ := at_T40 HR0_5.out x4_2 p323 q323
        cases e323
        replace hx323_0 := (HB.out.cell (World.block_lt_of_cell? w _ hx323_0)).trans hx323_0
        replace hx323_1 := (HB.out.cell (World.block_lt_of_cell? w _ hx323_1)).trans hx323_1
        replace hx323_2 := (HB.out.cell (World.block_lt_of_cell? w _ hx323_2)).trans hx323_2
        replace hx323_3 := (HB.out.cell (World.block_lt_of_cell? w _ hx323_3)).trans hx323_3
        replace hx323_4 := (HB.out.cell (World.block_lt_of_cell? w _ hx323_4)).trans hx323_4
        have HR323_0 := Aside0.mk hi323_0
        have HC323_0 := Aside0.mk hl323_0
        clear hi323_0 hl323_0
        replace p323 := eq_true p323
        replace q323 := eq_true q323
        go_wp2
        go_roundg k2
        case measure => have := HJ1.out; have := HK2.out; omega
        case rel => exact ⟨(wrap64 (x3_2 + (((rd_T40 l0_5 x4_2).f0).length : Int))), (wrap64 (x4_2 + 1)), (by first | rfl | (simp; done) | (simp [*]; done)), (by first | rfl | (simp; done) | (simp [*]; done)), H', ⟨by have := HJ1.out; have := HK2.out; omega⟩, ⟨by (with_reducible repeat (first | refine blk_drewN ?_ _ | refine blk_drew ?_ | refine blk_alloc ?_ _)); exact BK322.out⟩, ⟨by repeat (first | (with_reducible first | exact HB.out | apply below_alloc | apply pw_below_drewN | apply below_drew1 | refine below_set ?_ GE322.out) | exact HB.out)⟩⟩
       ·rw [if_neg c9] at H
        exact absurd H (by simp)
      ·rw [if_neg c8] at H
       have c8b0 : decide (x4_2 < (l0_5.length : Int)) = false := decide_eq_false c8
       clear c8
       obtain rfl := Option.some.inj H
       have hcz11_0 : wr.cell? ⟨gb322, 0, none⟩ = some (.string a0_0) := (blk_cell BK322.out 0).trans rfl
       have hcz11_1 : wr.cell? ⟨gb322, 1, none⟩ = some (.slice A0_1 l0_1.length c0_1) := (blk_cell BK322.out 1).trans rfl
       have hcz11_2 : wr.cell? ⟨gb322, 2, none⟩ = some (.string a0_2) := (blk_cell BK322.out 2).trans rfl
       have hcz11_3 : wr.cell? ⟨gb322, 3, none⟩ = some (.slice A0_3 l0_3.length c0_3) := (blk_cell BK322.out 3).trans rfl
       have hcz11_4 : wr.cell? ⟨gb322, 4, none⟩ = some (.slice A0_4 l0_4.length c0_4) := (blk_cell BK322.out 4).trans rfl
       have hcz11_5 : wr.cell? ⟨gb322, 5, none⟩ = some (.slice A0_5 l0_5.length c0_5) := (blk_cell BK322.out 5).trans rfl
       have hfz11_0 := blk_frozen BK322.out 0
       have hfz11_1 := blk_frozen BK322.out 1
       have hfz11_2 := blk_frozen BK322.out 2
       have hfz11_3 := blk_frozen BK322.out 3
       have hfz11_4 := blk_frozen BK322.out 4
       have hfz11_5 := blk_frozen BK322.out 5
       go_wp2
       go_ret
       exact ⟨by first | rfl | (simp [errW_none, errW_some] <;> rfl) | (simp [*, errW_none, errW_some] <;> rfl), by repeat (first | (with_reducible first | exact HB.out | apply below_alloc | apply pw_below_drewN | apply below_drew1 | refine below_set ?_ GE322.out) | exact HB.out)⟩

end Go.Proofs.Ytclhjalgflebfaa.Q

namespace Go.Proofs.Ytclhjalgflebfaa.Q
open Go.RowKit Go.Proofs.YtclhjalgflebfaaW.PrintWords Go.Proofs.YtclhjalgflebfaaW.PrintLast Go.Proofs.YtclhjalgflebfaaW.PrintMore
attribute [local go_sem] max2_int min2_int max_two min_two max_three min_three max_four min_four   -- for this text's walks alone
set_option linter.unusedVariables false
set_option linter.unusedSimpArgs false

/-! ### truantlaw09_FlowOrder: function 5 -/
mutual
def truantlaw09_FlowOrder.j0 : Nat → List Int → List Bool → List (List Int) → Bool → ByteArray → List ByteArray → ByteArray → List ByteArray → List (S58) → List (S40) → Option (Bool)
 | 0, _, _, _, _, _, _, _, _, _, _ => none
 | k + 1, x3, x4, x5, x38, x464000, x464001, x464002, x464003, x464004, x464005 => if x38 = true then (none) else (if 0 ≤ (x464005.length : Int) then (if ((x464005.length : Int) : Int).toNat ≤ 35184372088832 then (truantlaw09_FlowOrder.l0 k x3 x4 x5 (List.replicate ((x464005.length : Int) : Int).toNat 0) 0 x464000 x464001 x464002 x464003 x464004 x464005) else (none)) else (none))
def truantlaw09_FlowOrder.l0 : Nat → List Int → List Bool → List (List Int) → List Int → Int → ByteArray → List ByteArray → ByteArray → List ByteArray → List (S58) → List (S40) → Option (Bool)
 | 0, _, _, _, _, _, _, _, _, _, _, _ => none
 | k + 1, x3, x4, x5, x6, x7, x464000, x464001, x464002, x464003, x464004, x464005 => if x7 < (x3.length : Int) then (if 0 ≤ x7 then (if (rd x3 x7) < 0 then (none) else (if (rd x3 x7) ≥ (x6.length : Int) then (none) else (if 0 ≤ (rd x3 x7) then (if (rd x3 x7) < (x6.length : Int) then (if (rd x6 (rd x3 x7)) = 0 then (if (rd x3 x7) < (x4.length : Int) then (if (rdOf false x4 (rd x3 x7) = true) then (truantlaw09_FlowOrder.l0 k x3 x4 x5 (x6.set ((rd x3 x7) : Int).toNat (wrap64 (x7 + 1))) (wrap64 (x7 + 1)) x464000 x464001 x464002 x464003 x464004 x464005) else (none)) else (none)) else (none)) else (none)) else (none)))) else (none)) else ((flow_Back.f x464000 x464001 x464002 x464003 x464004 x464005).bind fun t487 => (truantlaw09_FlowOrder.l1 k x4 x5 x6 (decide ((t487.length : Int) > 0)) 0))
def truantlaw09_FlowOrder.l1 : Nat → List Bool → List (List Int) → List Int → Bool → Int → Option (Bool)
 | 0, _, _, _, _, _ => none
 | k + 1, x4, x5, x6, x8, x9 => if x9 < (x6.length : Int) then (if 0 ≤ x9 then (if x9 < (x4.length : Int) then (if ((rdOf false x4 x9) != (decide ((rd x6 x9) > 0))) = true then (none) else (if x9 = 0 then (truantlaw09_FlowOrder.j3 k x4 x5 x6 x8 x9 true) else (truantlaw09_FlowOrder.j3 k x4 x5 x6 x8 x9 (!(rdOf false x4 x9))))) else (none)) else (none)) else (some true)
def truantlaw09_FlowOrder.j3 : Nat → List Bool → List (List Int) → List Int → Bool → Int → Bool → Option (Bool)
 | 0, _, _, _, _, _, _ => none
 | k + 1, x4, x5, x6, x8, x9, x10 => truantlaw09_FlowOrder.l2 k x4 x5 x6 x8 x9 x10 0
def truantlaw09_FlowOrder.l2 : Nat → List Bool → List (List Int) → List Int → Bool → Int → Bool → Int → Option (Bool)
 | 0, _, _, _, _, _, _, _ => none
 | k + 1, x4, x5, x6, x8, x9, x10, x11 => if 0 ≤ x9 then (if x9 < (x5.length : Int) then (if x11 < ((rd_L2 x5 x9).length : Int) then (if 0 ≤ x11 then (if x10 = true then (if x9 < (x4.length : Int) then (if rdOf false x4 x9 = true then (if 0 ≤ (rd (rd_L2 x5 x9) x11) then (if (rd (rd_L2 x5 x9) x11) < (x4.length : Int) then (if rdOf false x4 (rd (rd_L2 x5 x9) x11) = true then (if x8 = true then (truantlaw09_FlowOrder.l2 k x4 x5 x6 x8 x9 true (wrap64 (x11 + 1))) else (if (rd (rd_L2 x5 x9) x11) < (x6.length : Int) then (if x9 < (x6.length : Int) then (if (rd x6 (rd (rd_L2 x5 x9) x11)) ≥ (rd x6 x9) then (none) else (truantlaw09_FlowOrder.l2 k x4 x5 x6 x8 x9 true (wrap64 (x11 + 1)))) else (none)) else (none))) else (truantlaw09_FlowOrder.l2 k x4 x5 x6 x8 x9 true (wrap64 (x11 + 1)))) else (none)) else (none)) else (truantlaw09_FlowOrder.l2 k x4 x5 x6 x8 x9 true (wrap64 (x11 + 1)))) else (none)) else (if 0 ≤ (rd (rd_L2 x5 x9) x11) then (if (rd (rd_L2 x5 x9) x11) < (x4.length : Int) then (if rdOf false x4 (rd (rd_L2 x5 x9) x11) = true then (if (rd (rd_L2 x5 x9) x11) < (x6.length : Int) then (if x9 < (x6.length : Int) then (if x9 < (x4.length : Int) then (if rdOf false x4 x9 = true then (if x8 = true then (truantlaw09_FlowOrder.l2 k x4 x5 x6 x8 x9 (decide ((rd x6 (rd (rd_L2 x5 x9) x11)) < (rd x6 x9))) (wrap64 (x11 + 1))) else (if (rd x6 (rd (rd_L2 x5 x9) x11)) ≥ (rd x6 x9) then (none) else (truantlaw09_FlowOrder.l2 k x4 x5 x6 x8 x9 (decide ((rd x6 (rd (rd_L2 x5 x9) x11)) < (rd x6 x9))) (wrap64 (x11 + 1))))) else (truantlaw09_FlowOrder.l2 k x4 x5 x6 x8 x9 (decide ((rd x6 (rd (rd_L2 x5 x9) x11)) < (rd x6 x9))) (wrap64 (x11 + 1)))) else (none)) else (none)) else (none)) else (if x9 < (x4.length : Int) then (if rdOf false x4 x9 = true then (truantlaw09_FlowOrder.l2 k x4 x5 x6 x8 x9 false (wrap64 (x11 + 1))) else (truantlaw09_FlowOrder.l2 k x4 x5 x6 x8 x9 false (wrap64 (x11 + 1)))) else (none))) else (none)) else (none))) else (none)) else (if x10 = true then (truantlaw09_FlowOrder.l1 k x4 x5 x6 x8 (wrap64 (x9 + 1))) else (none))) else (none)) else (none)
end
def truantlaw09_FlowOrder.f (k : Nat) (a0_0 : ByteArray) (l0_1 : List ByteArray) (a0_2 : ByteArray) (l0_3 : List ByteArray) (l0_4 : List (S58)) (l0_5 : List (S40)) : Option (Bool) := (truantlaw09_awake.f k).bind fun t464 => (if t464 = true then ((truantlaw09_wide.f k a0_0 l0_1 a0_2 l0_3 l0_4 l0_5).bind fun t465 => (if t465 = true then (some true) else ((flow_Order.f a0_0 l0_1 a0_2 l0_3 l0_4 l0_5).bind fun t466 => ((flow_Reached.f a0_0 l0_1 a0_2 l0_3 l0_4 l0_5).bind fun t469 => ((flow_Ahead.f k a0_0 l0_1 a0_2 l0_3 l0_4 l0_5).bind fun t472 => (if (l0_5.length : Int) = 0 then (some ((t466.length : Int) == 0)) else (if (t466.length : Int) = 0 then (truantlaw09_FlowOrder.j0 k t466 t469 t472 true a0_0 l0_1 a0_2 l0_3 l0_4 l0_5) else (if 0 < (t466.length : Int) then (truantlaw09_FlowOrder.j0 k t466 t469 t472 ((rd t466 0) != 0) a0_0 l0_1 a0_2 l0_3 l0_4 l0_5) else (none))))))))) else (none))
theorem truantlaw09_FlowOrder.mono_l : ∀ k, (∀ y0 y1 y2 y3 y4 y5 y6 y7 y8 y9, LeO (truantlaw09_FlowOrder.j0 k y0 y1 y2 y3 y4 y5 y6 y7 y8 y9) (truantlaw09_FlowOrder.j0 (k + 1) y0 y1 y2 y3 y4 y5 y6 y7 y8 y9)) ∧ (∀ y0 y1 y2 y3 y4 y5 y6 y7 y8 y9 y10, LeO (truantlaw09_FlowOrder.l0 k y0 y1 y2 y3 y4 y5 y6 y7 y8 y9 y10) (truantlaw09_FlowOrder.l0 (k + 1) y0 y1 y2 y3 y4 y5 y6 y7 y8 y9 y10)) ∧ (∀ y0 y1 y2 y3 y4, LeO (truantlaw09_FlowOrder.l1 k y0 y1 y2 y3 y4) (truantlaw09_FlowOrder.l1 (k + 1) y0 y1 y2 y3 y4)) ∧ (∀ y0 y1 y2 y3 y4 y5, LeO (truantlaw09_FlowOrder.j3 k y0 y1 y2 y3 y4 y5) (truantlaw09_FlowOrder.j3 (k + 1) y0 y1 y2 y3 y4 y5)) ∧ (∀ y0 y1 y2 y3 y4 y5 y6, LeO (truantlaw09_FlowOrder.l2 k y0 y1 y2 y3 y4 y5 y6) (truantlaw09_FlowOrder.l2 (k + 1) y0 y1 y2 y3 y4 y5 y6))
 | 0 => ⟨fun _ _ _ _ _ _ _ _ _ _ r h => by simp [truantlaw09_FlowOrder.j0] at h, fun _ _ _ _ _ _ _ _ _ _ _ r h => by simp [truantlaw09_FlowOrder.l0] at h, fun _ _ _ _ _ r h => by simp [truantlaw09_FlowOrder.l1] at h, fun _ _ _ _ _ _ r h => by simp [truantlaw09_FlowOrder.j3] at h, fun _ _ _ _ _ _ _ r h => by simp [truantlaw09_FlowOrder.l2] at h⟩
 | k + 1 => by
  obtain ⟨ih0, ih1, ih2, ih3, ih4⟩ := truantlaw09_FlowOrder.mono_l k
  refine ⟨?_, ?_, ?_, ?_, ?_⟩
  ·intro y0 y1 y2 y3 y4 y5 y6 y7 y8 y9
   unfold truantlaw09_FlowOrder.j0
   repeat' first
   | (with_reducible exact ih0 _ _ _ _ _ _ _ _ _ _)
   | (with_reducible exact ih1 _ _ _ _ _ _ _ _ _ _ _)
   | (with_reducible exact ih2 _ _ _ _ _)
   | (with_reducible exact ih3 _ _ _ _ _ _)
   | (with_reducible exact ih4 _ _ _ _ _ _ _)
   | (with_reducible exact flow_Ahead.mono _ _ _ _ _ _ _)
   | (with_reducible exact truantlaw09_awake.mono _)
   | (with_reducible exact truantlaw09_wide.mono _ _ _ _ _ _ _)
   | (with_reducible exact LeO.refl _)
   | (with_reducible exact LeO.none _)
   | (with_reducible refine LeO.ite ?_ ?_)
   | (with_reducible refine LeO.bind ?_ (fun _ => ?_))
   | exact ih0 _ _ _ _ _ _ _ _ _ _
   | exact ih1 _ _ _ _ _ _ _ _ _ _ _
   | exact ih2 _ _ _ _ _
   | exact ih3 _ _ _ _ _ _
   | exact ih4 _ _ _ _ _ _ _
   | exact flow_Ahead.mono _ _ _ _ _ _ _
   | exact truantlaw09_awake.mono _
   | exact truantlaw09_wide.mono _ _ _ _ _ _ _
   | exact LeO.none _
   | refine LeO.ite ?_ ?_
   | refine LeO.bind ?_ (fun _ => ?_)
  ·intro y0 y1 y2 y3 y4 y5 y6 y7 y8 y9 y10
   unfold truantlaw09_FlowOrder.l0
   repeat' first
   | (with_reducible exact ih0 _ _ _ _ _ _ _ _ _ _)
   | (with_reducible exact ih1 _ _ _ _ _ _ _ _ _ _ _)
   | (with_reducible exact ih2 _ _ _ _ _)
   | (with_reducible exact ih3 _ _ _ _ _ _)
   | (with_reducible exact ih4 _ _ _ _ _ _ _)
   | (with_reducible exact flow_Ahead.mono _ _ _ _ _ _ _)
   | (with_reducible exact truantlaw09_awake.mono _)
   | (with_reducible exact truantlaw09_wide.mono _ _ _ _ _ _ _)
   | (with_reducible exact LeO.refl _)
   | (with_reducible exact LeO.none _)
   | (with_reducible refine LeO.ite ?_ ?_)
   | (with_reducible refine LeO.bind ?_ (fun _ => ?_))
   | exact ih0 _ _ _ _ _ _ _ _ _ _
   | exact ih1 _ _ _ _ _ _ _ _ _ _ _
   | exact ih2 _ _ _ _ _
   | exact ih3 _ _ _ _ _ _
   | exact ih4 _ _ _ _ _ _ _
   | exact flow_Ahead.mono _ _ _ _ _ _ _
   | exact truantlaw09_awake.mono _
   | exact truantlaw09_wide.mono _ _ _ _ _ _ _
   | exact LeO.none _
   | refine LeO.ite ?_ ?_
   | refine LeO.bind ?_ (fun _ => ?_)
  ·intro y0 y1 y2 y3 y4
   unfold truantlaw09_FlowOrder.l1
   repeat' first
   | (with_reducible exact ih0 _ _ _ _ _ _ _ _ _ _)
   | (with_reducible exact ih1 _ _ _ _ _ _ _ _ _ _ _)
   | (with_reducible exact ih2 _ _ _ _ _)
   | (with_reducible exact ih3 _ _ _ _ _ _)
   | (with_reducible exact ih4 _ _ _ _ _ _ _)
   | (with_reducible exact flow_Ahead.mono _ _ _ _ _ _ _)
   | (with_reducible exact truantlaw09_awake.mono _)
   | (with_reducible exact truantlaw09_wide.mono _ _ _ _ _ _ _)
   | (with_reducible exact LeO.refl _)
   | (with_reducible exact LeO.none _)
   | (with_reducible refine LeO.ite ?_ ?_)
   | (with_reducible refine LeO.bind ?_ (fun _ => ?_))
   | exact ih0 _ _ _ _ _ _ _ _ _ _
   | exact ih1 _ _ _ _ _ _ _ _ _ _ _
   | exact ih2 _ _ _ _ _
   | exact ih3 _ _ _ _ _ _
   | exact ih4 _ _ _ _ _ _ _
   | exact flow_Ahead.mono _ _ _ _ _ _ _
   | exact truantlaw09_awake.mono _
   | exact truantlaw09_wide.mono _ _ _ _ _ _ _
   | exact LeO.none _
   | refine LeO.ite ?_ ?_
   | refine LeO.bind ?_ (fun _ => ?_)
  ·intro y0 y1 y2 y3 y4 y5
   unfold truantlaw09_FlowOrder.j3
   repeat' first
   | (with_reducible exact ih0 _ _ _ _ _ _ _ _ _ _)
   | (with_reducible exact ih1 _ _ _ _ _ _ _ _ _ _ _)
   | (with_reducible exact ih2 _ _ _ _ _)
   | (with_reducible exact ih3 _ _ _ _ _ _)
   | (with_reducible exact ih4 _ _ _ _ _ _ _)
   | (with_reducible exact flow_Ahead.mono _ _ _ _ _ _ _)
   | (with_reducible exact truantlaw09_awake.mono _)
   | (with_reducible exact truantlaw09_wide.mono _ _ _ _ _ _ _)
   | (with_reducible exact LeO.refl _)
   | (with_reducible exact LeO.none _)
   | (with_reducible refine LeO.ite ?_ ?_)
   | (with_reducible refine LeO.bind ?_ (fun _ => ?_))
   | exact ih0 _ _ _ _ _ _ _ _ _ _
   | exact ih1 _ _ _ _ _ _ _ _ _ _ _
   | exact ih2 _ _ _ _ _
   | exact ih3 _ _ _ _ _ _
   | exact ih4 _ _ _ _ _ _ _
   | exact flow_Ahead.mono _ _ _ _ _ _ _
   | exact truantlaw09_awake.mono _
   | exact truantlaw09_wide.mono _ _ _ _ _ _ _
   | exact LeO.none _
   | refine LeO.ite ?_ ?_
   | refine LeO.bind ?_ (fun _ => ?_)
  ·intro y0 y1 y2 y3 y4 y5 y6
   unfold truantlaw09_FlowOrder.l2
   repeat' first
   | (with_reducible exact ih0 _ _ _ _ _ _ _ _ _ _)
   | (with_reducible exact ih1 _ _ _ _ _ _ _ _ _ _ _)
   | (with_reducible exact ih2 _ _ _ _ _)
   | (with_reducible exact ih3 _ _ _ _ _ _)
   | (with_reducible exact ih4 _ _ _ _ _ _ _)
   | (with_reducible exact flow_Ahead.mono _ _ _ _ _ _ _)
   | (with_reducible exact truantlaw09_awake.mono _)
   | (with_reducible exact truantlaw09_wide.mono _ _ _ _ _ _ _)
   | (with_reducible exact LeO.refl _)
   | (with_reducible exact LeO.none _)
   | (with_reducible refine LeO.ite ?_ ?_)
   | (with_reducible refine LeO.bind ?_ (fun _ => ?_))
   | exact ih0 _ _ _ _ _ _ _ _ _ _
   | exact ih1 _ _ _ _ _ _ _ _ _ _ _
   | exact ih2 _ _ _ _ _
   | exact ih3 _ _ _ _ _ _
   | exact ih4 _ _ _ _ _ _ _
   | exact flow_Ahead.mono _ _ _ _ _ _ _
   | exact truantlaw09_awake.mono _
   | exact truantlaw09_wide.mono _ _ _ _ _ _ _
   | exact LeO.none _
   | refine LeO.ite ?_ ?_
   | refine LeO.bind ?_ (fun _ => ?_)
theorem truantlaw09_FlowOrder.mono : ∀ a0 a1 a2 a3 a4 a5 k, LeO (truantlaw09_FlowOrder.f k a0 a1 a2 a3 a4 a5) (truantlaw09_FlowOrder.f (k + 1) a0 a1 a2 a3 a4 a5) := by
 intro a0 a1 a2 a3 a4 a5 k
 obtain ⟨ih0, ih1, ih2, ih3, ih4⟩ := truantlaw09_FlowOrder.mono_l k
 unfold truantlaw09_FlowOrder.f
 repeat' first
   | (with_reducible exact ih0 _ _ _ _ _ _ _ _ _ _)
   | (with_reducible exact ih1 _ _ _ _ _ _ _ _ _ _ _)
   | (with_reducible exact ih2 _ _ _ _ _)
   | (with_reducible exact ih3 _ _ _ _ _ _)
   | (with_reducible exact ih4 _ _ _ _ _ _ _)
   | (with_reducible exact flow_Ahead.mono _ _ _ _ _ _ _)
   | (with_reducible exact truantlaw09_awake.mono _)
   | (with_reducible exact truantlaw09_wide.mono _ _ _ _ _ _ _)
   | (with_reducible exact LeO.refl _)
   | (with_reducible exact LeO.none _)
   | (with_reducible refine LeO.ite ?_ ?_)
   | (with_reducible refine LeO.bind ?_ (fun _ => ?_))
   | exact ih0 _ _ _ _ _ _ _ _ _ _
   | exact ih1 _ _ _ _ _ _ _ _ _ _ _
   | exact ih2 _ _ _ _ _
   | exact ih3 _ _ _ _ _ _
   | exact ih4 _ _ _ _ _ _ _
   | exact flow_Ahead.mono _ _ _ _ _ _ _
   | exact truantlaw09_awake.mono _
   | exact truantlaw09_wide.mono _ _ _ _ _ _ _
   | exact LeO.none _
   | refine LeO.ite ?_ ?_
   | refine LeO.bind ?_ (fun _ => ?_)
end Go.Proofs.Ytclhjalgflebfaa.Q

