/- What the row of UIrUses rests on, part 0: contracts of the functions that it reaches, and the plain law. -/
import Derived.Test.YtkiiojgaaoaipaaDoorProg
import Derived.Below
import Derived.Deep.Draws
import Derived.Deep.AppendLies
import Derived.Maps.AppendAt
import Derived.OwnWalk
import Derived.Laws.BytesArg
import Derived.Laws.MakeOwn
import Derived.Laws.OwnMore
import Derived.Deep.OwnRows
import Derived.Tactics
import Derived.Lib.ConvBytes
import Derived.Laws.Slices
import Derived.WalkKit
import Derived.KernelRfl
import Derived.RowKit3
import Derived.Deep.LoopGhost
import Derived.Deep.QuietTactic
import Derived.BigQuiet
import Derived.WideLaws
import Derived.Deep.DeepCutAuto
import Derived.Deep.CutBlock
import Derived.Deep.RegionHeld3
import Derived.Laws.Rows
import Derived.Lib.AppendStr
import Derived.ArgAppend
import Derived.Laws.IdiomCopy
import Derived.OrdersHeld
import Derived.Laws.BitsLemmas
import Derived.RowKit
import Derived.Test.YtkiiojgaaoaipaaDoorWWords
import Derived.Test.YtkiiojgaaoaipaaDoorWLast
import Derived.Test.YtkiiojgaaoaipaaDoorWTab
import Derived.Test.YtkiiojgaaoaipaaDoorWQPut
import Derived.Test.YtkiiojgaaoaipaaDoorWApart
import Derived.Test.YtkiiojgaaoaipaaDoorWArr
import Derived.Test.YtkiiojgaaoaipaaDoorWZeros
import Derived.Test.YtkiiojgaaoaipaaDoorWFoot
import Derived.Test.YtkiiojgaaoaipaaDoorWKept
import Derived.Test.YtkiiojgaaoaipaaDoorWShare
import Derived.Test.YtkiiojgaaoaipaaDoorWN
import Derived.Test.YtkiiojgaaoaipaaDoorWEqStruct
import Derived.Test.YtkiiojgaaoaipaaDoorWRepsOne
import Derived.Test.YtkiiojgaaoaipaaDoorWInv
import Derived.Test.YtkiiojgaaoaipaaDoorWGuard
import Derived.Test.YtkiiojgaaoaipaaDoorWNEv
import Derived.Test.YtkiiojgaaoaipaaDoorWMore
import Derived.Shelf.Strings.Builder1
import Derived.Shelf.Strings.Builder2
import Derived.Shelf.Strings.OnBuilder
import Derived.Shelf.Small.Bits
import Derived.Shelf.Small.Wraps
import Derived.Shelf.Strings.BuilderF
import Derived.Shelf.Strings.BuilderK
import Derived.Shelf.Strings.Builder2Cap
import Derived.Shelf.Strconv.Itoa0
import Derived.Shelf.Strconv.Itoa1
import Derived.Shelf.LaysM
import Derived.Shelf.Strconv.Itoa2
import Derived.Shelf.Strconv.Itoa3
import Derived.Shelf.Sort.Plain
import Derived.Shelf.Slices.Turned
import Derived.Shelf.Slices.Equal
import Derived.Ground.Names2Prog
import Derived.Shelf.Slices.Clone
import Derived.Shelf.Slices.CompactI
import Derived.Shelf.Slices.SearchI
import Derived.Shelf.Slices.Cells
import Derived.Shelf.Slices.In.SortNone
import Derived.Shelf.Slices.Empties2
import Derived.Ground.SlgnProg
import Derived.Shelf.SlicesE.Equal
import Derived.Shelf.SlicesE.Compact
import Derived.Shelf.SlicesE.Clone
import Derived.Lib.AppendIntMem
import Derived.Deep.WholeRow
import Derived.ChangeKeysEq
import Derived.Maps.OwnOps
import Derived.Maps.Views
import Derived.Maps.Keyed
import Derived.Sort.OwnSortedInts
import Derived.Deep.Slices
import Derived.SizedLaws
import Derived.OpenShut
import Derived.ProofKit
import Derived.Lib.ItoaLen
import Derived.Lib.Strings
import Derived.Lib.Join
import Derived.Deep.DeepHandedRow
import Derived.ShutString
import Derived.ChangeOld
import Derived.Test.YtkiiojgaaoaipaaDoorCards
import Derived.Test.YtkiiojgaaoaipaaDoorTie
import Derived.Stop.LaidErr
import Derived.Stop.Joined
import Derived.Lib.LaidTab
import Derived.LaidMore
import Derived.Lay
import Derived.SevenTiedAt
namespace Go.Proofs.YtkiiojgaaoaipaaDoor.Q
open Go.RowKit Go.Proofs.YtkiiojgaaoaipaaDoorW.PrintWords Go.Proofs.YtkiiojgaaoaipaaDoorW.PrintLast Go.Proofs.YtkiiojgaaoaipaaDoorW.PrintMore
theorem bq0 {P : Prop} (h : P := by (with_reducible repeat (first | apply Kd.R_alloc | apply Kd.R_drewN | apply Kd.R_drew)); exact (Kd.R_mono (Kd.R_far (p := ⟨gb218, 5, none⟩) (Kd.R_far (p := ⟨gb218, 4, none⟩) (Kd.R_far (p := ⟨gb218, 3, none⟩) (Kd.R_far (p := ⟨gb218, 2, none⟩) (Kd.R_far (p := ⟨gb218, 1, none⟩) (Kd.R_far (p := ⟨gb218, 0, none⟩) (Kd.R_types HO_3.out BK218.out (by decide)) (fun _ hk => hk.2) (.string ((rd_T40 l0_2 x67_3).f0))) (fun _ hk => hk.2) (.slice A217_1 ((rd_T40 l0_2 x67_3).f1).length c217_1)) (fun _ hk => hk.2) (.string ((rd_T40 l0_2 x67_3).f2))) (fun _ hk => hk.2) (.slice A217_3 ((rd_T40 l0_2 x67_3).f3).length c217_3)) (fun _ hk => hk.2) (.slice A217_4 ((rd_T40 l0_2 x67_3).f4).length c217_4)) (fun _ hk => hk.2) (.slice A217_5 ((rd_T40 l0_2 x67_3).f5).length c217_5)) (fun _ h_ => h_.1))) : P := h
theorem bq1 {P : Prop} (h : P := by (with_reducible repeat (first | apply Kd.R_alloc | apply Kd.R_drewN | apply Kd.R_drew)); exact (Kd.R_mono (Kd.R_far (p := ⟨gb199, 1, none⟩) (Kd.R_far (p := ⟨gb199, 0, none⟩) (Kd.R_types HO_3.out BK199.out (by decide)) (fun _ hk => hk.2) (.string ((rd_T58 l0_0 x16_1).f0))) (fun _ hk => hk.2) (.slice A198_1 ((rd_T58 l0_0 x16_1).f1).length c198_1)) (fun _ h_ => h_.1))) : P := h
theorem bq2 {P : Prop} (h : P := by rw [hg]; exact (below_size (by repeat (first | (with_reducible first | exact HB.out | apply below_alloc | apply pw_below_drewN | apply below_drew1 | refine below_set ?_ GE387.out | refine below_set ?_ GE388.out | refine below_set ?_ GE395.out) | exact HB.out)))) : P := h
theorem bq3 {P : Prop} (h : P := by rw [hg]; exact (below_size (by repeat (first | (with_reducible first | exact HB.out | apply below_alloc | apply pw_below_drewN | apply below_drew1 | refine below_set ?_ GE412.out | refine below_set ?_ GE413.out | refine below_set ?_ GE417.out) | exact HB.out)))) : P := h
theorem bq4 {P : Prop} (h : P := by repeat (first | (with_reducible first | exact HB.out | apply below_alloc | apply pw_below_drewN | apply below_drew1 | refine below_set ?_ GE387.out | refine below_set ?_ GE388.out | refine below_set ?_ GE395.out | refine below_set ?_ GE397.out) | exact HB.out)) : P := h
theorem bq5 {P : Prop} (h : P := by repeat (first | (with_reducible first | exact HB.out | apply below_alloc | apply pw_below_drewN | apply below_drew1 | refine below_set ?_ GE387.out | refine below_set ?_ GE388.out | refine below_set ?_ GE395.out | refine below_set ?_ GE405.out) | exact HB.out)) : P := h
theorem bq6 {P : Prop} (h : P := by repeat (first | (with_reducible first | exact HB.out | apply below_alloc | apply pw_below_drewN | apply below_drew1 | refine below_set ?_ GE412.out | refine below_set ?_ GE413.out | refine below_set ?_ GE417.out | refine below_set ?_ GE419.out) | exact HB.out)) : P := h
theorem bq7 {P : Prop} (h : P := by repeat (first | (with_reducible first | exact HB.out | apply below_alloc | apply pw_below_drewN | apply below_drew1 | refine below_set ?_ GE412.out | refine below_set ?_ GE413.out | refine below_set ?_ GE417.out | refine below_set ?_ GE427.out) | exact HB.out)) : P := h
theorem bq8 {P : Prop} (h : P := by rw [hg]; exact (below_size (by repeat (first | (with_reducible first | exact HB.out | apply below_alloc | apply pw_below_drewN | apply below_drew1 | refine below_set ?_ GE197.out | refine below_set ?_ GE199.out) | exact HB.out)))) : P := h
theorem bq9 {P : Prop} (h : P := by rw [hg]; exact (below_size (by repeat (first | (with_reducible first | exact HB.out | apply below_alloc | apply pw_below_drewN | apply below_drew1 | refine below_set ?_ GE387.out | refine below_set ?_ GE388.out) | exact HB.out)))) : P := h
theorem bq10 {P : Prop} (h : P := by rw [hg]; exact (below_size (by repeat (first | (with_reducible first | exact HB.out | apply below_alloc | apply pw_below_drewN | apply below_drew1 | refine below_set ?_ GE412.out | refine below_set ?_ GE413.out) | exact HB.out)))) : P := h
theorem bq11 {P : Prop} (h : P := by repeat (first | (with_reducible first | exact HB.out | apply below_alloc | apply pw_below_drewN | apply below_drew1 | refine below_set ?_ GE197.out | refine below_set ?_ GE199.out | refine below_set ?_ GE204.out) | exact HB.out)) : P := h
theorem bq12 {P : Prop} (h : P := by repeat (first | (with_reducible first | exact HB.out | apply below_alloc | apply pw_below_drewN | apply below_drew1 | refine below_set ?_ GE387.out | refine below_set ?_ GE388.out | refine below_set ?_ GE395.out) | exact HB.out)) : P := h
theorem bq13 {P : Prop} (h : P := by repeat (first | (with_reducible first | exact HB.out | apply below_alloc | apply pw_below_drewN | apply below_drew1 | refine below_set ?_ GE412.out | refine below_set ?_ GE413.out | refine below_set ?_ GE417.out) | exact HB.out)) : P := h
theorem bq14 {P : Prop} (h : P := by rw [hg]; exact (below_size (by repeat (first | (with_reducible first | exact HB.out | apply below_alloc | apply pw_below_drewN | apply below_drew1 | refine below_set ?_ GE121.out) | exact HB.out)))) : P := h
theorem bq15 {P : Prop} (h : P := by rw [hg]; exact (below_size (by repeat (first | (with_reducible first | exact HB.out | apply below_alloc | apply pw_below_drewN | apply below_drew1 | refine below_set ?_ GE476.out) | exact HB.out)))) : P := h
theorem bq16 {P : Prop} (h : P := by rw [hg]; exact (below_size (by repeat (first | (with_reducible first | exact HB.out | apply below_alloc | apply pw_below_drewN | apply below_drew1 | refine below_set ?_ GE155.out) | exact HB.out)))) : P := h
theorem bq17 {P : Prop} (h : P := by rw [hg]; exact (below_size (by repeat (first | (with_reducible first | exact HB.out | apply below_alloc | apply pw_below_drewN | apply below_drew1 | refine below_set ?_ GE197.out) | exact HB.out)))) : P := h
theorem bq18 {P : Prop} (h : P := by rw [hg]; exact (below_size (by repeat (first | (with_reducible first | exact HB.out | apply below_alloc | apply pw_below_drewN | apply below_drew1 | refine below_set ?_ GE234.out) | exact HB.out)))) : P := h
theorem bq19 {P : Prop} (h : P := by rw [hg]; exact (below_size (by repeat (first | (with_reducible first | exact HB.out | apply below_alloc | apply pw_below_drewN | apply below_drew1 | refine below_set ?_ GE237.out) | exact HB.out)))) : P := h
theorem bq20 {P : Prop} (h : P := by rw [hg]; exact (below_size (by repeat (first | (with_reducible first | exact HB.out | apply below_alloc | apply pw_below_drewN | apply below_drew1 | refine below_set ?_ GE240.out) | exact HB.out)))) : P := h
theorem bq21 {P : Prop} (h : P := by rw [hg]; exact (below_size (by repeat (first | (with_reducible first | exact HB.out | apply below_alloc | apply pw_below_drewN | apply below_drew1 | refine below_set ?_ GE227.out) | exact HB.out)))) : P := h
theorem bq22 {P : Prop} (h : P := by rw [hg]; exact (below_size (by repeat (first | (with_reducible first | exact HB.out | apply below_alloc | apply pw_below_drewN | apply below_drew1 | refine below_set ?_ GE246.out) | exact HB.out)))) : P := h
theorem bq23 {P : Prop} (h : P := by rw [hg]; exact (below_size (by repeat (first | (with_reducible first | exact HB.out | apply below_alloc | apply pw_below_drewN | apply below_drew1 | refine below_set ?_ GE387.out) | exact HB.out)))) : P := h
theorem bq24 {P : Prop} (h : P := by rw [hg]; exact (below_size (by repeat (first | (with_reducible first | exact HB.out | apply below_alloc | apply pw_below_drewN | apply below_drew1 | refine below_set ?_ GE412.out) | exact HB.out)))) : P := h
theorem bq25 {P : Prop} (h : P := by repeat (first | (with_reducible first | exact HB.out | apply below_alloc | apply pw_below_drewN | apply below_drew1 | refine below_set ?_ GE121.out | refine below_set ?_ GE125.out) | exact HB.out)) : P := h
theorem bq26 {P : Prop} (h : P := by repeat (first | (with_reducible first | exact HB.out | apply below_alloc | apply pw_below_drewN | apply below_drew1 | refine below_set ?_ GE476.out | refine below_set ?_ GE480.out) | exact HB.out)) : P := h
theorem bq27 {P : Prop} (h : P := by repeat (first | (with_reducible first | exact HB.out | apply below_alloc | apply pw_below_drewN | apply below_drew1 | refine below_set ?_ GE155.out | refine below_set ?_ GE183.out) | exact HB.out)) : P := h
theorem bq28 {P : Prop} (h : P := by repeat (first | (with_reducible first | exact HB.out | apply below_alloc | apply pw_below_drewN | apply below_drew1 | refine below_set ?_ GE197.out | refine below_set ?_ GE199.out) | exact HB.out)) : P := h
theorem bq29 {P : Prop} (h : P := by repeat (first | (with_reducible first | exact HB.out | apply below_alloc | apply pw_below_drewN | apply below_drew1 | refine below_set ?_ GE197.out | refine below_set ?_ GE213.out) | exact HB.out)) : P := h
theorem bq30 {P : Prop} (h : P := by repeat (first | (with_reducible first | exact HB.out | apply below_alloc | apply pw_below_drewN | apply below_drew1 | refine below_set ?_ GE197.out | refine below_set ?_ GE218.out) | exact HB.out)) : P := h
theorem bq31 {P : Prop} (h : P := by repeat (first | (with_reducible first | exact HB.out | apply below_alloc | apply pw_below_drewN | apply below_drew1 | refine below_set ?_ GE240.out | refine below_set ?_ GE241.out) | exact HB.out)) : P := h
theorem bq32 {P : Prop} (h : P := by repeat (first | (with_reducible first | exact HB.out | apply below_alloc | apply pw_below_drewN | apply below_drew1 | refine below_set ?_ GE246.out | refine below_set ?_ GE247.out) | exact HB.out)) : P := h
theorem bq33 {P : Prop} (h : P := by repeat (first | (with_reducible first | exact HB.out | apply below_alloc | apply pw_below_drewN | apply below_drew1 | refine below_set ?_ GE387.out | refine below_set ?_ GE388.out) | exact HB.out)) : P := h
theorem bq34 {P : Prop} (h : P := by repeat (first | (with_reducible first | exact HB.out | apply below_alloc | apply pw_below_drewN | apply below_drew1 | refine below_set ?_ GE412.out | refine below_set ?_ GE413.out) | exact HB.out)) : P := h
theorem bq35 {P : Prop} (h : P := by rw [hg]; exact (below_size (by repeat (first | (with_reducible first | exact HB.out | apply below_alloc | apply pw_below_drewN | apply below_drew1) | exact HB.out)))) : P := h
theorem bq36 {P : Prop} (h : P := by repeat (first | (with_reducible first | exact HB.out | apply below_alloc | apply pw_below_drewN | apply below_drew1 | refine below_set ?_ GE476.out) | exact HB.out)) : P := h
theorem bq37 {P : Prop} (h : P := by repeat (first | (with_reducible first | exact HB.out | apply below_alloc | apply pw_below_drewN | apply below_drew1 | refine below_set ?_ GE148.out) | exact HB.out)) : P := h
theorem bq38 {P : Prop} (h : P := by repeat (first | (with_reducible first | exact HB.out | apply below_alloc | apply pw_below_drewN | apply below_drew1 | refine below_set ?_ GE155.out) | exact HB.out)) : P := h
theorem bq39 {P : Prop} (h : P := by repeat (first | (with_reducible first | exact HB.out | apply below_alloc | apply pw_below_drewN | apply below_drew1 | refine below_set ?_ GE197.out) | exact HB.out)) : P := h
theorem bq40 {P : Prop} (h : P := by repeat (first | (with_reducible first | exact HB.out | apply below_alloc | apply pw_below_drewN | apply below_drew1 | refine below_set ?_ GE234.out) | exact HB.out)) : P := h
theorem bq41 {P : Prop} (h : P := by repeat (first | (with_reducible first | exact HB.out | apply below_alloc | apply pw_below_drewN | apply below_drew1 | refine below_set ?_ GE237.out) | exact HB.out)) : P := h
theorem bq42 {P : Prop} (h : P := by repeat (first | (with_reducible first | exact HB.out | apply below_alloc | apply pw_below_drewN | apply below_drew1 | refine below_set ?_ GE240.out) | exact HB.out)) : P := h
theorem bq43 {P : Prop} (h : P := by repeat (first | (with_reducible first | exact HB.out | apply below_alloc | apply pw_below_drewN | apply below_drew1 | refine below_set ?_ GE227.out) | exact HB.out)) : P := h
theorem bq44 {P : Prop} (h : P := by repeat (first | (with_reducible first | exact HB.out | apply below_alloc | apply pw_below_drewN | apply below_drew1 | refine below_set ?_ GE246.out) | exact HB.out)) : P := h
theorem bq45 {P : Prop} (h : P := by repeat (first | (with_reducible first | exact HB.out | apply below_alloc | apply pw_below_drewN | apply below_drew1 | refine below_set ?_ GE445.out) | exact HB.out)) : P := h
theorem bq46 {P : Prop} (h : P := by repeat (first | (with_reducible first | exact HB.out | apply below_alloc | apply pw_below_drewN | apply below_drew1 | refine below_set ?_ GE576.out) | exact HB.out)) : P := h
theorem bq47 {P : Prop} (h : P := by (with_reducible repeat (first | apply Kd.R_alloc | apply Kd.R_drewN | apply Kd.R_drew)); exact Kd.R_mono HO_45.out (fun _ hk => ⟨trivial, hk⟩)) : P := h
theorem bq48 {P : Prop} (h : P := by (try simp only [List.map_toArray, List.map_cons, List.map_nil]); first | done | rfl | (simp only [List.length_drop, List.length_take]; rfl)) : P := h
theorem bq49 {P : Prop} (h : P := by (with_reducible repeat (first | apply Kd.R_alloc | apply Kd.R_drewN | apply Kd.R_drew)); exact Kd.R_mono HO391.out (fun _ hk => hk.2)) : P := h
theorem bq50 {P : Prop} (h : P := by (with_reducible repeat (first | apply Kd.R_alloc | apply Kd.R_drewN | apply Kd.R_drew)); exact Kd.R_mono HO394.out (fun _ hk => hk.2)) : P := h
theorem bq51 {P : Prop} (h : P := by repeat (first | (with_reducible first | exact HB.out | apply below_alloc | apply pw_below_drewN | apply below_drew1) | exact HB.out)) : P := h
theorem bq52 {P : Prop} (h : P := by (with_reducible repeat (first | refine blk_drewN ?_ _ | refine blk_drew ?_ | refine blk_alloc ?_ _)); exact BK387.out) : P := h
theorem bq53 {P : Prop} (h : P := by (with_reducible repeat (first | refine blk_drewN ?_ _ | refine blk_drew ?_ | refine blk_alloc ?_ _)); exact BK388.out) : P := h
theorem bq54 {P : Prop} (h : P := by (with_reducible repeat (first | refine blk_drewN ?_ _ | refine blk_drew ?_ | refine blk_alloc ?_ _)); exact BK395.out) : P := h
theorem bq55 {P : Prop} (h : P := by (with_reducible repeat (first | refine blk_drewN ?_ _ | refine blk_drew ?_ | refine blk_alloc ?_ _)); exact BK445.out) : P := h
theorem bq56 {P : Prop} (h : P := by (with_reducible repeat (first | apply Kd.R_alloc | apply Kd.R_drewN | apply Kd.R_drew)); exact HO_396001.out) : P := h
theorem bq57 {P : Prop} (h : P := by (with_reducible repeat (first | apply Kd.R_alloc | apply Kd.R_drewN | apply Kd.R_drew)); exact HO_396003.out) : P := h
theorem bq58 {P : Prop} (h : P := by (with_reducible repeat (first | apply Kd.S_alloc | apply Kd.S_drewN | apply Kd.S_drew)); exact HO_396004.out) : P := h
theorem bq59 {P : Prop} (h : P := by (with_reducible repeat (first | apply Kd.S_alloc | apply Kd.S_drewN | apply Kd.S_drew)); exact HO_396005.out) : P := h
theorem bq60 {P : Prop} (h : P := by (with_reducible repeat (first | apply Kd.S_alloc | apply Kd.S_drewN | apply Kd.S_drew)); exact HO_418000.out) : P := h
theorem bq61 {P : Prop} (h : P := by (with_reducible repeat (first | apply Kd.R_alloc | apply Kd.R_drewN | apply Kd.R_drew)); exact HO_418001.out) : P := h
theorem bq62 {P : Prop} (h : P := by (with_reducible repeat (first | apply Kd.R_alloc | apply Kd.R_drewN | apply Kd.R_drew)); exact HO_418002.out) : P := h
theorem bq63 {P : Prop} (h : P := by (with_reducible repeat (first | apply Kd.R_alloc | apply Kd.R_drewN | apply Kd.R_drew)); exact HO130.out) : P := h
theorem bq64 {P : Prop} (h : P := by (with_reducible repeat (first | apply Kd.R_alloc | apply Kd.R_drewN | apply Kd.R_drew)); exact HO_45.out) : P := h
theorem bq65 {P : Prop} (h : P := by (with_reducible repeat (first | apply Kd.R_alloc | apply Kd.R_drewN | apply Kd.R_drew)); exact HO171.out) : P := h
theorem bq66 {P : Prop} (h : P := by (with_reducible repeat (first | apply Kd.R_alloc | apply Kd.R_drewN | apply Kd.R_drew)); exact HO177.out) : P := h
theorem bq67 {P : Prop} (h : P := by (with_reducible repeat (first | apply Kd.R_alloc | apply Kd.R_drewN | apply Kd.R_drew)); exact HO221.out) : P := h
theorem bq68 {P : Prop} (h : P := by (with_reducible repeat (first | apply Kd.R_alloc | apply Kd.R_drewN | apply Kd.R_drew)); exact HO391.out) : P := h
theorem bq69 {P : Prop} (h : P := by (with_reducible repeat (first | apply Kd.R_alloc | apply Kd.R_drewN | apply Kd.R_drew)); exact HO448.out) : P := h
theorem bq70 {P : Prop} (h : P := by (with_reducible repeat (first | apply Kd.N_alloc | apply Kd.N_drewN | apply Kd.N_drew)); exact HO454.out) : P := h
theorem bq71 {P : Prop} (h : P := by (with_reducible repeat (first | apply Kd.R_alloc | apply Kd.R_drewN | apply Kd.R_drew)); exact HO_6.out) : P := h
theorem bq72 {P : Prop} (h : P := by (with_reducible repeat (first | apply Kd.R_alloc | apply Kd.R_drewN | apply Kd.R_drew)); exact HO_3.out) : P := h
theorem bq73 {P : Prop} (h : P := by (with_reducible repeat (first | apply Kd.R_alloc | apply Kd.R_drewN | apply Kd.R_drew)); exact HO_4.out) : P := h
theorem bq74 {P : Prop} (h : P := by (with_reducible repeat (first | apply Kd.R_alloc | apply Kd.R_drewN | apply Kd.R_drew)); exact HO_5.out) : P := h
theorem bq75 {P : Prop} (h : P := by simp only [putAll, Act.put, List.setIfInBounds_toArray, List.set_cons_zero, List.set_cons_succ]) : P := h
theorem bq76 {P : Prop} (h : P := by simp only [List.map_toArray, List.map_cons, List.map_nil]; rfl) : P := h
theorem bq77 {P : Prop} (h : P := by first | (with_reducible assumption) | assumption) : P := h
theorem bq78 {P : Prop} (h : P := by first | rfl | (simp; done) | (simp [*]; done)) : P := h
theorem bq79 {P : Prop} (h : P := by rw [hg]; exact Nat.ne_of_lt (blkL BK197.out)) : P := h
theorem bq80 {P : Prop} (h : P := by rw [hg]; exact Nat.ne_of_gt (blkL BK197.out)) : P := h
theorem bq81 {P : Prop} (h : P := by rw [hg]; exact Nat.ne_of_lt (blkL BK234.out)) : P := h
theorem bq82 {P : Prop} (h : P := by rw [hg]; exact Nat.ne_of_gt (blkL BK234.out)) : P := h
theorem bq83 {P : Prop} (h : P := by rw [hg]; exact Nat.ne_of_lt (blkL BK237.out)) : P := h
theorem bq84 {P : Prop} (h : P := by rw [hg]; exact Nat.ne_of_gt (blkL BK237.out)) : P := h
theorem bq85 {P : Prop} (h : P := by rw [hg]; exact Nat.ne_of_lt (blkL BK240.out)) : P := h
theorem bq86 {P : Prop} (h : P := by rw [hg]; exact Nat.ne_of_gt (blkL BK240.out)) : P := h
theorem bq87 {P : Prop} (h : P := by rw [hg]; exact Nat.ne_of_lt (blkL BK246.out)) : P := h
theorem bq88 {P : Prop} (h : P := by rw [hg]; exact Nat.ne_of_gt (blkL BK246.out)) : P := h
theorem bq89 {P : Prop} (h : P := by rw [hg]; exact Nat.ne_of_lt (blkL BK387.out)) : P := h
theorem bq90 {P : Prop} (h : P := by rw [hg]; exact Nat.ne_of_gt (blkL BK387.out)) : P := h
theorem bq91 {P : Prop} (h : P := by rw [hg]; exact Nat.ne_of_lt (blkL BK388.out)) : P := h
theorem bq92 {P : Prop} (h : P := by rw [hg]; exact Nat.ne_of_gt (blkL BK388.out)) : P := h
theorem bq93 {P : Prop} (h : P := by rw [hg]; exact Nat.ne_of_lt (blkL BK412.out)) : P := h
theorem bq94 {P : Prop} (h : P := by rw [hg]; exact Nat.ne_of_gt (blkL BK412.out)) : P := h
theorem bq95 {P : Prop} (h : P := by rw [hg]; exact Nat.ne_of_lt (blkL BK413.out)) : P := h
theorem bq96 {P : Prop} (h : P := by rw [hg]; exact Nat.ne_of_gt (blkL BK413.out)) : P := h
theorem bq97 {P : Prop} (h : P := by rw [← EX.out, ← EY.out]; exact hxy) : P := h
attribute [local go_sem] max2_int min2_int max_two min_two max_three min_three max_four min_four   -- for this text's walks alone
set_option linter.unusedVariables false
set_option linter.unusedSimpArgs false
def errW : Option Int → Value
 | none => .nilIface
 | some c => .iface 0 (.int .i64 c)
theorem errW_none : errW none = .nilIface := rfl
theorem errW_some (c : Int) : errW (some c) = .iface 0 (.int .i64 c) := rfl
theorem info3 : (Tryd.prog.info? 3).map (fun i => (i.zero, i.size, i.bytes)) = some (some (.int .i64 0), 1, 8) := by kernel_rfl
theorem info9 : (Tryd.prog.info? 9).map (fun i => (i.zero, i.size, i.bytes)) = some (some (.string ⟨#[]⟩), 1, 16) := by kernel_rfl
theorem info40 : (Tryd.prog.info? 40).map (fun i => (i.zero, i.size, i.bytes)) = some (some (.agg #[(.string ⟨#[]⟩), (.slice none 0 0), (.string ⟨#[]⟩), (.slice none 0 0), (.slice none 0 0), (.slice none 0 0)]), 6, 128) := by kernel_rfl
theorem info47 : (Tryd.prog.info? 47).map (fun i => (i.zero, i.size, i.bytes)) = some (some (.agg #[(.int .i64 0), (.string ⟨#[]⟩), (.slice none 0 0), (.int .i64 0), (.string ⟨#[]⟩)]), 5, 72) := by kernel_rfl
theorem info53 : (Tryd.prog.info? 53).map (fun i => (i.zero, i.size, i.bytes)) = some (some (.agg #[(.slice none 0 0), (.int .i64 0), (.int .i64 0), (.int .i64 0), (.int .i64 0)]), 5, 56) := by kernel_rfl
theorem info58 : (Tryd.prog.info? 58).map (fun i => (i.zero, i.size, i.bytes)) = some (some (.agg #[(.string ⟨#[]⟩), (.slice none 0 0)]), 2, 40) := by kernel_rfl
-- the values' own types
/-! #### struct type 47 -/
structure S47 where
 f0 : Int
 f1 : ByteArray
 f2 : (List Int)
 f3 : Int
 f4 : ByteArray
def z47 : S47 := ⟨(0 : Int), (⟨#[]⟩ : ByteArray), ([] : List Int), (0 : Int), (⟨#[]⟩ : ByteArray)⟩
def k47 : Kd S47 := Kd.iso (Kd.pair (Kd.int .i64) (Kd.pair Kd.string (Kd.pair (Kd.slice 3 (Kd.int .i64)) (Kd.pair (Kd.int .i64) Kd.string)))) (fun x : S47 => (x.f0, x.f1, x.f2, x.f3, x.f4))
theorem k47_open {w : World} {x : S47} {cs : List Value} (h : k47.K w x cs) : ∃ A2 c2, cs = [.int .i64 x.f0, .string x.f1, .slice A2 x.f2.length c2, .int .i64 x.f3, .string x.f4] ∧ x.f2.length ≤ c2 ∧ (Kd.int .i64).C w A2 x.f2.length x.f2 := by
 obtain ⟨_, _, rfl, rfl, ⟨_, _, rfl, rfl, ⟨_, _, rfl, ⟨A2, c2, rfl, l2, g2⟩, ⟨_, _, rfl, rfl, rfl⟩⟩⟩⟩ := h
 exact ⟨A2, c2, rfl, l2, g2⟩
theorem k47_openM {w : World} {base : Nat} {ok : Nat → Prop} {x : S47} {cs : List Value} (h : k47.M w base ok x cs) : ∃ v2, cs = [.int .i64 x.f0, .string x.f1, v2, .int .i64 x.f3, .string x.f4] ∧ (Kd.int .i64).R 3 w base ok v2 x.f2 := by
 obtain ⟨_, _, rfl, rfl, ⟨_, _, rfl, rfl, ⟨_, _, rfl, ⟨v2, rfl, g2⟩, ⟨_, _, rfl, rfl, rfl⟩⟩⟩⟩ := h
 exact ⟨v2, rfl, g2⟩
theorem k47_mk (w : World) (x : S47) {A2 : Option Addr} {c2 : Nat} (l2 : x.f2.length ≤ c2) (g2 : (Kd.int .i64).C w A2 x.f2.length x.f2) : k47.K w x [.int .i64 x.f0, .string x.f1, .slice A2 x.f2.length c2, .int .i64 x.f3, .string x.f4] := ⟨[.int .i64 x.f0], [.string x.f1, .slice A2 x.f2.length c2, .int .i64 x.f3, .string x.f4], rfl, rfl, ⟨[.string x.f1], [.slice A2 x.f2.length c2, .int .i64 x.f3, .string x.f4], rfl, rfl, ⟨[.slice A2 x.f2.length c2], [.int .i64 x.f3, .string x.f4], rfl, ⟨A2, c2, rfl, l2, g2⟩, ⟨[.int .i64 x.f3], [.string x.f4], rfl, rfl, rfl⟩⟩⟩⟩
theorem k47_mkM (w : World) (base : Nat) (ok : Nat → Prop) (x : S47) {v2 : Value} (g2 : (Kd.int .i64).R 3 w base ok v2 x.f2) : k47.M w base ok x [.int .i64 x.f0, .string x.f1, v2, .int .i64 x.f3, .string x.f4] := ⟨[.int .i64 x.f0], [.string x.f1, v2, .int .i64 x.f3, .string x.f4], rfl, rfl, ⟨[.string x.f1], [v2, .int .i64 x.f3, .string x.f4], rfl, rfl, ⟨[v2], [.int .i64 x.f3, .string x.f4], rfl, ⟨v2, rfl, g2⟩, ⟨[.int .i64 x.f3], [.string x.f4], rfl, rfl, rfl⟩⟩⟩⟩
theorem k47_mkF (W : World) (ok : Nat → Prop) (x : S47) {A2 : Option Addr} {c2 : Nat} (l2 : x.f2.length ≤ c2) (g2 : Kd.F (Kd.int .i64) W ok A2 x.f2.length x.f2) : Kd.FK k47 W ok x [.int .i64 x.f0, .string x.f1, .slice A2 x.f2.length c2, .int .i64 x.f3, .string x.f4] := fun W2 hW => k47_mk W2 x l2 (g2 W2 hW)
def rd_T47 (xs : List S47) (i : Int) : S47 := xs.getD i.toNat z47
theorem at_T47 {w : World} {A : Option Addr} {n : Nat} {xs : List S47} (h : Kd.C k47 w A n xs) (i : Int) (h0 : 0 ≤ i) (h1 : i < n) : ∃ ad A2 c2, A = some ad ∧ w.cell? (ad.add (i.toNat * 5)) = some (.int .i64 (rd_T47 xs i).f0) ∧ w.cell? ⟨(ad.add (i.toNat * 5)).block, (ad.add (i.toNat * 5)).off + 1, none⟩ = some (.string (rd_T47 xs i).f1) ∧ w.cell? ⟨(ad.add (i.toNat * 5)).block, (ad.add (i.toNat * 5)).off + 2, none⟩ = some (.slice A2 (rd_T47 xs i).f2.length c2) ∧ w.cell? ⟨(ad.add (i.toNat * 5)).block, (ad.add (i.toNat * 5)).off + 3, none⟩ = some (.int .i64 (rd_T47 xs i).f3) ∧ w.cell? ⟨(ad.add (i.toNat * 5)).block, (ad.add (i.toNat * 5)).off + 4, none⟩ = some (.string (rd_T47 xs i).f4) ∧ (rd_T47 xs i).f2.length ≤ c2 ∧ (Kd.int .i64).C w A2 (rd_T47 xs i).f2.length (rd_T47 xs i).f2 := by
 obtain ⟨ad, c, e, _, hK, hc0⟩ := Kd.C_get h z47 i h0 h1
 have hc : ∀ j u, c[j]? = some u → w.cell? (ad.add (i.toNat * 5 + j)) = some u := hc0
 obtain ⟨A2, c2, rfl, l2, g2⟩ := k47_open hK
 exact ⟨ad, A2, c2, e, hc 0 _ rfl, by rw [← add_field _ _ 1 (by omega)]; exact hc 1 _ rfl, by rw [← add_field _ _ 2 (by omega)]; exact hc 2 _ rfl, by rw [← add_field _ _ 3 (by omega)]; exact hc 3 _ rfl, by rw [← add_field _ _ 4 (by omega)]; exact hc 4 _ rfl, l2, g2⟩
/-! #### struct type 51 -/
structure S51 where
 f0 : Int
 f1 : Int
def z51 : S51 := ⟨(0 : Int), (0 : Int)⟩
def k51 : Kd S51 := Kd.iso (Kd.pair (Kd.int .i64) (Kd.int .i64)) (fun x : S51 => (x.f0, x.f1))
theorem k51_open {w : World} {x : S51} {cs : List Value} (h : k51.K w x cs) : cs = [.int .i64 x.f0, .int .i64 x.f1] := by
 obtain ⟨_, _, rfl, rfl, rfl⟩ := h
 exact rfl
theorem k51_mk (w : World) (x : S51)  : k51.K w x [.int .i64 x.f0, .int .i64 x.f1] := ⟨[.int .i64 x.f0], [.int .i64 x.f1], rfl, rfl, rfl⟩
theorem k51_mkM (w : World) (base : Nat) (ok : Nat → Prop) (x : S51)  : k51.M w base ok x [.int .i64 x.f0, .int .i64 x.f1] := ⟨[.int .i64 x.f0], [.int .i64 x.f1], rfl, rfl, rfl⟩
/-! #### struct type 53 -/
structure S53 where
 f0 : (List Int)
 f1 : Int
 f2 : Int
 f3 : S51
def z53 : S53 := ⟨([] : List Int), (0 : Int), (0 : Int), z51⟩
def k53 : Kd S53 := Kd.iso (Kd.pair (Kd.slice 3 (Kd.int .i64)) (Kd.pair (Kd.int .i64) (Kd.pair (Kd.int .i64) k51))) (fun x : S53 => (x.f0, x.f1, x.f2, x.f3))
theorem k53_open {w : World} {x : S53} {cs : List Value} (h : k53.K w x cs) : ∃ A0 c0, cs = [.slice A0 x.f0.length c0, .int .i64 x.f1, .int .i64 x.f2, .int .i64 x.f3.f0, .int .i64 x.f3.f1] ∧ x.f0.length ≤ c0 ∧ (Kd.int .i64).C w A0 x.f0.length x.f0 := by
 obtain ⟨_, _, rfl, ⟨A0, c0, rfl, l0, g0⟩, ⟨_, _, rfl, rfl, ⟨_, _, rfl, rfl, s3⟩⟩⟩ := h
 obtain rfl := k51_open s3
 exact ⟨A0, c0, rfl, l0, g0⟩
theorem k53_mk (w : World) (x : S53) {A0 : Option Addr} {c0 : Nat} (l0 : x.f0.length ≤ c0) (g0 : (Kd.int .i64).C w A0 x.f0.length x.f0) : k53.K w x [.slice A0 x.f0.length c0, .int .i64 x.f1, .int .i64 x.f2, .int .i64 x.f3.f0, .int .i64 x.f3.f1] := ⟨[.slice A0 x.f0.length c0], [.int .i64 x.f1, .int .i64 x.f2, .int .i64 x.f3.f0, .int .i64 x.f3.f1], rfl, ⟨A0, c0, rfl, l0, g0⟩, ⟨[.int .i64 x.f1], [.int .i64 x.f2, .int .i64 x.f3.f0, .int .i64 x.f3.f1], rfl, rfl, ⟨[.int .i64 x.f2], [.int .i64 x.f3.f0, .int .i64 x.f3.f1], rfl, rfl, (k51_mk w x.f3 )⟩⟩⟩
theorem k53_mkM (w : World) (base : Nat) (ok : Nat → Prop) (x : S53) {v0 : Value} (g0 : (Kd.int .i64).R 3 w base ok v0 x.f0) : k53.M w base ok x [v0, .int .i64 x.f1, .int .i64 x.f2, .int .i64 x.f3.f0, .int .i64 x.f3.f1] := ⟨[v0], [.int .i64 x.f1, .int .i64 x.f2, .int .i64 x.f3.f0, .int .i64 x.f3.f1], rfl, ⟨v0, rfl, g0⟩, ⟨[.int .i64 x.f1], [.int .i64 x.f2, .int .i64 x.f3.f0, .int .i64 x.f3.f1], rfl, rfl, ⟨[.int .i64 x.f2], [.int .i64 x.f3.f0, .int .i64 x.f3.f1], rfl, rfl, (k51_mkM w base ok x.f3 )⟩⟩⟩
theorem k53_mkF (W : World) (ok : Nat → Prop) (x : S53) {A0 : Option Addr} {c0 : Nat} (l0 : x.f0.length ≤ c0) (g0 : Kd.F (Kd.int .i64) W ok A0 x.f0.length x.f0) : Kd.FK k53 W ok x [.slice A0 x.f0.length c0, .int .i64 x.f1, .int .i64 x.f2, .int .i64 x.f3.f0, .int .i64 x.f3.f1] := fun W2 hW => k53_mk W2 x l0 (g0 W2 hW)
def rd_T53 (xs : List S53) (i : Int) : S53 := xs.getD i.toNat z53
theorem at_T53 {w : World} {A : Option Addr} {n : Nat} {xs : List S53} (h : Kd.C k53 w A n xs) (i : Int) (h0 : 0 ≤ i) (h1 : i < n) : ∃ ad A0 c0, A = some ad ∧ w.cell? (ad.add (i.toNat * 5)) = some (.slice A0 (rd_T53 xs i).f0.length c0) ∧ w.cell? ⟨(ad.add (i.toNat * 5)).block, (ad.add (i.toNat * 5)).off + 1, none⟩ = some (.int .i64 (rd_T53 xs i).f1) ∧ w.cell? ⟨(ad.add (i.toNat * 5)).block, (ad.add (i.toNat * 5)).off + 2, none⟩ = some (.int .i64 (rd_T53 xs i).f2) ∧ w.cell? ⟨(ad.add (i.toNat * 5)).block, (ad.add (i.toNat * 5)).off + 3, none⟩ = some (.int .i64 (rd_T53 xs i).f3.f0) ∧ w.cell? ⟨(ad.add (i.toNat * 5)).block, (ad.add (i.toNat * 5)).off + 4, none⟩ = some (.int .i64 (rd_T53 xs i).f3.f1) ∧ (rd_T53 xs i).f0.length ≤ c0 ∧ (Kd.int .i64).C w A0 (rd_T53 xs i).f0.length (rd_T53 xs i).f0 := by
 obtain ⟨ad, c, e, _, hK, hc0⟩ := Kd.C_get h z53 i h0 h1
 have hc : ∀ j u, c[j]? = some u → w.cell? (ad.add (i.toNat * 5 + j)) = some u := hc0
 obtain ⟨A0, c0, rfl, l0, g0⟩ := k53_open hK
 exact ⟨ad, A0, c0, e, hc 0 _ rfl, by rw [← add_field _ _ 1 (by omega)]; exact hc 1 _ rfl, by rw [← add_field _ _ 2 (by omega)]; exact hc 2 _ rfl, by rw [← add_field _ _ 3 (by omega)]; exact hc 3 _ rfl, by rw [← add_field _ _ 4 (by omega)]; exact hc 4 _ rfl, l0, g0⟩
/-! #### struct type 61 -/
structure S61 where
 f0 : ByteArray
 f1 : ByteArray
def z61 : S61 := ⟨(⟨#[]⟩ : ByteArray), (⟨#[]⟩ : ByteArray)⟩
def k61 : Kd S61 := Kd.iso (Kd.pair Kd.string Kd.string) (fun x : S61 => (x.f0, x.f1))
theorem k61_open {w : World} {x : S61} {cs : List Value} (h : k61.K w x cs) : cs = [.string x.f0, .string x.f1] := by
 obtain ⟨_, _, rfl, rfl, rfl⟩ := h
 exact rfl
def rd_T61 (xs : List S61) (i : Int) : S61 := xs.getD i.toNat z61
theorem at_T61 {w : World} {A : Option Addr} {n : Nat} {xs : List S61} (h : Kd.C k61 w A n xs) (i : Int) (h0 : 0 ≤ i) (h1 : i < n) : ∃ ad , A = some ad ∧ w.cell? (ad.add (i.toNat * 2)) = some (.string (rd_T61 xs i).f0) ∧ w.cell? ⟨(ad.add (i.toNat * 2)).block, (ad.add (i.toNat * 2)).off + 1, none⟩ = some (.string (rd_T61 xs i).f1) := by
 obtain ⟨ad, c, e, _, hK, hc0⟩ := Kd.C_get h z61 i h0 h1
 have hc : ∀ j u, c[j]? = some u → w.cell? (ad.add (i.toNat * 2 + j)) = some u := hc0
 obtain rfl := k61_open hK
 exact ⟨ad, e, hc 0 _ rfl, by rw [← add_field _ _ 1 (by omega)]; exact hc 1 _ rfl⟩
/-! #### struct type 58 -/
structure S58 where
 f0 : ByteArray
 f1 : (List S61)
def z58 : S58 := ⟨(⟨#[]⟩ : ByteArray), ([] : List S61)⟩
def k58 : Kd S58 := Kd.iso (Kd.pair Kd.string (Kd.slice 61 k61)) (fun x : S58 => (x.f0, x.f1))
theorem k58_open {w : World} {x : S58} {cs : List Value} (h : k58.K w x cs) : ∃ A1 c1, cs = [.string x.f0, .slice A1 x.f1.length c1] ∧ x.f1.length ≤ c1 ∧ k61.C w A1 x.f1.length x.f1 := by
 obtain ⟨_, _, rfl, rfl, ⟨A1, c1, rfl, l1, g1⟩⟩ := h
 exact ⟨A1, c1, rfl, l1, g1⟩
theorem k58_mkM (w : World) (base : Nat) (ok : Nat → Prop) (x : S58) {v1 : Value} (g1 : k61.R 61 w base ok v1 x.f1) : k58.M w base ok x [.string x.f0, v1] := ⟨[.string x.f0], [v1], rfl, rfl, ⟨v1, rfl, g1⟩⟩
def rd_T58 (xs : List S58) (i : Int) : S58 := xs.getD i.toNat z58
theorem at_T58 {w : World} {A : Option Addr} {n : Nat} {xs : List S58} (h : Kd.C k58 w A n xs) (i : Int) (h0 : 0 ≤ i) (h1 : i < n) : ∃ ad A1 c1, A = some ad ∧ w.cell? (ad.add (i.toNat * 2)) = some (.string (rd_T58 xs i).f0) ∧ w.cell? ⟨(ad.add (i.toNat * 2)).block, (ad.add (i.toNat * 2)).off + 1, none⟩ = some (.slice A1 (rd_T58 xs i).f1.length c1) ∧ (rd_T58 xs i).f1.length ≤ c1 ∧ k61.C w A1 (rd_T58 xs i).f1.length (rd_T58 xs i).f1 := by
 obtain ⟨ad, c, e, _, hK, hc0⟩ := Kd.C_get h z58 i h0 h1
 have hc : ∀ j u, c[j]? = some u → w.cell? (ad.add (i.toNat * 2 + j)) = some u := hc0
 obtain ⟨A1, c1, rfl, l1, g1⟩ := k58_open hK
 exact ⟨ad, A1, c1, e, hc 0 _ rfl, by rw [← add_field _ _ 1 (by omega)]; exact hc 1 _ rfl, l1, g1⟩
/-! #### struct type 40 -/
structure S40 where
 f0 : ByteArray
 f1 : (List ByteArray)
 f2 : ByteArray
 f3 : (List ByteArray)
 f4 : (List S47)
 f5 : (List S53)
def z40 : S40 := ⟨(⟨#[]⟩ : ByteArray), ([] : List ByteArray), (⟨#[]⟩ : ByteArray), ([] : List ByteArray), ([] : List S47), ([] : List S53)⟩
def k40 : Kd S40 := Kd.iso (Kd.pair Kd.string (Kd.pair (Kd.slice 9 Kd.string) (Kd.pair Kd.string (Kd.pair (Kd.slice 9 Kd.string) (Kd.pair (Kd.slice 47 k47) (Kd.slice 53 k53)))))) (fun x : S40 => (x.f0, x.f1, x.f2, x.f3, x.f4, x.f5))
theorem k40_open {w : World} {x : S40} {cs : List Value} (h : k40.K w x cs) : ∃ A1 c1 A3 c3 A4 c4 A5 c5, cs = [.string x.f0, .slice A1 x.f1.length c1, .string x.f2, .slice A3 x.f3.length c3, .slice A4 x.f4.length c4, .slice A5 x.f5.length c5] ∧ x.f1.length ≤ c1 ∧ Kd.string.C w A1 x.f1.length x.f1 ∧ x.f3.length ≤ c3 ∧ Kd.string.C w A3 x.f3.length x.f3 ∧ x.f4.length ≤ c4 ∧ k47.C w A4 x.f4.length x.f4 ∧ x.f5.length ≤ c5 ∧ k53.C w A5 x.f5.length x.f5 := by
 obtain ⟨_, _, rfl, rfl, ⟨_, _, rfl, ⟨A1, c1, rfl, l1, g1⟩, ⟨_, _, rfl, rfl, ⟨_, _, rfl, ⟨A3, c3, rfl, l3, g3⟩, ⟨_, _, rfl, ⟨A4, c4, rfl, l4, g4⟩, ⟨A5, c5, rfl, l5, g5⟩⟩⟩⟩⟩⟩ := h
 exact ⟨A1, c1, A3, c3, A4, c4, A5, c5, rfl, l1, g1, l3, g3, l4, g4, l5, g5⟩
theorem k40_openM {w : World} {base : Nat} {ok : Nat → Prop} {x : S40} {cs : List Value} (h : k40.M w base ok x cs) : ∃ v1 v3 v4 v5, cs = [.string x.f0, v1, .string x.f2, v3, v4, v5] ∧ Kd.string.R 9 w base ok v1 x.f1 ∧ Kd.string.R 9 w base ok v3 x.f3 ∧ k47.R 47 w base ok v4 x.f4 ∧ k53.R 53 w base ok v5 x.f5 := by
 obtain ⟨_, _, rfl, rfl, ⟨_, _, rfl, ⟨v1, rfl, g1⟩, ⟨_, _, rfl, rfl, ⟨_, _, rfl, ⟨v3, rfl, g3⟩, ⟨_, _, rfl, ⟨v4, rfl, g4⟩, ⟨v5, rfl, g5⟩⟩⟩⟩⟩⟩ := h
 exact ⟨v1, v3, v4, v5, rfl, g1, g3, g4, g5⟩
theorem k40_mk (w : World) (x : S40) {A1 : Option Addr} {c1 : Nat} (l1 : x.f1.length ≤ c1) (g1 : Kd.string.C w A1 x.f1.length x.f1) {A3 : Option Addr} {c3 : Nat} (l3 : x.f3.length ≤ c3) (g3 : Kd.string.C w A3 x.f3.length x.f3) {A4 : Option Addr} {c4 : Nat} (l4 : x.f4.length ≤ c4) (g4 : k47.C w A4 x.f4.length x.f4) {A5 : Option Addr} {c5 : Nat} (l5 : x.f5.length ≤ c5) (g5 : k53.C w A5 x.f5.length x.f5) : k40.K w x [.string x.f0, .slice A1 x.f1.length c1, .string x.f2, .slice A3 x.f3.length c3, .slice A4 x.f4.length c4, .slice A5 x.f5.length c5] := ⟨[.string x.f0], [.slice A1 x.f1.length c1, .string x.f2, .slice A3 x.f3.length c3, .slice A4 x.f4.length c4, .slice A5 x.f5.length c5], rfl, rfl, ⟨[.slice A1 x.f1.length c1], [.string x.f2, .slice A3 x.f3.length c3, .slice A4 x.f4.length c4, .slice A5 x.f5.length c5], rfl, ⟨A1, c1, rfl, l1, g1⟩, ⟨[.string x.f2], [.slice A3 x.f3.length c3, .slice A4 x.f4.length c4, .slice A5 x.f5.length c5], rfl, rfl, ⟨[.slice A3 x.f3.length c3], [.slice A4 x.f4.length c4, .slice A5 x.f5.length c5], rfl, ⟨A3, c3, rfl, l3, g3⟩, ⟨[.slice A4 x.f4.length c4], [.slice A5 x.f5.length c5], rfl, ⟨A4, c4, rfl, l4, g4⟩, ⟨A5, c5, rfl, l5, g5⟩⟩⟩⟩⟩⟩
theorem k40_mkM (w : World) (base : Nat) (ok : Nat → Prop) (x : S40) {v1 : Value} (g1 : Kd.string.R 9 w base ok v1 x.f1) {v3 : Value} (g3 : Kd.string.R 9 w base ok v3 x.f3) {v4 : Value} (g4 : k47.R 47 w base ok v4 x.f4) {v5 : Value} (g5 : k53.R 53 w base ok v5 x.f5) : k40.M w base ok x [.string x.f0, v1, .string x.f2, v3, v4, v5] := ⟨[.string x.f0], [v1, .string x.f2, v3, v4, v5], rfl, rfl, ⟨[v1], [.string x.f2, v3, v4, v5], rfl, ⟨v1, rfl, g1⟩, ⟨[.string x.f2], [v3, v4, v5], rfl, rfl, ⟨[v3], [v4, v5], rfl, ⟨v3, rfl, g3⟩, ⟨[v4], [v5], rfl, ⟨v4, rfl, g4⟩, ⟨v5, rfl, g5⟩⟩⟩⟩⟩⟩
def rd_T40 (xs : List S40) (i : Int) : S40 := xs.getD i.toNat z40
theorem at_T40 {w : World} {A : Option Addr} {n : Nat} {xs : List S40} (h : Kd.C k40 w A n xs) (i : Int) (h0 : 0 ≤ i) (h1 : i < n) : ∃ ad A1 c1 A3 c3 A4 c4 A5 c5, A = some ad ∧ w.cell? (ad.add (i.toNat * 6)) = some (.string (rd_T40 xs i).f0) ∧ w.cell? ⟨(ad.add (i.toNat * 6)).block, (ad.add (i.toNat * 6)).off + 1, none⟩ = some (.slice A1 (rd_T40 xs i).f1.length c1) ∧ w.cell? ⟨(ad.add (i.toNat * 6)).block, (ad.add (i.toNat * 6)).off + 2, none⟩ = some (.string (rd_T40 xs i).f2) ∧ w.cell? ⟨(ad.add (i.toNat * 6)).block, (ad.add (i.toNat * 6)).off + 3, none⟩ = some (.slice A3 (rd_T40 xs i).f3.length c3) ∧ w.cell? ⟨(ad.add (i.toNat * 6)).block, (ad.add (i.toNat * 6)).off + 4, none⟩ = some (.slice A4 (rd_T40 xs i).f4.length c4) ∧ w.cell? ⟨(ad.add (i.toNat * 6)).block, (ad.add (i.toNat * 6)).off + 5, none⟩ = some (.slice A5 (rd_T40 xs i).f5.length c5) ∧ (rd_T40 xs i).f1.length ≤ c1 ∧ Kd.string.C w A1 (rd_T40 xs i).f1.length (rd_T40 xs i).f1 ∧ (rd_T40 xs i).f3.length ≤ c3 ∧ Kd.string.C w A3 (rd_T40 xs i).f3.length (rd_T40 xs i).f3 ∧ (rd_T40 xs i).f4.length ≤ c4 ∧ k47.C w A4 (rd_T40 xs i).f4.length (rd_T40 xs i).f4 ∧ (rd_T40 xs i).f5.length ≤ c5 ∧ k53.C w A5 (rd_T40 xs i).f5.length (rd_T40 xs i).f5 := by
 obtain ⟨ad, c, e, _, hK, hc0⟩ := Kd.C_get h z40 i h0 h1
 have hc : ∀ j u, c[j]? = some u → w.cell? (ad.add (i.toNat * 6 + j)) = some u := hc0
 obtain ⟨A1, c1, A3, c3, A4, c4, A5, c5, rfl, l1, g1, l3, g3, l4, g4, l5, g5⟩ := k40_open hK
 exact ⟨ad, A1, c1, A3, c3, A4, c4, A5, c5, e, hc 0 _ rfl, by rw [← add_field _ _ 1 (by omega)]; exact hc 1 _ rfl, by rw [← add_field _ _ 2 (by omega)]; exact hc 2 _ rfl, by rw [← add_field _ _ 3 (by omega)]; exact hc 3 _ rfl, by rw [← add_field _ _ 4 (by omega)]; exact hc 4 _ rfl, by rw [← add_field _ _ 5 (by omega)]; exact hc 5 _ rfl, l1, g1, l3, g3, l4, g4, l5, g5⟩
end Go.Proofs.YtkiiojgaaoaipaaDoor.Q
/- Small lemmas that the hand-proved contracts of this seat use. -/
namespace Go.Proofs.YtkiiojgaaoaipaaDoor.Q
open Go.RowKit Go.Proofs.YtkiiojgaaoaipaaDoorW.PrintWords Go.Proofs.YtkiiojgaaoaipaaDoorW.PrintLast Go.Proofs.YtkiiojgaaoaipaaDoorW.PrintMore
set_option linter.unusedVariables false
set_option linter.unusedSimpArgs false
theorem Drawn0.trans {w w1 w2 : World} (h : Drawn0 w w1) (k : Drawn0 w1 w2) : Drawn0 w w2 := by
 obtain ⟨n, rfl⟩ := k
 exact h.step n
theorem tl_len (s : ByteArray) : s.toList.length = s.size := by rw [ByteArray.toList_eq, Array.length_toList]; rfl
theorem all_succ {P : Nat → Prop} {k : Nat} (h : ∀ i, i < k → P i) (hk : P k) : ∀ i, i < k + 1 → P i := fun i hi => by
 by_cases e : i = k
 ·subst e; exact hk
 ·exact h i (by omega)
theorem getD_at {α : Type} (l : List α) (z : α) {k : Nat} (hk : k < l.length) : l.getD k z = l[k] := by simp [List.getD, List.getElem?_eq_getElem hk]
noncomputable def decB (p : Prop) : Bool := @decide p (Classical.propDecidable p)
theorem decB_true {p : Prop} (h : p) : decB p = true := by unfold decB; exact @decide_eq_true p (Classical.propDecidable p) h
theorem decB_false {p : Prop} (h : ¬ p) : decB p = false := by unfold decB; exact @decide_eq_false p (Classical.propDecidable p) h
theorem bytes_eq {a b : ByteArray} (h : a.toList = b.toList) : a = b := by
 rw [ByteArray.toList_eq, ByteArray.toList_eq] at h
 cases a; cases b; simp only [Array.toList_inj] at h; rw [h]
theorem lists_eq {α : Type} {l l' : List α} (z : α) (hn : l.length = l'.length) (h : ∀ j : Nat, j < l.length → l.getD j z = l'.getD j z) : l = l' := by
 apply List.ext_getElem hn
 intro i h1 h2
 have := h i h1
 rwa [getD_at l z h1, getD_at l' z h2] at this
theorem wrap_succ {i : Int} (h0 : 0 ≤ i) (h : i < 9223372036854775807) : wrap64 (i + 1) = i + 1 := by unfold wrap64; omega
/- shorter words for printed walks (short.py) -/
section
variable {w0 w w1 : World} {g : Nat} {t : TypeId}
theorem bk2 {v0 v1 : Value} (h : w.heap[g]? = some (.cells #[v0, v1] t (0, 0))) : w.cell? ⟨g, 0, none⟩ = some v0 ∧ w.cell? ⟨g, 1, none⟩ = some v1 ∧ w.frozen? ⟨g, 0, none⟩ = false ∧ w.frozen? ⟨g, 1, none⟩ = false :=
 ⟨(blk_cell h 0).trans rfl, (blk_cell h 1).trans rfl, blk_frozen h 0, blk_frozen h 1⟩
theorem bk3 {v0 v1 v2 : Value} (h : w.heap[g]? = some (.cells #[v0, v1, v2] t (0, 0))) : w.cell? ⟨g, 0, none⟩ = some v0 ∧ w.cell? ⟨g, 1, none⟩ = some v1 ∧ w.cell? ⟨g, 2, none⟩ = some v2 ∧ w.frozen? ⟨g, 0, none⟩ = false ∧ w.frozen? ⟨g, 1, none⟩ = false ∧ w.frozen? ⟨g, 2, none⟩ = false :=
 ⟨(blk_cell h 0).trans rfl, (blk_cell h 1).trans rfl, (blk_cell h 2).trans rfl, blk_frozen h 0, blk_frozen h 1, blk_frozen h 2⟩
theorem bk5 {v0 v1 v2 v3 v4 : Value} (h : w.heap[g]? = some (.cells #[v0, v1, v2, v3, v4] t (0, 0))) : w.cell? ⟨g, 0, none⟩ = some v0 ∧ w.cell? ⟨g, 1, none⟩ = some v1 ∧ w.cell? ⟨g, 2, none⟩ = some v2 ∧ w.cell? ⟨g, 3, none⟩ = some v3 ∧ w.cell? ⟨g, 4, none⟩ = some v4 ∧ w.frozen? ⟨g, 0, none⟩ = false ∧ w.frozen? ⟨g, 1, none⟩ = false ∧ w.frozen? ⟨g, 2, none⟩ = false ∧ w.frozen? ⟨g, 3, none⟩ = false ∧ w.frozen? ⟨g, 4, none⟩ = false :=
 ⟨(blk_cell h 0).trans rfl, (blk_cell h 1).trans rfl, (blk_cell h 2).trans rfl, (blk_cell h 3).trans rfl, (blk_cell h 4).trans rfl, blk_frozen h 0, blk_frozen h 1, blk_frozen h 2, blk_frozen h 3, blk_frozen h 4⟩
theorem bk6 {v0 v1 v2 v3 v4 v5 : Value} (h : w.heap[g]? = some (.cells #[v0, v1, v2, v3, v4, v5] t (0, 0))) : w.cell? ⟨g, 0, none⟩ = some v0 ∧ w.cell? ⟨g, 1, none⟩ = some v1 ∧ w.cell? ⟨g, 2, none⟩ = some v2 ∧ w.cell? ⟨g, 3, none⟩ = some v3 ∧ w.cell? ⟨g, 4, none⟩ = some v4 ∧ w.cell? ⟨g, 5, none⟩ = some v5 ∧ w.frozen? ⟨g, 0, none⟩ = false ∧ w.frozen? ⟨g, 1, none⟩ = false ∧ w.frozen? ⟨g, 2, none⟩ = false ∧ w.frozen? ⟨g, 3, none⟩ = false ∧ w.frozen? ⟨g, 4, none⟩ = false ∧ w.frozen? ⟨g, 5, none⟩ = false :=
 ⟨(blk_cell h 0).trans rfl, (blk_cell h 1).trans rfl, (blk_cell h 2).trans rfl, (blk_cell h 3).trans rfl, (blk_cell h 4).trans rfl, (blk_cell h 5).trans rfl, blk_frozen h 0, blk_frozen h 1, blk_frozen h 2, blk_frozen h 3, blk_frozen h 4, blk_frozen h 5⟩
theorem blkB {o : Obj} (h : w0.heap[g]? = some o) (hb : Below w.heap.size w w1) (e : w0.heap[g]? = some o → w.heap[g]? = some o := by intro h_; (with_reducible repeat (first | refine blk_drewN ?_ _ | refine blk_drew ?_ | refine blk_alloc ?_ _)); exact h_) : w1.heap[g]? = some o := blk_below (e h) hb
theorem blkG {o : Obj} {row : Option Nat} (h : w0.heap[g]? = some o) (hg : w.grownBy w1 row) (hne : some g ≠ row) (e : w0.heap[g]? = some o → w.heap[g]? = some o := by intro h_; (with_reducible repeat (first | refine blk_drewN ?_ _ | refine blk_drew ?_ | refine blk_alloc ?_ _)); exact h_) : w1.heap[g]? = some o := blk_grown (e h) hg hne
theorem blkL {o : Obj} (h : w0.heap[g]? = some o) (e : w0.heap[g]? = some o → w.heap[g]? = some o := by intro h_; (with_reducible repeat (first | refine blk_drewN ?_ _ | refine blk_drew ?_ | refine blk_alloc ?_ _)); exact h_) : g < w.heap.size := blk_lt (e h)
end
/-- a times true, then b times false -/
abbrev tf (a b : Nat) : Array Bool := (List.replicate a true ++ List.replicate b false).toArray
end Go.Proofs.YtkiiojgaaoaipaaDoor.Q
namespace Go.Proofs.YtkiiojgaaoaipaaDoor.Q
open Go.RowKit Go.Proofs.YtkiiojgaaoaipaaDoorW.PrintWords Go.Proofs.YtkiiojgaaoaipaaDoorW.PrintLast Go.Proofs.YtkiiojgaaoaipaaDoorW.PrintMore
attribute [local go_sem] max2_int min2_int max_two min_two max_three min_three max_four min_four   -- for this text's walks alone
set_option linter.unusedVariables false
set_option linter.unusedSimpArgs false
/-! ### ir_IsOp: function 16 -/
def ir_IsOp.f (a0 : Int) : Option (Bool) := if a0 ≥ 1 then (if a0 ≤ 34 then (some (a0 != 19)) else (some false)) else (some false)
set_option maxHeartbeats 8000000 in
set_option maxRecDepth 100000 in
theorem ir_IsOp.calls (a0 : Int) (r : Bool) (w : World) (h : ir_IsOp.f a0 = some r) :
  Calls Tryd.prog 16 #[.int .i64 a0] w fun e w' => e = .returned (.bool r) ∧ Drawn0 w w' := by
 have H : (if a0 ≥ 1 then (if a0 ≤ 34 then (some (a0 != 19)) else (some false)) else (some false)) = some r := h
 clear h
 by_cases c2 : a0 ≥ 1
 ·rw [if_pos c2] at H
  have c2b0 := decide_eq_true c2
  clear c2
  by_cases c3 : a0 ≤ 34
  ·rw [if_pos c3] at H
   have c3b0 := decide_eq_true c3
   clear c3
   obtain rfl := Option.some.inj H
   go_enter Tryd.func16, Tryd.ntmps16
   go_wp2
   go_ret
   exact ⟨bq78, by repeat (first | exact Drawn0.refl _ | apply Drawn0.step)⟩
  ·rw [if_neg c3] at H
   have c3b0 := decide_eq_false c3
   clear c3
   obtain rfl := Option.some.inj H
   go_enter Tryd.func16, Tryd.ntmps16
   go_wp2
   go_ret
   exact ⟨bq78, by repeat (first | exact Drawn0.refl _ | apply Drawn0.step)⟩
 ·rw [if_neg c2] at H
  have c2b0 := decide_eq_false c2
  clear c2
  obtain rfl := Option.some.inj H
  go_enter Tryd.func16, Tryd.ntmps16
  go_wp2
  go_ret
  exact ⟨bq78, by repeat (first | exact Drawn0.refl _ | apply Drawn0.step)⟩
end Go.Proofs.YtkiiojgaaoaipaaDoor.Q
-- (laid by the kit's lay-shelf and lay-plain at this seat's dump)
/- The library's contracts at this program. -/
namespace Go.Proofs
open Go.Shelf
def Tryd.lays156_ren : Go.Shelf.Ren := ⟨fun | 156 => 29 | 165 => 45 | 166 => 46 | 169 => 47 | 240 => 62 | 241 => 63 | 276 => 77 | 277 => 78 | n => n, fun | 31 => 31 | 9 => 9 | 3 => 3 | 4 => 4 | 0 => 0 | 20 => 20 | 72 => 76 | 76 => 80 | 70 => 73 | 37 => 74 | 75 => 79 | 127 => 94 | 164 => 108 | 5 => 5 | 80 => 82 | n => n, fun | n => n⟩
theorem Tryd.lays156 : Go.Proofs.Lays.n156 Tryd.prog Tryd.lays156_ren := {
 mixed := by kernel_rfl
 f156 := Tryd.func29.trans (congrArg some (by kernel_rfl))
 f165 := Tryd.func45.trans (congrArg some (by kernel_rfl))
 f166 := Tryd.func46.trans (congrArg some (by kernel_rfl))
 f169 := Tryd.func47.trans (congrArg some (by kernel_rfl))
 f240 := Tryd.func62.trans (congrArg some (by kernel_rfl))
 f241 := Tryd.func63.trans (congrArg some (by kernel_rfl))
 f276 := Tryd.func77.trans (congrArg some (by kernel_rfl))
 f277 := Tryd.func78.trans (congrArg some (by kernel_rfl))
 t0 := Tryd.underlying0
 a0 := Tryd.isAgg0
 z0 := Tryd.sizeOf0
 v0 := Tryd.zeroValue0
 t3 := Tryd.underlying3
 a3 := Tryd.isAgg3
 z3 := Tryd.sizeOf3
 v3 := Tryd.zeroValue3
 t4 := Tryd.underlying4
 a4 := Tryd.isAgg4
 z4 := Tryd.sizeOf4
 v4 := Tryd.zeroValue4
 t9 := Tryd.underlying9
 a9 := Tryd.isAgg9
 z9 := Tryd.sizeOf9
 v9 := Tryd.zeroValue9
 t20 := Tryd.underlying20
 a20 := Tryd.isAgg20
 z20 := Tryd.sizeOf20
 v20 := Tryd.zeroValue20
 t31 := Tryd.underlying31
 a31 := Tryd.isAgg31
 z31 := Tryd.sizeOf31
 v31 := Tryd.zeroValue31
 t37 := Tryd.underlying74
 a37 := Tryd.isAgg74
 z37 := Tryd.sizeOf74
 v37 := Tryd.zeroValue74
 t70 := Tryd.underlying73
 a70 := Tryd.isAgg73
 z70 := Tryd.sizeOf73
 v70 := Tryd.zeroValue73
 t72 := Tryd.underlying76
 a72 := Tryd.isAgg76
 z72 := Tryd.sizeOf76
 v72 := Tryd.zeroValue76
 t75 := Tryd.underlying79
 a75 := Tryd.isAgg79
 z75 := Tryd.sizeOf79
 v75 := Tryd.zeroValue79
 t76 := Tryd.underlying80
 a76 := Tryd.isAgg80
 z76 := Tryd.sizeOf80
 v76 := Tryd.zeroValue80
 t127 := Tryd.underlying94
 a127 := Tryd.isAgg94
 z127 := Tryd.sizeOf94
 v127 := Tryd.zeroValue94
 t164 := Tryd.underlying108
 a164 := Tryd.isAgg108
 z164 := Tryd.sizeOf108
 v164 := Tryd.zeroValue108 }
theorem Tryd.Builder_Extra_156 : Builder.Extra Tryd.prog Tryd.lays156_ren := {
 sizeBuilder := by kernel_rfl
 liesBuilder := by kernel_rfl
 t5 := Tryd.underlying5
 a5 := Tryd.isAgg5
 z5 := Tryd.sizeOf5
 v5 := Tryd.zeroValue5
 infoByte := by kernel_rfl
 cellsByte := by kernel_rfl
 sizeByte := by kernel_rfl
 neB5 := by decide }
open Go.RowKit in
theorem Tryd.strings_Join_none (a : Option Addr) (c : Nat) (sep : ByteArray) (w : World) :
  Calls Tryd.prog 29 #[.slice a 0 c, .string sep] w fun e w' => e = .returned (.string ⟨#[]⟩) ∧ w' = w := Any.strings_Join_none Tryd.lays156 Tryd.Builder_Extra_156 a c sep w
open Go.RowKit in
theorem Tryd.strings_Join (bk o c : Nat) (xs : List ByteArray) (sep : ByteArray) (w : World) (hcells : ∀ (j : Nat) x, xs[j]? = some x → w.cell? ⟨bk, o + j, none⟩ = some (.string x)) (hbk : bk < w.heap.size) (hN : xs.length ≤ 140737488355328) (hcap : xs.length ≤ c) (hlen : (Lib.join (xs.map (·.data.toList)) sep.data.toList).length ≤ 140737488355328) :
  Calls Tryd.prog 29 #[.slice (some ⟨bk, o, none⟩) xs.length c, .string sep] w fun e w' => e = .returned (.string ⟨(Lib.join (xs.map (·.data.toList)) sep.data.toList).toArray⟩) ∧ Below w.heap.size w w' := Any.strings_Join Tryd.lays156 Tryd.Builder_Extra_156 bk o c xs sep w hcells hbk hN hcap hlen
def Tryd.laysM171_ren : Go.Shelf.Ren := ⟨fun | 171 => 42 | 243 => 59 | 246 => 76 | 283 => 85 | 284 => 86 | 285 => 87 | 286 => 88 | 129 => 75 | 317 => 90 | 318 => 91 | 319 => 92 | 320 => 93 | 337 => 94 | 338 => 95 | n => n, fun | 3 => 3 | 9 => 9 | 2 => 2 | 4 => 4 | 171 => 117 | 0 => 0 | 53 => 106 | 37 => 74 | 5 => 5 | 173 => 119 | 212 => 125 | 51 => 104 | 20 => 20 | 213 => 126 | 46 => 50 | 232 => 127 | 233 => 128 | n => n, fun | 17 => 1 | 18 => 2 | 19 => 3 | n => n⟩
theorem Tryd.laysM171 : Go.Proofs.LaysM.n171 Tryd.prog Tryd.laysM171_ren := {
 mixed := by kernel_rfl
 f129 := Tryd.func75.trans (congrArg some (by kernel_rfl))
 f171 := Tryd.func42.trans (congrArg some (by kernel_rfl))
 f243 := Tryd.func59.trans (congrArg some (by kernel_rfl))
 f246 := Tryd.func76.trans (congrArg some (by kernel_rfl))
 f283 := Tryd.func85.trans (congrArg some (by kernel_rfl))
 f284 := Tryd.func86.trans (congrArg some (by kernel_rfl))
 f285 := Tryd.func87.trans (congrArg some (by kernel_rfl))
 f286 := Tryd.func88.trans (congrArg some (by kernel_rfl))
 f317 := Tryd.func90.trans (congrArg some (by kernel_rfl))
 f318 := Tryd.func91.trans (congrArg some (by kernel_rfl))
 f319 := Tryd.func92.trans (congrArg some (by kernel_rfl))
 f320 := Tryd.func93.trans (congrArg some (by kernel_rfl))
 f337 := Tryd.func94.trans (congrArg some (by kernel_rfl))
 f338 := Tryd.func95.trans (congrArg some (by kernel_rfl))
 t0 := Tryd.underlying0
 a0 := Tryd.isAgg0
 z0 := Tryd.sizeOf0
 v0 := Tryd.zeroValue0
 t2 := Tryd.underlying2
 a2 := Tryd.isAgg2
 z2 := Tryd.sizeOf2
 v2 := Tryd.zeroValue2
 t3 := Tryd.underlying3
 a3 := Tryd.isAgg3
 z3 := Tryd.sizeOf3
 v3 := Tryd.zeroValue3
 t4 := Tryd.underlying4
 a4 := Tryd.isAgg4
 z4 := Tryd.sizeOf4
 v4 := Tryd.zeroValue4
 t5 := Tryd.underlying5
 a5 := Tryd.isAgg5
 z5 := Tryd.sizeOf5
 v5 := Tryd.zeroValue5
 t9 := Tryd.underlying9
 a9 := Tryd.isAgg9
 z9 := Tryd.sizeOf9
 v9 := Tryd.zeroValue9
 t20 := Tryd.underlying20
 a20 := Tryd.isAgg20
 z20 := Tryd.sizeOf20
 v20 := Tryd.zeroValue20
 t37 := Tryd.underlying74
 a37 := Tryd.isAgg74
 z37 := Tryd.sizeOf74
 v37 := Tryd.zeroValue74
 t46 := Tryd.underlying50
 a46 := Tryd.isAgg50
 z46 := Tryd.sizeOf50
 v46 := Tryd.zeroValue50
 t51 := Tryd.underlying104
 a51 := Tryd.isAgg104
 z51 := Tryd.sizeOf104
 v51 := Tryd.zeroValue104
 t53 := Tryd.underlying106
 a53 := Tryd.isAgg106
 z53 := Tryd.sizeOf106
 v53 := Tryd.zeroValue106
 t171 := Tryd.underlying117
 a171 := Tryd.isAgg117
 z171 := Tryd.sizeOf117
 v171 := Tryd.zeroValue117
 t173 := Tryd.underlying119
 a173 := Tryd.isAgg119
 z173 := Tryd.sizeOf119
 v173 := Tryd.zeroValue119
 t212 := Tryd.underlying125
 a212 := Tryd.isAgg125
 z212 := Tryd.sizeOf125
 v212 := Tryd.zeroValue125
 t213 := Tryd.underlying126
 a213 := Tryd.isAgg126
 z213 := Tryd.sizeOf126
 t232 := Tryd.underlying127
 a232 := Tryd.isAgg127
 z232 := Tryd.sizeOf127
 v232 := Tryd.zeroValue127
 t233 := Tryd.underlying128
 a233 := Tryd.isAgg128
 z233 := Tryd.sizeOf128
 v233 := Tryd.zeroValue128
 g17 := by kernel_rfl
 g18 := by kernel_rfl
 g19 := by kernel_rfl
 i0 := by kernel_rfl
 i2 := by kernel_rfl
 i3 := by kernel_rfl
 i4 := by kernel_rfl
 i5 := by kernel_rfl
 i9 := by kernel_rfl
 i20 := by kernel_rfl
 i37 := by kernel_rfl
 i46 := by kernel_rfl
 i51 := by kernel_rfl
 i53 := by kernel_rfl
 i171 := by kernel_rfl
 i173 := by kernel_rfl
 i212 := by kernel_rfl
 i232 := by kernel_rfl
 i233 := by kernel_rfl
 m17 := by kernel_rfl
 m18 := by kernel_rfl
 m19 := by kernel_rfl }
open Go.RowKit Go.Sort Go.Lib in
theorem Tryd.strconv_Itoa (n : Int) (h0 : -9223372036854775808 ≤ n) (h1 : n ≤ 9223372036854775807) (w : World) (htab : Lib.TabIs Tryd.prog w "internal/strconv.uint64pow10" .u64 Lib.pow10Tab) :
  Calls Tryd.prog 42 #[.int .i64 n] w fun e w' => e = .returned (.string ⟨(Lib.itoa n).toArray⟩) ∧ ∃ k os, w' = grow (w.drewN k) os := Any.strconv_Itoa Tryd.laysM171 n h0 h1 w htab
def Tryd.lays189_ren : Go.Shelf.Ren := ⟨fun | 189 => 39 | 125 => 58 | 257 => 57 | 128 => 74 | 129 => 75 | 294 => 65 | 295 => 66 | 296 => 67 | 297 => 68 | 298 => 69 | 299 => 70 | 216 => 71 | 300 => 72 | 301 => 73 | 328 => 79 | 329 => 80 | 330 => 81 | 331 => 82 | 332 => 83 | 215 => 84 | 343 => 89 | n => n, fun | 28 => 42 | 3 => 3 | 46 => 50 | 0 => 0 | 51 => 104 | 53 => 106 | 4 => 4 | 183 => 97 | 182 => 96 | 131 => 101 | 5 => 5 | 9 => 9 | 218 => 111 | 222 => 115 | 228 => 121 | 229 => 122 | n => n, fun | n => n⟩
theorem Tryd.lays189 : Go.Proofs.Lays.n189 Tryd.prog Tryd.lays189_ren := {
 mixed := by kernel_rfl
 f125 := Tryd.func58.trans (congrArg some (by kernel_rfl))
 f128 := Tryd.func74.trans (congrArg some (by kernel_rfl))
 f129 := Tryd.func75.trans (congrArg some (by kernel_rfl))
 f189 := Tryd.func39.trans (congrArg some (by kernel_rfl))
 f215 := Tryd.func84.trans (congrArg some (by kernel_rfl))
 f216 := Tryd.func71.trans (congrArg some (by kernel_rfl))
 f257 := Tryd.func57.trans (congrArg some (by kernel_rfl))
 f294 := Tryd.func65.trans (congrArg some (by kernel_rfl))
 f295 := Tryd.func66.trans (congrArg some (by kernel_rfl))
 f296 := Tryd.func67.trans (congrArg some (by kernel_rfl))
 f297 := Tryd.func68.trans (congrArg some (by kernel_rfl))
 f298 := Tryd.func69.trans (congrArg some (by kernel_rfl))
 f299 := Tryd.func70.trans (congrArg some (by kernel_rfl))
 f300 := Tryd.func72.trans (congrArg some (by kernel_rfl))
 f301 := Tryd.func73.trans (congrArg some (by kernel_rfl))
 f328 := Tryd.func79.trans (congrArg some (by kernel_rfl))
 f329 := Tryd.func80.trans (congrArg some (by kernel_rfl))
 f330 := Tryd.func81.trans (congrArg some (by kernel_rfl))
 f331 := Tryd.func82.trans (congrArg some (by kernel_rfl))
 f332 := Tryd.func83.trans (congrArg some (by kernel_rfl))
 f343 := Tryd.func89.trans (congrArg some (by kernel_rfl))
 t0 := Tryd.underlying0
 a0 := Tryd.isAgg0
 z0 := Tryd.sizeOf0
 v0 := Tryd.zeroValue0
 t3 := Tryd.underlying3
 a3 := Tryd.isAgg3
 z3 := Tryd.sizeOf3
 v3 := Tryd.zeroValue3
 t4 := Tryd.underlying4
 a4 := Tryd.isAgg4
 z4 := Tryd.sizeOf4
 v4 := Tryd.zeroValue4
 t5 := Tryd.underlying5
 a5 := Tryd.isAgg5
 z5 := Tryd.sizeOf5
 v5 := Tryd.zeroValue5
 t9 := Tryd.underlying9
 a9 := Tryd.isAgg9
 z9 := Tryd.sizeOf9
 v9 := Tryd.zeroValue9
 t28 := Tryd.underlying42
 a28 := Tryd.isAgg42
 z28 := Tryd.sizeOf42
 v28 := Tryd.zeroValue42
 t46 := Tryd.underlying50
 a46 := Tryd.isAgg50
 z46 := Tryd.sizeOf50
 v46 := Tryd.zeroValue50
 t51 := Tryd.underlying104
 a51 := Tryd.isAgg104
 z51 := Tryd.sizeOf104
 v51 := Tryd.zeroValue104
 t53 := Tryd.underlying106
 a53 := Tryd.isAgg106
 z53 := Tryd.sizeOf106
 v53 := Tryd.zeroValue106
 t131 := Tryd.underlying101
 a131 := Tryd.isAgg101
 z131 := Tryd.sizeOf101
 v131 := Tryd.zeroValue101
 t182 := Tryd.underlying96
 a182 := Tryd.isAgg96
 z182 := Tryd.sizeOf96
 v182 := Tryd.zeroValue96
 t183 := Tryd.underlying97
 a183 := Tryd.isAgg97
 z183 := Tryd.sizeOf97
 v183 := Tryd.zeroValue97
 t218 := Tryd.underlying111
 a218 := Tryd.isAgg111
 z218 := Tryd.sizeOf111
 v218 := Tryd.zeroValue111
 t222 := Tryd.underlying115
 a222 := Tryd.isAgg115
 z222 := Tryd.sizeOf115
 v222 := Tryd.zeroValue115
 t228 := Tryd.underlying121
 a228 := Tryd.isAgg121
 z228 := Tryd.sizeOf121
 v228 := Tryd.zeroValue121
 t229 := Tryd.underlying122
 a229 := Tryd.isAgg122
 z229 := Tryd.sizeOf122
 v229 := Tryd.zeroValue122 }
open Go.Sort Go.RowKit in
theorem Tryd.slices_Sort_int (blk off cap : Nat) (zs : List Int) (w : World) (hH : Holds (Value.int .i64) w blk off zs.toArray) (hblk : blk < w.heap.size) (hsz : zs.length < 4611686018427387904) :
  Calls Tryd.prog 39 #[.slice (some ⟨blk, off, none⟩) zs.length cap] w fun e w' =>
   e = .returned (.tuple #[]) ∧ ∃ n os, w' = grow (putRow (Value.int .i64) (Sort.ahead w n) blk off (zs.mergeSort fun x y => decide (x ≤ y)).toArray) os := Any.slices_Sort_int Tryd.lays189 blk off cap zs w hH hblk hsz
def Tryd.laysNm220_ren : Go.Shelf.Ren := ⟨fun | 20 => 40 | n => n, fun | 22 => 42 | 3 => 3 | 4 => 4 | 0 => 0 | n => n, fun | n => n⟩
theorem Tryd.laysNm220 : Go.Proofs.Lays2.n20 Tryd.prog Tryd.laysNm220_ren := {
 mixed := by kernel_rfl
 f20 := Tryd.func40.trans (congrArg some (by kernel_rfl))
 t0 := Tryd.underlying0
 a0 := Tryd.isAgg0
 z0 := Tryd.sizeOf0
 v0 := Tryd.zeroValue0
 t3 := Tryd.underlying3
 a3 := Tryd.isAgg3
 z3 := Tryd.sizeOf3
 v3 := Tryd.zeroValue3
 t4 := Tryd.underlying4
 a4 := Tryd.isAgg4
 z4 := Tryd.sizeOf4
 v4 := Tryd.zeroValue4
 t22 := Tryd.underlying42
 a22 := Tryd.isAgg42
 z22 := Tryd.sizeOf42
 v22 := Tryd.zeroValue42
 i3 := by kernel_rfl }
open Go.RowKit Go.Lib Go.Sort in
theorem Tryd.slices_Compact_int (blk off cap : Nat) (zs : List Int) (w : World) (hH : Holds (Value.int .i64) w blk off zs.toArray) (hsz : zs.length ≤ 9223372036854775807) (hcap : zs.length ≤ cap) :
  Calls Tryd.prog 40 #[.slice (some ⟨blk, off, none⟩) zs.length cap] w fun e w' => e = .returned (.slice (some ⟨blk, off, none⟩) (Lib.compact zs).length cap) ∧ ∃ q, w' = putRow (Value.int .i64) (Sort.ahead w q) blk off (Lib.compact zs ++ List.replicate (zs.length - (Lib.compact zs).length) 0).toArray := Any.slices_Compact_int Tryd.laysNm220 blk off cap zs w hH hsz hcap
open Go.RowKit Go.Lib Go.Sort in
theorem Tryd.slices_Compact_int_empty (a : Option Addr) (cap : Nat) (w : World) :
  Calls Tryd.prog 40 #[.slice a 0 cap] w fun e w' => e = .returned (.slice a 0 cap) ∧ w' = w := Any.slices_Compact_int_empty Tryd.laysNm220 a cap w
open Go.RowKit Go.Sort in
theorem Tryd.slices_Sort_int_none (p : Option Addr) (cap : Nat) (w : World) :
  Calls Tryd.prog 39 #[.slice p 0 cap] w fun e w' => e = .returned (.tuple #[]) ∧ w' = w := Any.slices_Sort_int_none Tryd.lays189 p cap w
end Go.Proofs
/- strconv.Itoa, by the shelf; what it reads of the package-level variables. -/
namespace Go.Proofs.YtkiiojgaaoaipaaDoor.Q
open Go.RowKit Go.Proofs.YtkiiojgaaoaipaaDoorW.PrintWords Go.Proofs.YtkiiojgaaoaipaaDoorW.PrintLast Go.Proofs.YtkiiojgaaoaipaaDoorW.PrintMore
set_option linter.unusedVariables false
set_option linter.unusedSimpArgs false
open Go.Shelf
theorem var_old {n : String} {w w' : World} {cs : Array Value} (h : w.var? Tryd.prog n = some cs) (hb : Below w.heap.size w w') : w'.var? Tryd.prog n = some cs := by
 unfold World.var? at h ⊢
 cases hg : Tryd.prog.globalNamed n with
 | none => simp [hg] at h
 | some g =>
  simp only [hg, Option.bind_some] at h ⊢
  have hlt : g < w.heap.size := by
   rcases Nat.lt_or_ge g w.heap.size with h1 | h1
   ·exact h1
   ·rw [Array.getElem?_eq_none h1] at h
    cases h
  rw [hb.block g hlt]
  exact h
/-- What a call reads of the package-level variables. -/
def Glob (w : World) : Prop := Lib.TabIs Tryd.prog w "internal/strconv.uint64pow10" .u64 Lib.pow10Tab
theorem Glob.below {w w' : World} (h : Glob w) (hb : Below w.heap.size w w') : Glob w' := var_old h hb
def strconv_Itoa_42.f (a0 : Int) : Option (ByteArray) := if -9223372036854775808 ≤ a0 ∧ a0 ≤ 9223372036854775807 then some ⟨(Lib.itoa a0).toArray⟩ else none
theorem strconv_Itoa_42.calls (a0 : Int) (r : ByteArray) (w : World) (h : strconv_Itoa_42.f a0 = some r) (hG : Glob w := by first | assumption | (refine Glob.below (by assumption) ?_; repeat (first | with_reducible exact (Aside0.out (by assumption)) | (refine below_set ?_ (Aside0.out (by assumption))) | (with_reducible first | apply below_alloc | apply pw_below_drewN | apply below_drew1) | exact (Aside0.out (by assumption))))) :
  Calls Tryd.prog 42 #[.int .i64 a0] w fun e w' => e = .returned (.string r) ∧ Below w.heap.size w w' := by
 unfold strconv_Itoa_42.f at h
 split at h
 ·rename_i hs
  obtain rfl := Option.some.inj h
  clear h
  refine (Tryd.strconv_Itoa a0 hs.1 hs.2 _ hG).mono ?_
  rintro e w' ⟨rfl, k, os, rfl⟩
  exact ⟨rfl, Lib.below_grow _ _ (Nat.le_refl _) _ _⟩
 ·cases h
end Go.Proofs.YtkiiojgaaoaipaaDoor.Q
namespace Go.Proofs.YtkiiojgaaoaipaaDoor.Q
open Go.RowKit Go.Proofs.YtkiiojgaaoaipaaDoorW.PrintWords Go.Proofs.YtkiiojgaaoaipaaDoorW.PrintLast Go.Proofs.YtkiiojgaaoaipaaDoorW.PrintMore
attribute [local go_sem] max2_int min2_int max_two min_two max_three min_three max_four min_four   -- for this text's walks alone
set_option linter.unusedVariables false
set_option linter.unusedSimpArgs false
/-! ### ir_value: function 41 -/
def ir_value.f (a0 : Int) : Option (ByteArray) := (strconv_Itoa_42.f a0).bind fun t120 => (if 1 + t120.size ≤ 9223372036854775807 then (some ((⟨#[118]⟩ : ByteArray) ++ t120)) else (none))
set_option maxHeartbeats 8000000 in
set_option maxRecDepth 100000 in
theorem ir_value.calls (a0 : Int) (r : ByteArray) (w : World) (h : ir_value.f a0 = some r) (hG : Glob w := by first | assumption | (refine Glob.below (by assumption) ?_; repeat (first | with_reducible exact (Aside0.out (by assumption)) | (refine below_set ?_ (Aside0.out (by assumption))) | (with_reducible first | apply below_alloc | apply pw_below_drewN | apply below_drew1) | exact (Aside0.out (by assumption))))) :
  Calls Tryd.prog 41 #[.int .i64 a0] w fun e w' => e = .returned (.string r) ∧ Below w.heap.size w w' := by
 have HB := Aside0.mk (Below.refl w.heap.size w)
 have H : ((strconv_Itoa_42.f a0).bind fun t120 => (if 1 + t120.size ≤ 9223372036854775807 then (some ((⟨#[118]⟩ : ByteArray) ++ t120)) else (none))) = some r := h
 clear h
 replace H := Option.bind_eq_some_iff.mp H
 obtain ⟨t120, A20, H⟩ := H
 (try dsimp only at H)
 have A2 := Aside0.mk A20
 clear A20
 by_cases c3 : 1 + t120.size ≤ 9223372036854775807
 ·rw [if_pos c3] at H
  have c3b0 := eq_true c3
  have c3b1 := decide_eq_true c3
  try have c3b2 : (9223372036854775807 < 1 + t120.size) = False := eq_false (Nat.not_lt.2 c3)
  obtain rfl := Option.some.inj H
  go_enter Tryd.func41, Tryd.ntmps41
  go_wp2_with (first | ((with_reducible refine gate_callee (f := 42) rfl ?_); refine goesL_ (some 4) rfl rfl Tryd.func42 (by kernel_rfl) rfl #[.int .i64 a0] rfl (bq48) ?_; (with_reducible refine (strconv_Itoa_42.calls a0 t120 _ A2.out).mono ?_); rintro e w4 ⟨rfl, hb⟩; refine ⟨_, rfl, ?_⟩; have n0_ := Aside0.mk (below_step (bq51) hb); clear HB; have HB := n0_; clear n0_ hb))
  go_ret
  exact ⟨by first | rfl | (simp [errW_none, errW_some] <;> rfl) | (simp [*, errW_none, errW_some] <;> rfl), bq51⟩
 ·rw [if_neg c3] at H
  exact absurd H (by simp)
end Go.Proofs.YtkiiojgaaoaipaaDoor.Q
/- strings.Join, by the shelf. -/
namespace Go.Proofs.YtkiiojgaaoaipaaDoor.Q
open Go.RowKit Go.Proofs.YtkiiojgaaoaipaaDoorW.PrintWords Go.Proofs.YtkiiojgaaoaipaaDoorW.PrintLast Go.Proofs.YtkiiojgaaoaipaaDoorW.PrintMore
set_option linter.unusedVariables false
set_option linter.unusedSimpArgs false
open Go.Shelf
theorem spot_R {α : Type} {d : Kd α} {e : Nat} {w : World} {base : Nat} {ok : Nat → Prop} {A : Option Addr} {n c : Nat} {xs : List α} (h : d.R e w base ok (.slice A n c) xs) : ∀ ad, A = some ad → ad.spot = none := by
 have ho := h.2
 obtain ⟨inner, ho, _⟩ := ho
 unfold World.ownsRow at ho
 rcases ho.2 with ⟨h1, _⟩ | ⟨g, cap, cur, h1, _⟩
 ·injection h1 with h1
  intro ad ha
  rw [h1] at ha
  cases ha
 ·injection h1 with h1
  intro ad ha
  rw [h1] at ha
  injection ha with ha
  rw [← ha]
def strings_Join.f (l0 : List ByteArray) (a1 : ByteArray) : Option (ByteArray) := if l0.length ≤ 140737488355328 ∧ (Lib.join (l0.map (·.data.toList)) a1.data.toList).length ≤ 140737488355328 then some ⟨(Lib.join (l0.map (·.data.toList)) a1.data.toList).toArray⟩ else none
theorem strings_Join.calls (A0 : Option Addr) (c0 : Nat) (l0 : List ByteArray) (a1 : ByteArray) (r : ByteArray) (w : World) (hr0 : Kd.C Kd.string w A0 l0.length l0) (hc0 : l0.length ≤ c0) (h : strings_Join.f l0 a1 = some r) (hsp : ∀ ad, A0 = some ad → ad.spot = none := by first | exact spot_R (Aside0.out (by assumption)) | (intro ad ha; cases ha; rfl)) :
  Calls Tryd.prog 29 #[.slice A0 l0.length c0, .string a1] w fun e w' => e = .returned (.string r) ∧ Below w.heap.size w w' := by
 unfold strings_Join.f at h
 split at h
 case isFalse => cases h
 rename_i hlen
 obtain rfl := Option.some.inj h
 by_cases hn : 0 < l0.length
 ·obtain ⟨ad, e, hc⟩ := hr0.2.2 hn
  have hs := hsp ad e
  obtain ⟨bk, o, sp⟩ := ad
  obtain rfl : sp = none := hs
  subst e
  have hcells : ∀ (j : Nat) x, l0[j]? = some x → w.cell? ⟨bk, o + j, none⟩ = some (.string x) := fun j x hj => by
   obtain ⟨cs, h1, h2, h3⟩ := hc j x hj
   have h4 : cs = [.string x] := h2
   subst h4
   have h5 := h3 0 _ rfl
   have e1 : (Addr.add ⟨bk, o, none⟩ (j * Kd.string.sz + 0)) = ⟨bk, o + j, none⟩ := by
    have : j * Kd.string.sz + 0 = j := by show j * 1 + 0 = j; omega
    rw [this]
    unfold Addr.add
    split
    ·rename_i h0; subst h0; rfl
    ·rfl
   rwa [e1] at h5
  have hbk : bk < w.heap.size := by
   have hx := hcells 0 _ (List.getElem?_eq_getElem hn)
   rcases Nat.lt_or_ge bk w.heap.size with h | h
   ·exact h
   ·unfold World.cell? at hx
    simp [Array.getElem?_eq_none h] at hx
  refine (Tryd.strings_Join bk o c0 l0 a1 w hcells hbk hlen.1 hc0 hlen.2).mono ?_
  rintro e w' ⟨rfl, hb⟩
  exact ⟨rfl, hb⟩
 ·obtain rfl : l0 = [] := List.eq_nil_of_length_eq_zero (by omega)
  refine (Tryd.strings_Join_none A0 c0 a1 w).mono ?_
  rintro e w' ⟨rfl, rfl⟩
  exact ⟨rfl, Below.refl _ _⟩
end Go.Proofs.YtkiiojgaaoaipaaDoor.Q
/- The ops' words, tables in an array: by hand. -/
namespace Go.Proofs.YtkiiojgaaoaipaaDoor.Q
open Go.RowKit Go.Proofs.YtkiiojgaaoaipaaDoorW.PrintWords Go.Proofs.YtkiiojgaaoaipaaDoorW.PrintLast Go.Proofs.YtkiiojgaaoaipaaDoorW.PrintMore
set_option linter.unusedVariables false
set_option linter.unusedSimpArgs false
def opWords : List ByteArray := [(⟨#[]⟩ : ByteArray), (⟨#[97, 100, 100]⟩ : ByteArray), (⟨#[115, 117, 98]⟩ : ByteArray), (⟨#[109, 117, 108]⟩ : ByteArray), (⟨#[113, 117, 111]⟩ : ByteArray), (⟨#[114, 101, 109]⟩ : ByteArray), (⟨#[97, 110, 100]⟩ : ByteArray), (⟨#[111, 114]⟩ : ByteArray), (⟨#[120, 111, 114]⟩ : ByteArray), (⟨#[115, 104, 108]⟩ : ByteArray), (⟨#[115, 104, 114]⟩ : ByteArray), (⟨#[101, 113]⟩ : ByteArray), (⟨#[110, 101]⟩ : ByteArray), (⟨#[108, 116]⟩ : ByteArray), (⟨#[108, 101]⟩ : ByteArray), (⟨#[103, 116]⟩ : ByteArray), (⟨#[103, 101]⟩ : ByteArray), (⟨#[110, 101, 103]⟩ : ByteArray), (⟨#[110, 111, 116]⟩ : ByteArray), (⟨#[]⟩ : ByteArray), (⟨#[112, 97, 114, 97, 109]⟩ : ByteArray), (⟨#[99, 111, 110, 115, 116]⟩ : ByteArray), (⟨#[102, 108, 97, 103]⟩ : ByteArray), (⟨#[110, 105, 108]⟩ : ByteArray), (⟨#[110, 101, 119]⟩ : ByteArray), (⟨#[108, 111, 97, 100]⟩ : ByteArray), (⟨#[115, 116, 111, 114, 101]⟩ : ByteArray), (⟨#[103, 101, 116]⟩ : ByteArray), (⟨#[112, 117, 116]⟩ : ByteArray), (⟨#[103, 108, 111, 97, 100]⟩ : ByteArray), (⟨#[103, 115, 116, 111, 114, 101]⟩ : ByteArray), (⟨#[99, 97, 108, 108]⟩ : ByteArray), (⟨#[112, 114, 105, 110, 116]⟩ : ByteArray), (⟨#[114, 101, 97, 100]⟩ : ByteArray), (⟨#[112, 104, 105]⟩ : ByteArray)]
def wordOf (a0 : Int) : ByteArray := if 0 ≤ a0 ∧ a0 ≤ 34 then opWords.getD a0.toNat ByteArray.empty else ⟨#[]⟩
def truantref08_Word.f (a0 : Int) : Option ByteArray := some (wordOf a0)
def ir_Word.f (a0 : Int) : Option ByteArray := some (wordOf a0)
section
variable {P : Program}
theorem wpList_build' {ops : Array Oper} {rest : List Oper} {o : Oper} {a : Act} {w : World} {Q : Exit → Act → World → Prop} (hg : o.guard = none) (t : TypeId) (parts : Array (Nat × Operand)) (ho : o.op = .build t parts) (C : Array Value)
  (hf : P.built t (parts.map fun (i, x) => (i, a.eval x)).toList = some C)
  (h : wpList P ops Q rest (a.put o.dst (.agg C)) w) : wpList P ops Q (o :: rest) a w :=
 wpList_build hg t parts ho (by rw [hf]; rfl) (by rw [hf]; exact h)
theorem wpList_alloc_row {ops : Array Oper} {rest : List Oper} {o : Oper} {a : Act} {w : World} {Q : Exit → Act → World → Prop} (hg : o.guard = none) (t : TypeId) (ho : o.op = .alloc t) (z : Array Value) (hz : ∀ w, (zeroValue t).run P w = .ok (.agg z) w)
  (h : wpList P ops Q rest (a.put o.dst (.pointer (some ⟨w.heap.size, 0, none⟩))) (w.alloc (.cells z t))) : wpList P ops Q (o :: rest) a w :=
 wpList_plain hg fun _ hK => by
  unfold Oper.wp execOp
  simp [ho, Instr.alloc, hz]
  exact hK _ _ h
theorem wpList_store_new {ops : Array Oper} {rest : List Oper} {o : Oper} {a : Act} {w : World} {Q : Exit → Act → World → Prop} (hgd : o.guard = none) (ty : TypeId) (x y : Operand) (ho : o.op = .store ty x y) (c C : Array Value)
  (hx : a.eval x = .pointer (some ⟨w.heap.size, 0, none⟩)) (hy : a.eval y = .agg C) (hi : (P.info? ty).map (·.size) = some C.size) (hc : c.size = C.size) (h1 : C.all (·.oneCell') = true)
  (h : wpList P ops Q rest (a.put o.dst undef) (w.alloc (.cells C ty))) : wpList P ops Q (o :: rest) a (w.alloc (.cells c ty)) :=
 wpList_plain hgd fun _ hK => by
  unfold Oper.wp execOp
  simp only [ho, hx, hy, Sem.run_bind, run_storeAt_new w ty c C hi hc h1, Result.andThen_ok]
  exact hK _ _ h
end
set_option maxHeartbeats 4000000 in
set_option maxRecDepth 100000 in
theorem truantref08_Word.calls (a0 : Int) (r : ByteArray) (w : World) (h : truantref08_Word.f a0 = some r) :
  Calls Tryd.prog 9 #[.int .i64 a0] w fun e w' => e = .returned (.string r) ∧ Below w.heap.size w w' := by
 have hr := (Option.some.inj h).symm
 clear h
 unfold wordOf at hr
 obtain ⟨C, hC⟩ : ∃ C : Array Value, C = (opWords.map Value.string).toArray := ⟨_, rfl⟩
 have hn : C.size = 35 := by rw [hC]; rfl
 have h1 : C.all (·.oneCell') = true := by rw [hC]; kernel_rfl
 have hat : ∀ i : Nat, i < 35 → C[i]? = some (.string (opWords.getD i ByteArray.empty)) := by
  intro i hi
  rw [hC]
  have : opWords.length = 35 := rfl
  simp [List.getD, List.getElem?_eq_getElem (show i < opWords.length by omega)]
 go_enter Tryd.func9, Tryd.ntmps9
 go_upto_region 1 with (fail)
 apply wp_region_lit
 refine wpList_build' rfl 59 _ rfl C (by rw [hC]; kernel_rfl) ?_
 clear hC
 refine wpList_alloc_row rfl 59 rfl _ Tryd.zeroValue59 ?_
 refine wpList_store_new rfl 59 _ _ rfl _ C rfl rfl (by rw [hn]; kernel_rfl) (by rw [hn]; kernel_rfl) h1 ?_
 have hcell : ∀ i : Nat, i < 35 → (w.alloc (.cells C 59)).cell? ⟨w.heap.size, i, none⟩ = some (.string (opWords.getD i ByteArray.empty)) := fun i hi => by
  rw [World.cell?_alloc_new]; exact hat i hi
 have HB : Aside0 (Below w.heap.size w (w.alloc (.cells C 59))) := ⟨by with_reducible (apply below_alloc; exact Below.refl _ _)⟩
 have HC := Aside0.mk hcell
 clear hcell hat h1 hn
 generalize w.alloc (.cells C 59) = w1 at HB HC ⊢
 generalize w.heap.size = B at HC ⊢
 by_cases h1 : a0 < 0
 ·rw [if_neg (by omega)] at hr
  subst hr
  go_wp2
  go_ret
  exact ⟨rfl, HB.out⟩
 ·by_cases h18 : a0 > 34
  ·rw [if_neg (by omega)] at hr
   subst hr
   go_wp2
   go_ret
   exact ⟨rfl, HB.out⟩
  ·obtain ⟨n, rfl⟩ : ∃ n : Nat, a0 = n := ⟨a0.toNat, by omega⟩
   rw [if_pos (by omega), show ((n : Int).toNat) = n from rfl] at hr
   have hc := HC.out n (by omega)
   rw [← hr] at hc
   clear HC hr
   have hlt : n < 35 := by omega
   go_wp2
   go_ret
   exact ⟨rfl, HB.out⟩
section
variable {P : Program}
theorem wpList_move2 {ops : Array Oper} {rest : List Oper} {o : Oper} {a : Act} {w : World} {Q : Exit → Act → World → Prop} (hg : o.guard = none) (x : Operand) (ho : o.op = .move x) (h : wpList P ops Q rest (a.put o.dst (a.eval x)) w) : wpList P ops Q (o :: rest) a w :=
 wpList_plain hg fun _ hK => by
  unfold Oper.wp execOp
  simp only [ho]
  exact hK _ _ h
theorem wpList_assign2 {ops : Array Oper} {rest : List Oper} {o : Oper} {a : Act} {w : World} {Q : Exit → Act → World → Prop} (hg : o.guard = none) (x : Operand) (ho : o.op = .assign x) (h : wpList P ops Q rest (a.put o.dst (a.eval x)) w) : wpList P ops Q (o :: rest) a w :=
 wpList_plain hg fun _ hK => by
  unfold Oper.wp execOp
  simp only [ho]
  exact hK _ _ h
theorem wpList_index2 {ops : Array Oper} {rest : List Oper} {o : Oper} {a : Act} {w : World} {Q : Exit → Act → World → Prop} (hg : o.guard = none) (t : TypeId) (x y : Operand) (ho : o.op = .index t x y) (C : Array Value) (n v : Value) (hx : a.eval x = .agg C) (hy : a.eval y = n) (hr : (Instr.index t (.agg C) n).run P w = .ok v w) (h : wpList P ops Q rest (a.put o.dst v) w) : wpList P ops Q (o :: rest) a w :=
 wpList_plain hg fun _ hK => by
  unfold Oper.wp execOp
  simp only [ho, hx, hy, Sem.run_bind, hr, Result.andThen_ok]
  exact hK _ _ h
end
theorem run_index_row {t e : TypeId} {len : Nat} {C : Array Value} {n : Nat} {v : Value} (w : World) (hu : Tryd.prog.underlying t = some (.array len e)) (hn : n < len) (hp : ∀ off v w, C[off]? = some v → (part e C off).run Tryd.prog w = .ok v w) (hs : (Tryd.prog.info? e).map (·.size) = some 1) (hv : C[n]? = some v) : (Instr.index t (.agg C) (.int .i64 n)).run Tryd.prog w = .ok v w := by
 obtain ⟨i, hi⟩ : ∃ i, Tryd.prog.info? e = some i := by
  cases h : Tryd.prog.info? e with
  | none => rw [h] at hs; cases hs
  | some i => exact ⟨i, rfl⟩
 have hsz : i.size = 1 := by rw [hi] at hs; simpa using hs
 have hc : Tryd.prog.cellsOf e = 1 := by unfold Program.cellsOf; rw [hi]; simp [hsz]
 have h0 : ¬ len ≤ n := by omega
 simp [Instr.index, run_underlying hu, asIntOf, run_sizeOf w hi, hc, hp n v w hv]
 exact fun h => absurd h h0
theorem isOp_is (a0 : Int) : ir_IsOp.f a0 = some (decide (1 ≤ a0 ∧ a0 ≤ 34 ∧ a0 ≠ 19)) := by
 unfold ir_IsOp.f
 by_cases h1 : a0 ≥ 1
 ·rw [if_pos h1]
  by_cases h2 : a0 ≤ 34
  ·rw [if_pos h2]
   by_cases h3 : a0 = 19
   ·subst h3; rfl
   ·rw [decide_eq_true (by omega), bne_iff_ne.mpr h3]
  ·rw [if_neg h2, decide_eq_false (by omega)]
 ·rw [if_neg h1, decide_eq_false (by omega)]
set_option maxHeartbeats 4000000 in
set_option maxRecDepth 100000 in
theorem ir_Word.calls (a0 : Int) (r : ByteArray) (w : World) (h : ir_Word.f a0 = some r) :
  Calls Tryd.prog 15 #[.int .i64 a0] w fun e w' => e = .returned (.string r) ∧ Below w.heap.size w w' := by
 have hr := (Option.some.inj h).symm
 clear h
 unfold wordOf at hr
 obtain ⟨C, hC⟩ : ∃ C : Array Value, C = (opWords.map Value.string).toArray := ⟨_, rfl⟩
 have hat : ∀ i : Nat, i < 35 → C[i]? = some (.string (opWords.getD i ByteArray.empty)) := by
  intro i hi
  rw [hC]
  have : opWords.length = 35 := rfl
  simp [List.getD, List.getElem?_eq_getElem (show i < opWords.length by omega)]
 have hn : C.size = 35 := by rw [hC]; rfl
 go_enter Tryd.func15, Tryd.ntmps15
 go_wp2_with fail
 by_cases hop : 1 ≤ a0 ∧ a0 ≤ 34 ∧ a0 ≠ 19
 ·refine (ir_IsOp.calls a0 true _ (by rw [isOp_is, decide_eq_true hop])).mono ?_
  rintro e w1 ⟨rfl, hb1⟩
  go_upto_region 3 with (fail)
  apply wp_region_lit
  refine wpList_build' rfl 59 _ rfl C (by rw [hC]; kernel_rfl) ?_
  clear hC
  obtain ⟨n, rfl⟩ : ∃ n : Nat, a0 = n := ⟨a0.toNat, by omega⟩
  rw [if_pos (by omega), show ((n : Int).toNat) = n from rfl] at hr
  have hc := hat n (by omega)
  rw [← hr] at hc
  have hlt : n < 35 := by omega
  clear hat hr
  have hix := fun W : World => run_index_row W Tryd.underlying59 hlt (fun off v w h => by simp [part, go_sem, h]) (by kernel_rfl) hc
  have HB := Aside0.mk hb1.below
  clear hc hlt hop hb1
  refine wpList_move2 rfl (.tmp 0) rfl ?_
  refine wpList_index2 rfl 59 (.tmp 6) (.tmp 7) rfl C (.int .i64 n) (.string r) rfl rfl (hix _) ?_
  refine wpList_assign2 rfl (.tmp 8) rfl ?_
  clear hix hn
  go_wp2
  go_ret
  exact ⟨rfl, HB.out⟩
 ·refine (ir_IsOp.calls a0 false _ (by rw [isOp_is, decide_eq_false hop])).mono ?_
  rintro e w1 ⟨rfl, hb1⟩
  have e2 : r = ⟨#[]⟩ := by
   by_cases h2 : 0 ≤ a0 ∧ a0 ≤ 34
   ·have h3 : a0 = 0 ∨ a0 = 19 := by omega
    rw [if_pos h2] at hr
    rcases h3 with rfl | rfl
    ·exact hr
    ·exact hr
   ·rw [if_neg h2] at hr; exact hr
  subst e2
  clear hr hat hn hC
  have HB := Aside0.mk hb1.below; clear hb1
  go_wp2
  go_ret
  exact ⟨rfl, HB.out⟩
end Go.Proofs.YtkiiojgaaoaipaaDoor.Q
namespace Go.Proofs.YtkiiojgaaoaipaaDoor.Q
open Go.RowKit Go.Proofs.YtkiiojgaaoaipaaDoorW.PrintWords Go.Proofs.YtkiiojgaaoaipaaDoorW.PrintLast Go.Proofs.YtkiiojgaaoaipaaDoorW.PrintMore
attribute [local go_sem] max2_int min2_int max_two min_two max_three min_three max_four min_four   -- for this text's walks alone
set_option linter.unusedVariables false
set_option linter.unusedSimpArgs false
/-! ### ir_Line: function 25 -/
mutual
def ir_Line.j0 : Nat → Int → Bool → ByteArray → List ByteArray → ByteArray → List ByteArray → List (S47) → List (S53) → Option (ByteArray)
 | 0, _, _, _, _, _, _, _, _ => none
 | k + 1, x1, x29, x122000, x122001, x122002, x122003, x122004, x122005 => if x29 = true then (some (⟨#[]⟩ : ByteArray)) else (if 0 ≤ x1 then (if x1 < (x122004.length : Int) then ((ir_value.f x1).bind fun t126 => ((ir_Word.f ((rd_T47 x122004 x1).f0)).bind fun t127 => ((some (([(rd_T47 x122004 x1).f1, (rd_T47 x122004 x1).f4] : List ByteArray) : List ByteArray)).bind fun y131 => (ir_Line.l0 k (([t126, (⟨#[61]⟩ : ByteArray), t127] : List ByteArray)) y131 (y131.length : Int) 0 ((rd_T47 x122004 x1).f0) ((rd_T47 x122004 x1).f1) ((rd_T47 x122004 x1).f2) ((rd_T47 x122004 x1).f3) ((rd_T47 x122004 x1).f4))))) else (none)) else (none))
def ir_Line.l0 : Nat → List ByteArray → List ByteArray → Int → Int → Int → ByteArray → List Int → Int → ByteArray → Option (ByteArray)
 | 0, _, _, _, _, _, _, _, _, _ => none
 | k + 1, x6, x45, x46, x47, x126000, x126001, x126002, x126003, x126004 => if x47 < x46 then (if 0 ≤ x47 then (if x47 < (x45.length : Int) then (if (rdOf ByteArray.empty x45 x47).toList = ([] : List UInt8) then (ir_Line.l0 k x6 x45 x46 (wrap64 (x47 + 1)) x126000 x126001 x126002 x126003 x126004) else (if x6.length < 8796093022208 then (ir_Line.l0 k (x6 ++ [rdOf ByteArray.empty x45 x47]) x45 x46 (wrap64 (x47 + 1)) x126000 x126001 x126002 x126003 x126004) else (none))) else (none)) else (none)) else ((strconv_Itoa_42.f x126003).bind fun t138 => (if x6.length < 8796093022208 then (ir_Line.l1 k (x6 ++ [t138]) x126002 (x126002.length : Int) 0) else (none)))
def ir_Line.l1 : Nat → List ByteArray → List Int → Int → Int → Option (ByteArray)
 | 0, _, _, _, _ => none
 | k + 1, x6, x65, x66, x67 => if x67 < x66 then (if 0 ≤ x67 then (if x67 < (x65.length : Int) then ((ir_value.f (rd x65 x67)).bind fun t143 => (if x6.length < 8796093022208 then (ir_Line.l1 k (x6 ++ [t143]) x65 x66 (wrap64 (x67 + 1))) else (none))) else (none)) else (none)) else ((strings_Join.f x6 (⟨#[32]⟩ : ByteArray)).bind fun t147 => (some t147))
end
def ir_Line.f (k : Nat) (a0_0 : ByteArray) (l0_1 : List ByteArray) (a0_2 : ByteArray) (l0_3 : List ByteArray) (l0_4 : List (S47)) (l0_5 : List (S53)) (a1 : Int) : Option (ByteArray) := if a1 < 0 then (ir_Line.j0 k a1 true a0_0 l0_1 a0_2 l0_3 l0_4 l0_5) else (if a1 ≥ (l0_4.length : Int) then (ir_Line.j0 k a1 true a0_0 l0_1 a0_2 l0_3 l0_4 l0_5) else (if 0 ≤ a1 then (if a1 < (l0_4.length : Int) then ((ir_IsOp.f ((rd_T47 l0_4 a1).f0)).bind fun t123 => (ir_Line.j0 k a1 (!t123) a0_0 l0_1 a0_2 l0_3 l0_4 l0_5)) else (none)) else (none)))
theorem ir_Line.mono_l : ∀ k, (∀ y0 y1 y2 y3 y4 y5 y6 y7, LeO (ir_Line.j0 k y0 y1 y2 y3 y4 y5 y6 y7) (ir_Line.j0 (k + 1) y0 y1 y2 y3 y4 y5 y6 y7)) ∧ (∀ y0 y1 y2 y3 y4 y5 y6 y7 y8, LeO (ir_Line.l0 k y0 y1 y2 y3 y4 y5 y6 y7 y8) (ir_Line.l0 (k + 1) y0 y1 y2 y3 y4 y5 y6 y7 y8)) ∧ (∀ y0 y1 y2 y3, LeO (ir_Line.l1 k y0 y1 y2 y3) (ir_Line.l1 (k + 1) y0 y1 y2 y3))
 | 0 => ⟨fun _ _ _ _ _ _ _ _ r h => by simp [ir_Line.j0] at h, fun _ _ _ _ _ _ _ _ _ r h => by simp [ir_Line.l0] at h, fun _ _ _ _ r h => by simp [ir_Line.l1] at h⟩
 | k + 1 => by
  obtain ⟨ih0, ih1, ih2⟩ := ir_Line.mono_l k
  refine ⟨?_, ?_, ?_⟩
  ·intro y0 y1 y2 y3 y4 y5 y6 y7
   unfold ir_Line.j0
   repeat' first
   | (with_reducible exact ih1 _ _ _ _ _ _ _ _ _)
   | (with_reducible exact LeO.refl _)
   | (with_reducible refine LeO.ite ?_ ?_)
   | (with_reducible refine LeO.bind ?_ (fun _ => ?_))
  ·intro y0 y1 y2 y3 y4 y5 y6 y7 y8
   unfold ir_Line.l0
   repeat' first
   | (with_reducible exact ih1 _ _ _ _ _ _ _ _ _)
   | (with_reducible exact ih2 _ _ _ _)
   | (with_reducible exact LeO.refl _)
   | (with_reducible refine LeO.ite ?_ ?_)
   | (with_reducible refine LeO.bind ?_ (fun _ => ?_))
  ·intro y0 y1 y2 y3
   unfold ir_Line.l1
   repeat' first
   | (with_reducible exact ih2 _ _ _ _)
   | (with_reducible exact LeO.refl _)
   | (with_reducible refine LeO.ite ?_ ?_)
   | (with_reducible refine LeO.bind ?_ (fun _ => ?_))
theorem ir_Line.mono : ∀ a0 a1 a2 a3 a4 a5 a6 k, LeO (ir_Line.f k a0 a1 a2 a3 a4 a5 a6) (ir_Line.f (k + 1) a0 a1 a2 a3 a4 a5 a6) := by
 intro a0 a1 a2 a3 a4 a5 a6 k
 obtain ⟨ih0, ih1, ih2⟩ := ir_Line.mono_l k
 unfold ir_Line.f
 repeat' first
   | (with_reducible exact ih0 _ _ _ _ _ _ _ _)
   | (with_reducible exact LeO.refl _)
   | (with_reducible refine LeO.ite ?_ ?_)
   | (with_reducible refine LeO.bind ?_ (fun _ => ?_))
set_option maxHeartbeats 8000000 in
set_option maxRecDepth 100000 in
theorem ir_Line.calls (k : Nat) (a0_0 : ByteArray) (A0_1 : Option Addr) (c0_1 : Nat) (l0_1 : List ByteArray) (a0_2 : ByteArray) (A0_3 : Option Addr) (c0_3 : Nat) (l0_3 : List ByteArray) (A0_4 : Option Addr) (c0_4 : Nat) (l0_4 : List (S47)) (A0_5 : Option Addr) (c0_5 : Nat) (l0_5 : List (S53)) (a1 : Int) (r : ByteArray) (w : World) (hr0_1 : Kd.C Kd.string w A0_1 l0_1.length l0_1) (hc0_1 : l0_1.length ≤ c0_1) (hr0_3 : Kd.C Kd.string w A0_3 l0_3.length l0_3) (hc0_3 : l0_3.length ≤ c0_3) (hr0_4 : Kd.C k47 w A0_4 l0_4.length l0_4) (hc0_4 : l0_4.length ≤ c0_4) (hr0_5 : Kd.C k53 w A0_5 l0_5.length l0_5) (hc0_5 : l0_5.length ≤ c0_5) (h : ir_Line.f k a0_0 l0_1 a0_2 l0_3 l0_4 l0_5 a1 = some r) (hG : Glob w := by first | assumption | (refine Glob.below (by assumption) ?_; repeat (first | with_reducible exact (Aside0.out (by assumption)) | (refine below_set ?_ (Aside0.out (by assumption))) | (with_reducible first | apply below_alloc | apply pw_below_drewN | apply below_drew1) | exact (Aside0.out (by assumption))))) :
  Calls Tryd.prog 25 #[.agg #[.string a0_0, .slice A0_1 l0_1.length c0_1, .string a0_2, .slice A0_3 l0_3.length c0_3, .slice A0_4 l0_4.length c0_4, .slice A0_5 l0_5.length c0_5], .int .i64 a1] w fun e w' => e = .returned (.string r) ∧ Below w.heap.size w w' := by
 have hu40 := Tryd.underlying40
 have hu47 := Tryd.underlying47
 have HR0_1 := Aside0.mk hr0_1
 have HC0_1 := Aside0.mk hc0_1
 clear hr0_1 hc0_1
 have HR0_3 := Aside0.mk hr0_3
 have HC0_3 := Aside0.mk hc0_3
 clear hr0_3 hc0_3
 have HR0_4 := Aside0.mk hr0_4
 have HC0_4 := Aside0.mk hc0_4
 clear hr0_4 hc0_4
 have HR0_5 := Aside0.mk hr0_5
 have HC0_5 := Aside0.mk hc0_5
 clear hr0_5 hc0_5
 have HB := Aside0.mk (Below.refl w.heap.size w)
 have H : (if a1 < 0 then (ir_Line.j0 k a1 true a0_0 l0_1 a0_2 l0_3 l0_4 l0_5) else (if a1 ≥ (l0_4.length : Int) then (ir_Line.j0 k a1 true a0_0 l0_1 a0_2 l0_3 l0_4 l0_5) else (if 0 ≤ a1 then (if a1 < (l0_4.length : Int) then ((ir_IsOp.f ((rd_T47 l0_4 a1).f0)).bind fun t123 => (ir_Line.j0 k a1 (!t123) a0_0 l0_1 a0_2 l0_3 l0_4 l0_5)) else (none)) else (none)))) = some r := h
 clear h
 have HC3 := Aside0.mk H
 clear H
 go_enter Tryd.func25, Tryd.ntmps25
 go_upto_region 1 with (first | ((with_reducible refine gate_dst (N := 2) rfl ?_); (try (refine gate_guard (by rfl) ?_; dsimp only)); refine box_event ?hg (N := 2) ?hd (cs := #[.string a0_0, .slice A0_1 l0_1.length c0_1, .string a0_2, .slice A0_3 l0_3.length c0_3, .slice A0_4 l0_4.length c0_4, .slice A0_5 l0_5.length c0_5]) (t := 40) ?hr ?_; (case hd => rfl); (case hg => rfl); (case hr => first | (go_simp; done) | (go_simp; rfl)); intro gb121 hg w4 hbox hb; have n0_ := Aside0.mk (below_step (bq51) hb); have n1_ := Aside0.mk (hbox); have n2_ := Aside0.mk ((bq35 : w.heap.size ≤ gb121)); have n3_ := Aside0.mk ((bq35 : w.heap.size ≤ gb121)); clear HB; have HB := n0_; have BK121 := n1_; have GW121 := n2_; have GE121 := n3_; clear n0_ n1_ n2_ n3_ hb hbox hg))
 (try simp only [Act.put, List.setIfInBounds_toArray, List.set_cons_zero, List.set_cons_succ])
 go_cut [29] (fun v29 wc => ∃ (kq : Nat) (x29_2 : Bool), v29 = .bool x29_2 ∧ Aside0 (ir_Line.j0 kq a1 x29_2 a0_0 l0_1 a0_2 l0_3 l0_4 l0_5 = some r) ∧ Aside0 (kq ≤ k) ∧ Aside0 (wc.heap[gb121]? = some (.cells #[.string a0_0, (.slice A0_1 l0_1.length c0_1), .string a0_2, (.slice A0_3 l0_3.length c0_3), (.slice A0_4 l0_4.length c0_4), (.slice A0_5 l0_5.length c0_5)] 40 (0, 0))) ∧ Aside0 (Below w.heap.size w wc))
 case first =>
  have H := HC3.out
  clear HC3
  by_cases c5 : a1 < 0
  ·rw [if_pos c5] at H
   have c5b0 := decide_eq_true c5
   clear c5
   (first | rw [c5b0] | rw [c5b1] | rw [c5b4] | (simp only [i64_w, i32_w]; rw [c5b0]) | skip)
   have H' := Aside0.mk H
   clear H
   go_wp2
   go_meet
   case rel => exact ⟨_, (true), (bq78), H', ⟨by first | omega | exact Nat.le_refl _⟩, ⟨by (with_reducible repeat (first | refine blk_drewN ?_ _ | refine blk_drew ?_ | refine blk_alloc ?_ _)); exact BK121.out⟩, ⟨by repeat (first | (with_reducible first | exact HB.out | apply below_alloc | apply pw_below_drewN | apply below_drew1 | refine below_set ?_ GE121.out) | exact HB.out)⟩⟩
  ·rw [if_neg c5] at H
   have c5b0 := decide_eq_false c5
   clear c5
   (first | rw [c5b0] | rw [c5b1] | rw [c5b4] | (simp only [i64_w, i32_w]; rw [c5b0]) | skip)
   by_cases c6 : a1 ≥ (l0_4.length : Int)
   ·rw [if_pos c6] at H
    have c6b0 := decide_eq_true c6
    clear c6
    have H' := Aside0.mk H
    clear H
    obtain ⟨hcz7_0, hcz7_1, hcz7_2, hcz7_3, hcz7_4, hcz7_5, hfz7_0, hfz7_1, hfz7_2, hfz7_3, hfz7_4, hfz7_5⟩ := bk6 BK121.out
    go_wp2
    go_meet
    case rel => exact ⟨_, (true), (bq78), H', ⟨by first | omega | exact Nat.le_refl _⟩, ⟨by (with_reducible repeat (first | refine blk_drewN ?_ _ | refine blk_drew ?_ | refine blk_alloc ?_ _)); exact BK121.out⟩, ⟨by repeat (first | (with_reducible first | exact HB.out | apply below_alloc | apply pw_below_drewN | apply below_drew1 | refine below_set ?_ GE121.out) | exact HB.out)⟩⟩
   ·rw [if_neg c6] at H
    have c6b0 := decide_eq_false c6
    clear c6
    by_cases c8 : 0 ≤ a1
    ·rw [if_pos c8] at H
     have c8b0 := decide_eq_true c8
     clear c8
     by_cases c9 : a1 < (l0_4.length : Int)
     ·rw [if_pos c9] at H
      have c9b0 := decide_eq_true c9
      clear c9
      replace H := Option.bind_eq_some_iff.mp H
      obtain ⟨t123, A100, H⟩ := H
      (try dsimp only at H)
      have A10 := Aside0.mk A100
      clear A100
      have H' := Aside0.mk H
      clear H
      obtain ⟨hcz11_0, hcz11_1, hcz11_2, hcz11_3, hcz11_4, hcz11_5, hfz11_0, hfz11_1, hfz11_2, hfz11_3, hfz11_4, hfz11_5⟩ := bk6 BK121.out
      have p122 : 0 ≤ (a1 : Int) := of_decide_eq_true (bq77)
      have q122 : a1 < (l0_4.length : Int) := of_decide_eq_true (bq77)
      obtain ⟨ad122, A122_2, c122_2, e122, hx122_0, hx122_1, hx122_2, hx122_3, hx122_4, hl122_2, hi122_2⟩ := at_T47 HR0_4.out a1 p122 q122
      cases e122
      replace hx122_0 := (HB.out.cell (World.block_lt_of_cell? w _ hx122_0)).trans hx122_0
      replace hx122_1 := (HB.out.cell (World.block_lt_of_cell? w _ hx122_1)).trans hx122_1
      replace hx122_2 := (HB.out.cell (World.block_lt_of_cell? w _ hx122_2)).trans hx122_2
      replace hx122_3 := (HB.out.cell (World.block_lt_of_cell? w _ hx122_3)).trans hx122_3
      replace hx122_4 := (HB.out.cell (World.block_lt_of_cell? w _ hx122_4)).trans hx122_4
      have HR122_2 := Aside0.mk hi122_2
      have HC122_2 := Aside0.mk hl122_2
      clear hi122_2 hl122_2
      replace p122 := eq_true p122
      replace q122 := eq_true q122
      go_wp2_with (first | (go_at_call 16; (with_reducible refine (ir_IsOp.calls ((rd_T47 l0_4 a1).f0) t123 _ A10.out).mono ?_); rintro e w' ⟨rfl, ⟨nd, rfl⟩⟩))
      go_meet
      case rel => exact ⟨_, (!t123), (bq78), H', ⟨by first | omega | exact Nat.le_refl _⟩, ⟨by (with_reducible repeat (first | refine blk_drewN ?_ _ | refine blk_drew ?_ | refine blk_alloc ?_ _)); exact BK121.out⟩, ⟨by repeat (first | (with_reducible first | exact HB.out | apply below_alloc | apply pw_below_drewN | apply below_drew1 | refine below_set ?_ GE121.out) | exact HB.out)⟩⟩
     ·rw [if_neg c9] at H
      exact absurd H (by simp)
    ·rw [if_neg c8] at H
     exact absurd H (by simp)
 case rest =>
  clear HC3
  obtain ⟨kq, x29_2, rfl, HA, HJ2, BK121, HB⟩ := hcut
  cases kq with
  | zero => exact absurd HA.out (by simp [ir_Line.j0])
  | succ kj2 =>
   have H := HA.out
   clear HA
   simp only [ir_Line.j0] at H
   by_cases c12 : x29_2 = true
   ·subst c12
    have H1 := H; rw [if_pos rfl] at H1; (try dsimp only at H1)
    clear H
    have H := H1
    clear H1
    obtain rfl := Option.some.inj H
    go_wp2
    go_ret
    exact ⟨by first | rfl | (simp [errW_none, errW_some] <;> rfl) | (simp [*, errW_none, errW_some] <;> rfl), by repeat (first | (with_reducible first | exact HB.out | apply below_alloc | apply pw_below_drewN | apply below_drew1 | refine below_set ?_ GE121.out) | exact HB.out)⟩
   ·replace c12 := Bool.eq_false_iff.mpr c12
    subst c12
    have H1 := H; rw [if_neg (show ¬ (false = true) by decide)] at H1; (try dsimp only at H1)
    clear H
    have H := H1
    clear H1
    by_cases c13 : 0 ≤ a1
    ·rw [if_pos c13] at H
     have c13b0 := decide_eq_true c13
     clear c13
     by_cases c14 : a1 < (l0_4.length : Int)
     ·rw [if_pos c14] at H
      have c14b0 := decide_eq_true c14
      clear c14
      replace H := Option.bind_eq_some_iff.mp H
      obtain ⟨t126, A150, H⟩ := H
      (try dsimp only at H)
      have A15 := Aside0.mk A150
      clear A150
      replace H := Option.bind_eq_some_iff.mp H
      obtain ⟨t127, A160, H⟩ := H
      (try dsimp only at H)
      have A16 := Aside0.mk A160
      clear A160
      obtain ⟨y128, hy128⟩ : ∃ y_ : List ByteArray, y_ = (([t126, (⟨#[61]⟩ : ByteArray), t127] : List ByteArray)) := ⟨_, rfl⟩
      replace H : ((some (([(rd_T47 l0_4 a1).f1, (rd_T47 l0_4 a1).f4] : List ByteArray) : List ByteArray)).bind fun y131 => (ir_Line.l0 kj2 y128 y131 (y131.length : Int) 0 ((rd_T47 l0_4 a1).f0) ((rd_T47 l0_4 a1).f1) ((rd_T47 l0_4 a1).f2) ((rd_T47 l0_4 a1).f3) ((rd_T47 l0_4 a1).f4))) = some r := by first | (rw [hy128]; with_reducible exact H) | (have H2_ := (Option.bind_some _ _).symm.trans H; rw [hy128]; with_reducible exact H2_) | (have H2_ := (Option.bind_some _ _).symm.trans H; with_reducible exact H2_) | with_reducible exact H | (rw [hy128]; exact H) | exact H
      have Ny128 := Aside0.mk hy128
      clear hy128
      obtain ⟨y131, hy131⟩ : ∃ y_ : List ByteArray, y_ = (([(rd_T47 l0_4 a1).f1, (rd_T47 l0_4 a1).f4] : List ByteArray)) := ⟨_, rfl⟩
      replace H : (ir_Line.l0 kj2 y128 y131 (y131.length : Int) 0 ((rd_T47 l0_4 a1).f0) ((rd_T47 l0_4 a1).f1) ((rd_T47 l0_4 a1).f2) ((rd_T47 l0_4 a1).f3) ((rd_T47 l0_4 a1).f4)) = some r := by first | (rw [hy131]; with_reducible exact H) | (have H2_ := (Option.bind_some _ _).symm.trans H; rw [hy131]; with_reducible exact H2_) | (have H2_ := (Option.bind_some _ _).symm.trans H; with_reducible exact H2_) | with_reducible exact H | (rw [hy131]; exact H) | exact H
      have Ny131 := Aside0.mk hy131
      clear hy131
      have H' := Aside0.mk H
      clear H
      obtain ⟨hcz17_0, hcz17_1, hcz17_2, hcz17_3, hcz17_4, hcz17_5, hfz17_0, hfz17_1, hfz17_2, hfz17_3, hfz17_4, hfz17_5⟩ := bk6 BK121.out
      have p124 : 0 ≤ (a1 : Int) := of_decide_eq_true (bq77)
      have q124 : a1 < (l0_4.length : Int) := of_decide_eq_true (bq77)
      obtain ⟨ad124, A124_2, c124_2, e124, hx124_0, hx124_1, hx124_2, hx124_3, hx124_4, hl124_2, hi124_2⟩ := at_T47 HR0_4.out a1 p124 q124
      cases e124
      replace hx124_0 := (HB.out.cell (World.block_lt_of_cell? w _ hx124_0)).trans hx124_0
      replace hx124_1 := (HB.out.cell (World.block_lt_of_cell? w _ hx124_1)).trans hx124_1
      replace hx124_2 := (HB.out.cell (World.block_lt_of_cell? w _ hx124_2)).trans hx124_2
      replace hx124_3 := (HB.out.cell (World.block_lt_of_cell? w _ hx124_3)).trans hx124_3
      replace hx124_4 := (HB.out.cell (World.block_lt_of_cell? w _ hx124_4)).trans hx124_4
      have HR124_2 := Aside0.mk hi124_2
      have HC124_2 := Aside0.mk hl124_2
      clear hi124_2 hl124_2
      replace p124 := eq_true p124
      replace q124 := eq_true q124
      try go_wp2_with (first | ((with_reducible refine gate_dst (N := 5) rfl ?_); (try (refine gate_guard (by rfl) ?_; dsimp only)); refine box_event ?hg (N := 5) ?hd (cs := #[.int .i64 0, .string (⟨#[]⟩ : ByteArray), .slice none 0 0, .int .i64 0, .string (⟨#[]⟩ : ByteArray)]) (t := 47) ?hr ?_; (case hd => rfl); (case hg => rfl); (case hr => first | (go_simp; done) | (go_simp; rfl)); intro gb125 hg w18 hbox hb; have n0_ := Aside0.mk (blkB BK121.out hb); have n1_ := Aside0.mk (below_step (by repeat (first | (with_reducible first | exact HB.out | apply below_alloc | apply pw_below_drewN | apply below_drew1 | refine below_set ?_ GE121.out) | exact HB.out)) hb); have n2_ := Aside0.mk (hbox); have n3_ := Aside0.mk ((bq14 : w.heap.size ≤ gb125)); have n4_ := Aside0.mk ((bq14 : w.heap.size ≤ gb125)); have n5_ := Aside0.mk ((by rw [hg]; exact Nat.ne_of_lt (blkL BK121.out) : gb121 ≠ gb125)); have n6_ := Aside0.mk ((by rw [hg]; exact Nat.ne_of_gt (blkL BK121.out) : gb125 ≠ gb121)); clear BK121 HB; have BK121 := n0_; have HB := n1_; have BK125 := n2_; have GW125 := n3_; have GE125 := n4_; have NB121_125 := n5_; have NB125_121 := n6_; clear n0_ n1_ n2_ n3_ n4_ n5_ n6_ hb hbox hg; have hnb19 := NB125_121.out; have hnc19 := NB121_125.out; obtain ⟨hcz20_0, hcz20_1, hcz20_2, hcz20_3, hcz20_4, hfz20_0, hfz20_1, hfz20_2, hfz20_3, hfz20_4⟩ := bk5 BK125.out))
      have n0_ : Aside0 ((((((w18.setCell ⟨gb125, 0, none⟩ (.int .i64 ((rd_T47 l0_4 a1).f0))).setCell ⟨gb125, 1, none⟩ (.string ((rd_T47 l0_4 a1).f1))).setCell ⟨gb125, 2, none⟩ (.slice A124_2 ((rd_T47 l0_4 a1).f2).length c124_2)).setCell ⟨gb125, 3, none⟩ (.int .i64 ((rd_T47 l0_4 a1).f3))).setCell ⟨gb125, 4, none⟩ (.string ((rd_T47 l0_4 a1).f4))).heap[gb121]? = some (.cells #[.string a0_0, .slice A0_1 l0_1.length c0_1, .string a0_2, .slice A0_3 l0_3.length c0_3, .slice (some ad124) l0_4.length c0_4, .slice A0_5 l0_5.length c0_5] 40 (0, 0))) := ⟨by (with_reducible repeat (first | refine blk_drewN ?_ _ | refine blk_drew ?_ | refine blk_alloc ?_ _)); refine blk_far ?_ NB121_125.out _; (with_reducible repeat (first | refine blk_drewN ?_ _ | refine blk_drew ?_ | refine blk_alloc ?_ _)); refine blk_far ?_ NB121_125.out _; (with_reducible repeat (first | refine blk_drewN ?_ _ | refine blk_drew ?_ | refine blk_alloc ?_ _)); refine blk_far ?_ NB121_125.out _; (with_reducible repeat (first | refine blk_drewN ?_ _ | refine blk_drew ?_ | refine blk_alloc ?_ _)); refine blk_far ?_ NB121_125.out _; (with_reducible repeat (first | refine blk_drewN ?_ _ | refine blk_drew ?_ | refine blk_alloc ?_ _)); refine blk_far ?_ NB121_125.out _; (with_reducible repeat (first | refine blk_drewN ?_ _ | refine blk_drew ?_ | refine blk_alloc ?_ _)); exact BK121.out⟩
      have n1_ : Aside0 ((((((w18.setCell ⟨gb125, 0, none⟩ (.int .i64 ((rd_T47 l0_4 a1).f0))).setCell ⟨gb125, 1, none⟩ (.string ((rd_T47 l0_4 a1).f1))).setCell ⟨gb125, 2, none⟩ (.slice A124_2 ((rd_T47 l0_4 a1).f2).length c124_2)).setCell ⟨gb125, 3, none⟩ (.int .i64 ((rd_T47 l0_4 a1).f3))).setCell ⟨gb125, 4, none⟩ (.string ((rd_T47 l0_4 a1).f4))).heap[gb125]? = some (.cells #[.int .i64 ((rd_T47 l0_4 a1).f0), .string ((rd_T47 l0_4 a1).f1), .slice A124_2 ((rd_T47 l0_4 a1).f2).length c124_2, .int .i64 ((rd_T47 l0_4 a1).f3), .string ((rd_T47 l0_4 a1).f4)] 47 (0, 0))) := ⟨by (with_reducible repeat (first | refine blk_drewN ?_ _ | refine blk_drew ?_ | refine blk_alloc ?_ _)); refine blk_put (cs := #[.int .i64 ((rd_T47 l0_4 a1).f0), .string ((rd_T47 l0_4 a1).f1), .slice A124_2 ((rd_T47 l0_4 a1).f2).length c124_2, .int .i64 ((rd_T47 l0_4 a1).f3), .string (⟨#[]⟩ : ByteArray)]) ?_ 4 _ rfl; (with_reducible repeat (first | refine blk_drewN ?_ _ | refine blk_drew ?_ | refine blk_alloc ?_ _)); refine blk_put (cs := #[.int .i64 ((rd_T47 l0_4 a1).f0), .string ((rd_T47 l0_4 a1).f1), .slice A124_2 ((rd_T47 l0_4 a1).f2).length c124_2, .int .i64 0, .string (⟨#[]⟩ : ByteArray)]) ?_ 3 _ rfl; (with_reducible repeat (first | refine blk_drewN ?_ _ | refine blk_drew ?_ | refine blk_alloc ?_ _)); refine blk_put (cs := #[.int .i64 ((rd_T47 l0_4 a1).f0), .string ((rd_T47 l0_4 a1).f1), .slice none 0 0, .int .i64 0, .string (⟨#[]⟩ : ByteArray)]) ?_ 2 _ rfl; (with_reducible repeat (first | refine blk_drewN ?_ _ | refine blk_drew ?_ | refine blk_alloc ?_ _)); refine blk_put (cs := #[.int .i64 ((rd_T47 l0_4 a1).f0), .string (⟨#[]⟩ : ByteArray), .slice none 0 0, .int .i64 0, .string (⟨#[]⟩ : ByteArray)]) ?_ 1 _ rfl; (with_reducible repeat (first | refine blk_drewN ?_ _ | refine blk_drew ?_ | refine blk_alloc ?_ _)); refine blk_put (cs := #[.int .i64 0, .string (⟨#[]⟩ : ByteArray), .slice none 0 0, .int .i64 0, .string (⟨#[]⟩ : ByteArray)]) ?_ 0 _ rfl; (with_reducible repeat (first | refine blk_drewN ?_ _ | refine blk_drew ?_ | refine blk_alloc ?_ _)); exact BK125.out⟩
      have n2_ : Aside0 (Below w.heap.size w (((((w18.setCell ⟨gb125, 0, none⟩ (.int .i64 ((rd_T47 l0_4 a1).f0))).setCell ⟨gb125, 1, none⟩ (.string ((rd_T47 l0_4 a1).f1))).setCell ⟨gb125, 2, none⟩ (.slice A124_2 ((rd_T47 l0_4 a1).f2).length c124_2)).setCell ⟨gb125, 3, none⟩ (.int .i64 ((rd_T47 l0_4 a1).f3))).setCell ⟨gb125, 4, none⟩ (.string ((rd_T47 l0_4 a1).f4)))) := ⟨bq25⟩
      clear BK121 BK125 HB
      generalize (((((w18.setCell ⟨gb125, 0, none⟩ (.int .i64 ((rd_T47 l0_4 a1).f0))).setCell ⟨gb125, 1, none⟩ (.string ((rd_T47 l0_4 a1).f1))).setCell ⟨gb125, 2, none⟩ (.slice A124_2 ((rd_T47 l0_4 a1).f2).length c124_2)).setCell ⟨gb125, 3, none⟩ (.int .i64 ((rd_T47 l0_4 a1).f3))).setCell ⟨gb125, 4, none⟩ (.string ((rd_T47 l0_4 a1).f4))) = w21 at n0_ n1_ n2_ ⊢
      have BK121 := n0_
      have BK125 := n1_
      have HB := n2_
      clear n0_ n1_ n2_
      have n0_ := Aside0.mk (blk_drew BK121.out)
      have n1_ := Aside0.mk (blk_drew BK125.out)
      have n2_ := Aside0.mk (below_drew1 HB.out)
      clear BK121 BK125 HB
      have BK121 := n0_
      have BK125 := n1_
      have HB := n2_
      clear n0_ n1_ n2_
      refine start_ (n := 7) (S := fun w' => w'.cell? ⟨gb125, 0, none⟩ = some (.int .i64 ((rd_T47 l0_4 a1).f0)) ∧ w'.cell? ⟨gb125, 1, none⟩ = some (.string ((rd_T47 l0_4 a1).f1)) ∧ w'.cell? ⟨gb125, 2, none⟩ = some (.slice A124_2 ((rd_T47 l0_4 a1).f2).length c124_2) ∧ w'.cell? ⟨gb125, 3, none⟩ = some (.int .i64 ((rd_T47 l0_4 a1).f3)) ∧ w'.cell? ⟨gb125, 4, none⟩ = some (.string ((rd_T47 l0_4 a1).f4))) (ds := []) (tf 0 7) (by kernel_rfl) rfl rfl ⟨(blk_cell BK125.out 0).trans rfl, (blk_cell BK125.out 1).trans rfl, (blk_cell BK125.out 2).trans rfl, (blk_cell BK125.out 3).trans rfl, (blk_cell BK125.out 4).trans rfl⟩ (fun hHeld => ?_)
      generalize w21.drew = w22 at BK121 BK125 HB hHeld ⊢
      refine pure_ (i := 0) (N := some 35) (v := ?_) (a' := ?_) (tf 1 6) rfl rfl (by kernel_rfl) (fun _ _ _ h => h) (Or.inl ⟨by rfl, ?_⟩) ?_ ?_
      rotate_left
      ·intro w'
       go_simp
       with_reducible rfl
      rotate_left
      ·simp only [Act.put, List.setIfInBounds_toArray, List.set_cons_zero, List.set_cons_succ, i64_w, i32_w]
       rfl
      refine pure_ (i := 2) (N := some 37) (v := ?_) (a' := ?_) #[true, false, true, false, false, false, false] rfl rfl (by kernel_rfl) (fun _ _ _ h => h) (Or.inl ⟨by rfl, ?_⟩) ?_ ?_
      rotate_left
      ·intro w'
       go_simp
       with_reducible rfl
      rotate_left
      ·simp only [Act.put, List.setIfInBounds_toArray, List.set_cons_zero, List.set_cons_succ, i64_w, i32_w]
       rfl
      refine take_ (i := 3) (N := some 38) (v := ?_) (a' := ?_) #[true, false, true, true, false, false, false] rfl rfl (by kernel_rfl) (fun _ _ _ h => h) (Or.inl ⟨by rfl, ?_⟩) hHeld ?_ ?_
      rotate_left
      ·rintro w' ⟨s0, s1, s2, s3, s4⟩
       go_simp
       with_reducible rfl
      rotate_left
      ·simp only [Act.put, List.setIfInBounds_toArray, List.set_cons_zero, List.set_cons_succ, i64_w, i32_w]
       rfl
      refine one_ (i := 1) (N := some 36) (tf 4 3) rfl rfl (by kernel_rfl) (by decide) (fun K hK => ?_)
      refine goes_ Tryd.func41 (by kernel_rfl) rfl #[.int .i64 a1] (by rfl) rfl rfl (bq48) ?_
      with_reducible refine (ir_value.calls a1 t126 _ A15.out).mono ?_
      rintro e w23 ⟨rfl, hb⟩
      refine ⟨_, rfl, ?_⟩
      have n0_ := Aside0.mk (blkB BK121.out hb)
      have n1_ := Aside0.mk (blkB BK125.out hb)
      have n2_ := Aside0.mk (below_step (bq25) hb)
      clear BK121 BK125 HB
      have BK121 := n0_
      have BK125 := n1_
      have HB := n2_
      clear n0_ n1_ n2_ hb
      refine hK.out _ _ ⟨(blk_cell BK125.out 0).trans rfl, (blk_cell BK125.out 1).trans rfl, (blk_cell BK125.out 2).trans rfl, (blk_cell BK125.out 3).trans rfl, (blk_cell BK125.out 4).trans rfl⟩ (fun hHeld => ?_)
      clear hK K
      refine norm_ (a' := ?_) ?_ ?_
      rotate_left
      ·show Act.put _ (some 36) _ = _
       simp only [Act.put, List.setIfInBounds_toArray, List.set_cons_zero, List.set_cons_succ, i64_w, i32_w]
       rfl
      refine one_ (i := 4) (N := some 39) (tf 5 2) rfl rfl (by kernel_rfl) (by decide) (fun K hK => ?_)
      refine goes_ Tryd.func15 (by kernel_rfl) rfl #[.int .i64 ((rd_T47 l0_4 a1).f0)] (by rfl) rfl rfl (bq48) ?_
      with_reducible refine (ir_Word.calls ((rd_T47 l0_4 a1).f0) t127 _ A16.out).mono ?_
      rintro e w24 ⟨rfl, hb⟩
      refine ⟨_, rfl, ?_⟩
      have n0_ := Aside0.mk (blkB BK121.out hb)
      have n1_ := Aside0.mk (blkB BK125.out hb)
      have n2_ := Aside0.mk (below_step (bq25) hb)
      clear BK121 BK125 HB
      have BK121 := n0_
      have BK125 := n1_
      have HB := n2_
      clear n0_ n1_ n2_ hb
      refine hK.out _ _ ⟨(blk_cell BK125.out 0).trans rfl, (blk_cell BK125.out 1).trans rfl, (blk_cell BK125.out 2).trans rfl, (blk_cell BK125.out 3).trans rfl, (blk_cell BK125.out 4).trans rfl⟩ (fun hHeld => ?_)
      clear hK K
      refine norm_ (a' := ?_) ?_ ?_
      rotate_left
      ·show Act.put _ (some 39) _ = _
       simp only [Act.put, List.setIfInBounds_toArray, List.set_cons_zero, List.set_cons_succ, i64_w, i32_w]
       rfl
      refine one_ (i := 5) (N := some 40) (tf 6 1) rfl rfl (by kernel_rfl) (by decide) (fun K hK => ?_)
      refine Kd.R_lit_step Kd.string _ 9 ?hg (N := 40) ?hd (xs := ([t126, (⟨#[61]⟩ : ByteArray), t127] : List ByteArray)) (inner := [.string t126, .string (⟨#[61]⟩ : ByteArray), .string t127]) (ok := fun _ => True) (okp := fun _ => True) ?hr ?hp (fun _ hk => hk) trivial (Below.refl _ _) (Nat.le_refl _) (by simp) ?_; (case hd => rfl); (case hg => rfl); (case hr => first | (go_simp; done) | (go_simp; rfl)); (case hp => exact (Reps.one (show Kd.M Kd.string _ _ _ t126 [.string t126] from rfl) (Reps.one (show Kd.M Kd.string _ _ _ (⟨#[61]⟩ : ByteArray) [.string (⟨#[61]⟩ : ByteArray)] from rfl) (Reps.one (show Kd.M Kd.string _ _ _ t127 [.string t127] from rfl) (Reps.none _ _)))))
      intro v129 w25 ho26 hb hg_ hnew_
      clear hg_ hnew_
      (first | rw [← Ny128.out] at ho26 | (simp only [Int.reduceToNat] at ho26; rw [← Ny128.out] at ho26))
      have n0_ := Aside0.mk (Kd.R_lower ho26 (below_size (bq25)))
      have n1_ := Aside0.mk (blkB BK121.out hb)
      have n2_ := Aside0.mk (blkB BK125.out hb)
      have n3_ := Aside0.mk (below_step (bq25) hb)
      clear BK121 BK125 HB
      have HO130 := n0_
      have BK121 := n1_
      have BK125 := n2_
      have HB := n3_
      clear n0_ n1_ n2_ n3_ hb ho26
      refine hK.out _ _ ⟨(blk_cell BK125.out 0).trans rfl, (blk_cell BK125.out 1).trans rfl, (blk_cell BK125.out 2).trans rfl, (blk_cell BK125.out 3).trans rfl, (blk_cell BK125.out 4).trans rfl⟩ (fun hHeld => ?_)
      clear hK K
      refine norm_ (a' := ?_) ?_ ?_
      rotate_left
      ·show Act.put _ (some 40) _ = _
       simp only [Act.put, List.setIfInBounds_toArray, List.set_cons_zero, List.set_cons_succ, i64_w, i32_w]
       rfl
      refine pure_ (i := 6) (N := some 6) (v := ?_) (a' := ?_) (tf 7 0) rfl rfl (by kernel_rfl) (fun _ _ _ h => h) (Or.inl ⟨by rfl, ?_⟩) ?_ ?_
      rotate_left
      ·intro w'
       go_simp
       with_reducible rfl
      rotate_left
      ·simp only [Act.put, List.setIfInBounds_toArray, List.set_cons_zero, List.set_cons_succ, i64_w, i32_w]
       rfl
      refine done_ (by kernel_rfl) ?_
      obtain ⟨hcz27_0, hcz27_1, hcz27_2, hcz27_3, hcz27_4, hfz27_0, hfz27_1, hfz27_2, hfz27_3, hfz27_4⟩ := bk5 BK125.out
      try go_wp2_with (first | ((with_reducible refine gate_dst (N := 45) rfl ?_); (try (refine gate_guard (by rfl) ?_; dsimp only)); refine Kd.R_lit Kd.string _ 9 ?hg (N := 45) ?hd (xs := ([(rd_T47 l0_4 a1).f1, (rd_T47 l0_4 a1).f4] : List ByteArray)) (inner := [.string ((rd_T47 l0_4 a1).f1), .string ((rd_T47 l0_4 a1).f4)]) (ok := fun _ => True) (okp := fun _ => True) ?hr ?hp (fun _ hk => hk) trivial (Below.refl _ _) (Nat.le_refl _) (by simp) ?_; (case hd => rfl); (case hg => rfl); (case hr => first | (go_simp; done) | (go_simp; rfl)); (case hp => exact (Reps.one (show Kd.M Kd.string _ _ _ ((rd_T47 l0_4 a1).f1) [.string ((rd_T47 l0_4 a1).f1)] from rfl) (Reps.one (show Kd.M Kd.string _ _ _ ((rd_T47 l0_4 a1).f4) [.string ((rd_T47 l0_4 a1).f4)] from rfl) (Reps.none _ _)))); intro v132 w28 ho29 hb hg_ hnew_; clear hg_ hnew_; (first | rw [← Ny131.out] at ho29 | (simp only [Int.reduceToNat] at ho29; rw [← Ny131.out] at ho29)); have n0_ := Aside0.mk (Kd.R_elder' (bq63) (Kd.R_base ho29) hb); have n1_ := Aside0.mk (Kd.R_lower (Kd.R_new' ho29 (Kd.R_lt (bq63))) (below_size (bq25))); have n2_ := Aside0.mk (blkB BK121.out hb); have n3_ := Aside0.mk (blkB BK125.out hb); have n4_ := Aside0.mk (below_step (bq25) hb); clear HO130 BK121 BK125 HB; have HO130 := n0_; have HO133 := n1_; have BK121 := n2_; have BK125 := n3_; have HB := n4_; clear n0_ n1_ n2_ n3_ n4_ hb ho29; obtain ⟨Ao30, co30, eo30⟩ := Kd.R_slice HO133.out; subst eo30))
      go_loopg [6, 47] kj2 (fun kq v6 v47 w' => ∃ (x6_2 : List ByteArray) (x47_2 : Int), v47 = .int .i64 x47_2 ∧ Aside0 (ir_Line.l0 kq x6_2 y131 (y131.length : Int) x47_2 ((rd_T47 l0_4 a1).f0) ((rd_T47 l0_4 a1).f1) ((rd_T47 l0_4 a1).f2) ((rd_T47 l0_4 a1).f3) ((rd_T47 l0_4 a1).f4) = some r) ∧ Aside0 (kq ≤ kj2) ∧ Aside0 (Kd.R Kd.string 9 w' w.heap.size (fun k_ => some k_ ≠ ((.slice Ao30 y131.length co30) : Value).ownBlock) v6 x6_2) ∧ Aside0 (Kd.R Kd.string 9 w' w.heap.size (fun k_ => some k_ ≠ (v6 : Value).ownBlock) (.slice Ao30 y131.length co30) y131) ∧ Aside0 (w'.heap[gb121]? = some (.cells #[.string a0_0, (.slice A0_1 l0_1.length c0_1), .string a0_2, (.slice A0_3 l0_3.length c0_3), (.slice (some ad124) l0_4.length c0_4), (.slice A0_5 l0_5.length c0_5)] 40 (0, 0))) ∧ Aside0 (w'.heap[gb125]? = some (.cells #[.int .i64 ((rd_T47 l0_4 a1).f0), .string ((rd_T47 l0_4 a1).f1), (.slice A124_2 ((rd_T47 l0_4 a1).f2).length c124_2), .int .i64 ((rd_T47 l0_4 a1).f3), .string ((rd_T47 l0_4 a1).f4)] 47 (0, 0))) ∧ Aside0 (Below w.heap.size w w'))
      case atStart => exact ⟨(y128), (0), (bq78), H', ⟨Nat.le_refl _⟩, ⟨by (with_reducible repeat (first | apply Kd.R_alloc | apply Kd.R_drewN | apply Kd.R_drew)); exact Kd.R_mono HO130.out (fun _ hk => hk.2)⟩, ⟨by (with_reducible repeat (first | apply Kd.R_alloc | apply Kd.R_drewN | apply Kd.R_drew)); exact Kd.R_mono HO133.out (fun _ hk => hk.2)⟩, ⟨by (with_reducible repeat (first | refine blk_drewN ?_ _ | refine blk_drew ?_ | refine blk_alloc ?_ _)); exact BK121.out⟩, ⟨by (with_reducible repeat (first | refine blk_drewN ?_ _ | refine blk_drew ?_ | refine blk_alloc ?_ _)); exact BK125.out⟩, ⟨bq25⟩⟩
      case round =>
       clear H' c13b0 c14b0 hcz17_0 hcz17_1 hcz17_2 hcz17_3 hcz17_4 hcz17_5 hcz20_0 hcz20_1 hcz20_2 hcz20_3 hcz20_4 hcz27_0 hcz27_1 hcz27_2 hcz27_3 hcz27_4 hfz17_0 hfz17_1 hfz17_2 hfz17_3 hfz17_4 hfz17_5 hfz20_0 hfz20_1 hfz20_2 hfz20_3 hfz20_4 hfz27_0 hfz27_1 hfz27_2 hfz27_3 hfz27_4 hx124_0 hx124_1 hx124_2 hx124_3 hx124_4 p124 q124
       obtain ⟨x6_2, x47_2, rfl, HA, HK2, HO_6, HO_45, BK121, BK125, HB⟩ := hrel
       cases gk with
       | zero => exact absurd HA.out (by simp [ir_Line.l0])
       | succ k2 =>
        have H := HA.out
        clear HA
        simp only [ir_Line.l0] at H
        by_cases c31 : x47_2 < (y131.length : Int)
        ·rw [if_pos c31] at H
         have c31b0 := decide_eq_true c31
         clear c31
         by_cases c32 : 0 ≤ x47_2
         ·rw [if_pos c32] at H
          have c32b0 := decide_eq_true c32
          clear c32
          by_cases c33 : x47_2 < (y131.length : Int)
          ·rw [if_pos c33] at H
           have c33b0 := decide_eq_true c33
           clear c33
           by_cases c34 : (rdOf ByteArray.empty y131 x47_2).toList = ([] : List UInt8)
           ·rw [if_pos c34] at H
            have c34b0 : ((rdOf ByteArray.empty y131 x47_2).toList == ([] : List UInt8)) = true := beq_iff_eq.mpr c34
            try have c34b4 : (!((rdOf ByteArray.empty y131 x47_2)).toList.isEmpty) = false := by simpa using c34b0
            have c34b1 : ((rdOf ByteArray.empty y131 x47_2).toList != ([] : List UInt8)) = false := bne_eq_false_iff_eq.mpr c34
            clear c34
            have H' := Aside0.mk H
            clear H
            have p134 : 0 ≤ (x47_2 : Int) := of_decide_eq_true (bq77)
            have q134 : x47_2 < (y131.length : Int) := of_decide_eq_true (bq77)
            obtain ⟨ad134, e134, hx134_0⟩ := Kd.at_string (Kd.R_reads' HO_45.out).2.2 x47_2 p134 q134
            cases e134
            replace p134 := eq_true p134
            replace q134 := eq_true q134
            go_wp2
            go_roundg k2
            case measure => have := HJ2.out; have := HK2.out; omega
            case rel => exact ⟨(x6_2), (wrap64 (x47_2 + 1)), (bq78), H', ⟨by have := HJ2.out; have := HK2.out; omega⟩, ⟨bq71⟩, ⟨bq64⟩, ⟨by (with_reducible repeat (first | refine blk_drewN ?_ _ | refine blk_drew ?_ | refine blk_alloc ?_ _)); exact BK121.out⟩, ⟨by (with_reducible repeat (first | refine blk_drewN ?_ _ | refine blk_drew ?_ | refine blk_alloc ?_ _)); exact BK125.out⟩, ⟨bq25⟩⟩
           ·rw [if_neg c34] at H
            have c34b0 : ((rdOf ByteArray.empty y131 x47_2).toList == ([] : List UInt8)) = false := beq_eq_false_iff_ne.mpr c34
            try have c34b4 : (!((rdOf ByteArray.empty y131 x47_2)).toList.isEmpty) = true := by simpa using c34b0
            have c34b1 : ((rdOf ByteArray.empty y131 x47_2).toList != ([] : List UInt8)) = true := bne_iff_ne.mpr c34
            by_cases c35 : x6_2.length < 8796093022208
            ·rw [if_pos c35] at H
             have LMc35 := Aside0.mk c35
             clear c35
             obtain ⟨y135, hy135⟩ : ∃ y_ : List ByteArray, y_ = (x6_2 ++ [rdOf ByteArray.empty y131 x47_2]) := ⟨_, rfl⟩
             replace H : (ir_Line.l0 k2 y135 y131 (y131.length : Int) (wrap64 (x47_2 + 1)) ((rd_T47 l0_4 a1).f0) ((rd_T47 l0_4 a1).f1) ((rd_T47 l0_4 a1).f2) ((rd_T47 l0_4 a1).f3) ((rd_T47 l0_4 a1).f4)) = some r := by first | (rw [hy135]; with_reducible exact H) | (have H2_ := (Option.bind_some _ _).symm.trans H; rw [hy135]; with_reducible exact H2_) | (have H2_ := (Option.bind_some _ _).symm.trans H; with_reducible exact H2_) | with_reducible exact H | (rw [hy135]; exact H) | exact H
             have Ny135 := Aside0.mk hy135
             clear hy135
             have H' := Aside0.mk H
             clear H
             have p134 : 0 ≤ (x47_2 : Int) := of_decide_eq_true (bq77)
             have q134 : x47_2 < (y131.length : Int) := of_decide_eq_true (bq77)
             obtain ⟨ad134, e134, hx134_0⟩ := Kd.at_string (Kd.R_reads' HO_45.out).2.2 x47_2 p134 q134
             cases e134
             replace p134 := eq_true p134
             replace q134 := eq_true q134
             go_wp2_with (first | ((with_reducible refine gate_builtin (b := .append) (xs := #[.tmp 53, .tmp 55]) rfl ?_); (try (refine gate_guard (by rfl) ?_; dsimp only)); at_builtin; refine Kd.R_append Kd.string (w0 := w) w.heap.size rfl (.tmp 53) (.tmp 55) 31 9 (.string ⟨#[]⟩) 16 rfl Tryd.underlying31 info9 rfl (by decide) (by omega) u6 x6_2 (rdOf ByteArray.empty y131 x47_2) [.string (rdOf ByteArray.empty y131 x47_2)] (fun k_ => some k_ ≠ (.slice (some ad134) y131.length co30 : Value).ownBlock) (fun _ => False) rfl rfl ?aP (fun _ hk => hk.elim) ?aF ?aO ?aB ?aS ?aL ?_; (case aP => exact rfl); (case aB => exact (bq25)); (case aF => exact (fun k_ hk => Kd.fresh' (Kd.R_lt (bq64)) k_ hk)); (case aO => exact (bq71)); (case aS => exact (below_size (bq25))); (case aL => have := LMc35.out; omega); intro v136 w36 ho hb hg hat; rw [← Ny135.out] at ho; have n0_ := Aside0.mk (Kd.R_after (ok := (fun _ => True)) (bq47) hg hat); have n1_ := Aside0.mk (blkG BK121.out hg (Kd.R_ne HO_6.out BK121.out (by decide))); have n2_ := Aside0.mk (blkG BK125.out hg (Kd.R_ne HO_6.out BK125.out (by decide))); have n3_ := Aside0.mk (hb); have n4_ := Aside0.mk (ho); clear HO_45 BK121 BK125 HB HO_6; have HO_45 := n0_; have BK121 := n1_; have BK125 := n2_; have HB := n3_; have HO137 := n4_; clear n0_ n1_ n2_ n3_ n4_ ho hb hg hat))
             go_roundg k2
             case measure => have := HJ2.out; have := HK2.out; omega
             case rel => exact ⟨(y135), (wrap64 (x47_2 + 1)), (bq78), H', ⟨by have := HJ2.out; have := HK2.out; omega⟩, ⟨by (with_reducible repeat (first | apply Kd.R_alloc | apply Kd.R_drewN | apply Kd.R_drew)); exact HO137.out⟩, ⟨by (with_reducible repeat (first | apply Kd.R_alloc | apply Kd.R_drewN | apply Kd.R_drew)); exact Kd.R_mono HO_45.out (fun _ hk => hk.2)⟩, ⟨by (with_reducible repeat (first | refine blk_drewN ?_ _ | refine blk_drew ?_ | refine blk_alloc ?_ _)); exact BK121.out⟩, ⟨by (with_reducible repeat (first | refine blk_drewN ?_ _ | refine blk_drew ?_ | refine blk_alloc ?_ _)); exact BK125.out⟩, ⟨bq25⟩⟩
            ·rw [if_neg c35] at H
             exact absurd H (by simp)
          ·rw [if_neg c33] at H
           exact absurd H (by simp)
         ·rw [if_neg c32] at H
          exact absurd H (by simp)
        ·rw [if_neg c31] at H
         have c31b0 := decide_eq_false c31
         clear c31
         replace H := Option.bind_eq_some_iff.mp H
         obtain ⟨t138, A370, H⟩ := H
         (try dsimp only at H)
         have A37 := Aside0.mk A370
         clear A370
         by_cases c38 : x6_2.length < 8796093022208
         ·rw [if_pos c38] at H
          have LMc38 := Aside0.mk c38
          clear c38
          obtain ⟨y139, hy139⟩ : ∃ y_ : List ByteArray, y_ = (x6_2 ++ [t138]) := ⟨_, rfl⟩
          replace H : (ir_Line.l1 k2 y139 ((rd_T47 l0_4 a1).f2) (((rd_T47 l0_4 a1).f2).length : Int) 0) = some r := by first | (rw [hy139]; with_reducible exact H) | (have H2_ := (Option.bind_some _ _).symm.trans H; rw [hy139]; with_reducible exact H2_) | (have H2_ := (Option.bind_some _ _).symm.trans H; with_reducible exact H2_) | with_reducible exact H | (rw [hy139]; exact H) | exact H
          have Ny139 := Aside0.mk hy139
          clear hy139
          have H' := Aside0.mk H
          clear H
          have hnb39 := NB125_121.out
          have hnc39 := NB121_125.out
          obtain ⟨hcz40_0, hcz40_1, hcz40_2, hcz40_3, hcz40_4, hfz40_0, hfz40_1, hfz40_2, hfz40_3, hfz40_4⟩ := bk5 BK125.out
          go_wp2_with (first | ((with_reducible refine gate_callee (f := 42) rfl ?_); refine goesL_ (some 61) rfl rfl Tryd.func42 (by kernel_rfl) rfl #[.int .i64 ((rd_T47 l0_4 a1).f3)] rfl (bq48) ?_; (with_reducible refine (strconv_Itoa_42.calls ((rd_T47 l0_4 a1).f3) t138 _ A37.out).mono ?_); rintro e w41 ⟨rfl, hb⟩; refine ⟨_, rfl, ?_⟩; have n0_ := Aside0.mk (Kd.R_below (bq71) hb); have n1_ := Aside0.mk (Kd.R_below (bq64) hb); have n2_ := Aside0.mk (blkB BK121.out hb); have n3_ := Aside0.mk (blkB BK125.out hb); have n4_ := Aside0.mk (below_step (bq25) hb); clear HO_6 HO_45 BK121 BK125 HB; have HO_6 := n0_; have HO_45 := n1_; have BK121 := n2_; have BK125 := n3_; have HB := n4_; clear n0_ n1_ n2_ n3_ n4_ hb) | ((with_reducible refine gate_builtin (b := .append) (xs := #[.tmp 58, .tmp 62]) rfl ?_); (try (refine gate_guard (by rfl) ?_; dsimp only)); at_builtin; refine Kd.R_append Kd.string (w0 := w) w.heap.size rfl (.tmp 58) (.tmp 62) 31 9 (.string ⟨#[]⟩) 16 rfl Tryd.underlying31 info9 rfl (by decide) (by omega) u6 x6_2 t138 [.string t138] (fun k_ => some k_ ≠ (.slice Ao30 y131.length co30 : Value).ownBlock) (fun _ => False) rfl rfl ?aP (fun _ hk => hk.elim) ?aF ?aO ?aB ?aS ?aL ?_; (case aP => exact rfl); (case aB => exact (bq25)); (case aF => exact (fun k_ hk => Kd.fresh' (Kd.R_lt (bq64)) k_ hk)); (case aO => exact (bq71)); (case aS => exact (below_size (bq25))); (case aL => have := LMc38.out; omega); intro v140 w42 ho hb hg hat; rw [← Ny139.out] at ho; have n0_ := Aside0.mk (Kd.R_after (ok := (fun _ => True)) (bq47) hg hat); have n1_ := Aside0.mk (blkG BK121.out hg (Kd.R_ne HO_6.out BK121.out (by decide))); have n2_ := Aside0.mk (blkG BK125.out hg (Kd.R_ne HO_6.out BK125.out (by decide))); have n3_ := Aside0.mk (hb); have n4_ := Aside0.mk (ho); clear HO_45 BK121 BK125 HB HO_6; have HO_45 := n0_; have BK121 := n1_; have BK125 := n2_; have HB := n3_; have HO141 := n4_; clear n0_ n1_ n2_ n3_ n4_ ho hb hg hat; obtain ⟨hcz43_0, hcz43_1, hcz43_2, hcz43_3, hcz43_4, hfz43_0, hfz43_1, hfz43_2, hfz43_3, hfz43_4⟩ := bk5 BK125.out))
          go_loopg [6, 67] k2 (fun kq v6 v67 w' => ∃ (x6_3 : List ByteArray) (x67_3 : Int), v67 = .int .i64 x67_3 ∧ Aside0 (ir_Line.l1 kq x6_3 ((rd_T47 l0_4 a1).f2) (((rd_T47 l0_4 a1).f2).length : Int) x67_3 = some r) ∧ Aside0 (kq ≤ k2) ∧ Aside0 (Kd.R Kd.string 9 w' w.heap.size (fun _ => True) v6 x6_3) ∧ Aside0 (w'.heap[gb121]? = some (.cells #[.string a0_0, (.slice A0_1 l0_1.length c0_1), .string a0_2, (.slice A0_3 l0_3.length c0_3), (.slice (some ad124) l0_4.length c0_4), (.slice A0_5 l0_5.length c0_5)] 40 (0, 0))) ∧ Aside0 (w'.heap[gb125]? = some (.cells #[.int .i64 ((rd_T47 l0_4 a1).f0), .string ((rd_T47 l0_4 a1).f1), (.slice A124_2 ((rd_T47 l0_4 a1).f2).length c124_2), .int .i64 ((rd_T47 l0_4 a1).f3), .string ((rd_T47 l0_4 a1).f4)] 47 (0, 0))) ∧ Aside0 (Below w.heap.size w w'))
          case atStart => exact ⟨(y139), (0), (bq78), H', ⟨Nat.le_refl _⟩, ⟨by (with_reducible repeat (first | apply Kd.R_alloc | apply Kd.R_drewN | apply Kd.R_drew)); exact Kd.R_mono HO141.out (fun _ hk => trivial)⟩, ⟨by (with_reducible repeat (first | refine blk_drewN ?_ _ | refine blk_drew ?_ | refine blk_alloc ?_ _)); exact BK121.out⟩, ⟨by (with_reducible repeat (first | refine blk_drewN ?_ _ | refine blk_drew ?_ | refine blk_alloc ?_ _)); exact BK125.out⟩, ⟨bq25⟩⟩
          case round =>
           clear H' c31b0 hcz40_0 hcz40_1 hcz40_2 hcz40_3 hcz40_4 hcz43_0 hcz43_1 hcz43_2 hcz43_3 hcz43_4 hfz40_0 hfz40_1 hfz40_2 hfz40_3 hfz40_4 hfz43_0 hfz43_1 hfz43_2 hfz43_3 hfz43_4
           obtain ⟨x6_3, x67_3, rfl, HA, HK3, HO_6, BK121, BK125, HB⟩ := hrel
           cases gk with
           | zero => exact absurd HA.out (by simp [ir_Line.l1])
           | succ k3 =>
            have H := HA.out
            clear HA
            simp only [ir_Line.l1] at H
            by_cases c44 : x67_3 < (((rd_T47 l0_4 a1).f2).length : Int)
            ·rw [if_pos c44] at H
             have c44b0 := decide_eq_true c44
             clear c44
             by_cases c45 : 0 ≤ x67_3
             ·rw [if_pos c45] at H
              have c45b0 := decide_eq_true c45
              clear c45
              by_cases c46 : x67_3 < (((rd_T47 l0_4 a1).f2).length : Int)
              ·rw [if_pos c46] at H
               have c46b0 := decide_eq_true c46
               clear c46
               replace H := Option.bind_eq_some_iff.mp H
               obtain ⟨t143, A470, H⟩ := H
               (try dsimp only at H)
               have A47 := Aside0.mk A470
               clear A470
               by_cases c48 : x6_3.length < 8796093022208
               ·rw [if_pos c48] at H
                have LMc48 := Aside0.mk c48
                clear c48
                obtain ⟨y144, hy144⟩ : ∃ y_ : List ByteArray, y_ = (x6_3 ++ [t143]) := ⟨_, rfl⟩
                replace H : (ir_Line.l1 k3 y144 ((rd_T47 l0_4 a1).f2) (((rd_T47 l0_4 a1).f2).length : Int) (wrap64 (x67_3 + 1))) = some r := by first | (rw [hy144]; with_reducible exact H) | (have H2_ := (Option.bind_some _ _).symm.trans H; rw [hy144]; with_reducible exact H2_) | (have H2_ := (Option.bind_some _ _).symm.trans H; with_reducible exact H2_) | with_reducible exact H | (rw [hy144]; exact H) | exact H
                have Ny144 := Aside0.mk hy144
                clear hy144
                have H' := Aside0.mk H
                clear H
                have p142 : 0 ≤ (x67_3 : Int) := of_decide_eq_true (bq77)
                have q142 : x67_3 < (((rd_T47 l0_4 a1).f2).length : Int) := of_decide_eq_true (bq77)
                obtain ⟨ad142, e142, hx142_0⟩ := Kd.at_int HR124_2.out x67_3 p142 q142
                cases e142
                replace hx142_0 := (HB.out.cell (World.block_lt_of_cell? w _ hx142_0)).trans hx142_0
                replace p142 := eq_true p142
                replace q142 := eq_true q142
                go_wp2_with (first | ((with_reducible refine gate_callee (f := 41) rfl ?_); refine goesL_ (some 73) rfl rfl Tryd.func41 (by kernel_rfl) rfl #[.int .i64 (rd ((rd_T47 l0_4 a1).f2) x67_3)] rfl (bq48) ?_; (with_reducible refine (ir_value.calls (rd ((rd_T47 l0_4 a1).f2) x67_3) t143 _ A47.out).mono ?_); rintro e w49 ⟨rfl, hb⟩; refine ⟨_, rfl, ?_⟩; have n0_ := Aside0.mk (Kd.R_below (bq71) hb); have n1_ := Aside0.mk (blkB BK121.out hb); have n2_ := Aside0.mk (blkB BK125.out hb); have n3_ := Aside0.mk (below_step (bq25) hb); clear HO_6 BK121 BK125 HB; have HO_6 := n0_; have BK121 := n1_; have BK125 := n2_; have HB := n3_; clear n0_ n1_ n2_ n3_ hb) | ((with_reducible refine gate_builtin (b := .append) (xs := #[.tmp 71, .tmp 74]) rfl ?_); (try (refine gate_guard (by rfl) ?_; dsimp only)); at_builtin; refine Kd.R_append Kd.string (w0 := w) w.heap.size rfl (.tmp 71) (.tmp 74) 31 9 (.string ⟨#[]⟩) 16 rfl Tryd.underlying31 info9 rfl (by decide) (by omega) u6 x6_3 t143 [.string t143] (fun _ => True) (fun _ => False) rfl rfl ?aP (fun _ hk => hk.elim) ?aF ?aO ?aB ?aS ?aL ?_; (case aP => exact rfl); (case aB => exact (bq25)); (case aF => exact (fun _ _ => trivial)); (case aO => exact (bq71)); (case aS => exact (below_size (bq25))); (case aL => have := LMc48.out; omega); intro v145 w50 ho hb hg hat; rw [← Ny144.out] at ho; have n0_ := Aside0.mk (blkG BK121.out hg (Kd.R_ne HO_6.out BK121.out (by decide))); have n1_ := Aside0.mk (blkG BK125.out hg (Kd.R_ne HO_6.out BK125.out (by decide))); have n2_ := Aside0.mk (hb); have n3_ := Aside0.mk (ho); clear BK121 BK125 HB HO_6; have BK121 := n0_; have BK125 := n1_; have HB := n2_; have HO146 := n3_; clear n0_ n1_ n2_ n3_ ho hb hg hat))
                go_roundg k3
                case measure => have := HJ2.out; have := HK2.out; have := HK3.out; omega
                case rel => exact ⟨(y144), (wrap64 (x67_3 + 1)), (bq78), H', ⟨by have := HJ2.out; have := HK2.out; have := HK3.out; omega⟩, ⟨by (with_reducible repeat (first | apply Kd.R_alloc | apply Kd.R_drewN | apply Kd.R_drew)); exact HO146.out⟩, ⟨by (with_reducible repeat (first | refine blk_drewN ?_ _ | refine blk_drew ?_ | refine blk_alloc ?_ _)); exact BK121.out⟩, ⟨by (with_reducible repeat (first | refine blk_drewN ?_ _ | refine blk_drew ?_ | refine blk_alloc ?_ _)); exact BK125.out⟩, ⟨bq25⟩⟩
               ·rw [if_neg c48] at H
                exact absurd H (by simp)
              ·rw [if_neg c46] at H
               exact absurd H (by simp)
             ·rw [if_neg c45] at H
              exact absurd H (by simp)
            ·rw [if_neg c44] at H
             have c44b0 := decide_eq_false c44
             clear c44
             replace H := Option.bind_eq_some_iff.mp H
             obtain ⟨t147, A510, H⟩ := H
             (try dsimp only at H)
             have A51 := Aside0.mk A510
             clear A510
             obtain rfl := Option.some.inj H
             obtain ⟨Ao52, co52, eo52⟩ := Kd.R_slice HO_6.out
             subst eo52
             go_wp2_with (first | ((with_reducible refine gate_callee (f := 29) rfl ?_); refine goesL_ (some 78) rfl rfl Tryd.func29 (by kernel_rfl) rfl #[.slice Ao52 x6_3.length co52, .string (⟨#[32]⟩ : ByteArray)] rfl (bq48) ?_; (with_reducible refine (strings_Join.calls _ _ x6_3 (⟨#[32]⟩ : ByteArray) t147 _ ?side1 ?side2 A51.out).mono ?_); (case side1 => repeat (first | exact (Kd.R_reads' HO_6.out).2.2 | (with_reducible refine Kd.C_alloc ?_ _) | (with_reducible refine Kd.C_drewN ?_ _) | (with_reducible refine Kd.C_drew ?_))); (case side2 => exact (Kd.R_reads' HO_6.out).2.1); rintro e w53 ⟨rfl, hb⟩; refine ⟨_, rfl, ?_⟩; have n0_ := Aside0.mk (Kd.R_below (bq71) hb); have n1_ := Aside0.mk (blkB BK121.out hb); have n2_ := Aside0.mk (blkB BK125.out hb); have n3_ := Aside0.mk (below_step (bq25) hb); clear HO_6 BK121 BK125 HB; have HO_6 := n0_; have BK121 := n1_; have BK125 := n2_; have HB := n3_; clear n0_ n1_ n2_ n3_ hb))
             go_ret
             exact ⟨by first | rfl | (simp [errW_none, errW_some] <;> rfl) | (simp [*, errW_none, errW_some] <;> rfl), bq25⟩
         ·rw [if_neg c38] at H
          exact absurd H (by simp)
     ·rw [if_neg c14] at H
      exact absurd H (by simp)
    ·rw [if_neg c13] at H
     exact absurd H (by simp)
/-! ### truantlaw08_wide: function 21 -/
mutual
def truantlaw08_wide.j0 : Nat → Bool → ByteArray → List ByteArray → ByteArray → List ByteArray → List (S47) → List (S53) → Option (Bool)
 | 0, _, _, _, _, _, _, _ => none
 | k + 1, x27, x462000, x462001, x462002, x462003, x462004, x462005 => if x27 = true then (some true) else (truantlaw08_wide.l0 k 0 0 x462000 x462001 x462002 x462003 x462004 x462005)
def truantlaw08_wide.l0 : Nat → Int → Int → ByteArray → List ByteArray → ByteArray → List ByteArray → List (S47) → List (S53) → Option (Bool)
 | 0, _, _, _, _, _, _, _, _ => none
 | k + 1, x3, x4, x462000, x462001, x462002, x462003, x462004, x462005 => if x4 < (x462005.length : Int) then (if 0 ≤ x4 then (truantlaw08_wide.l0 k (wrap64 (x3 + (((rd_T53 x462005 x4).f0).length : Int))) (wrap64 (x4 + 1)) x462000 x462001 x462002 x462003 x462004 x462005) else (none)) else (truantlaw08_wide.l1 k x3 0 x462000 x462001 x462002 x462003 x462004 x462005)
def truantlaw08_wide.l1 : Nat → Int → Int → ByteArray → List ByteArray → ByteArray → List ByteArray → List (S47) → List (S53) → Option (Bool)
 | 0, _, _, _, _, _, _, _, _ => none
 | k + 1, x3, x5, x462000, x462001, x462002, x462003, x462004, x462005 => if x5 < (x462004.length : Int) then (if 0 ≤ x5 then (truantlaw08_wide.l1 k (wrap64 (x3 + (((rd_T47 x462004 x5).f2).length : Int))) (wrap64 (x5 + 1)) x462000 x462001 x462002 x462003 x462004 x462005) else (none)) else (some (decide (x3 > 1500)))
end
def truantlaw08_wide.f (k : Nat) (a0_0 : ByteArray) (l0_1 : List ByteArray) (a0_2 : ByteArray) (l0_3 : List ByteArray) (l0_4 : List (S47)) (l0_5 : List (S53)) : Option (Bool) := if (l0_1.length : Int) > 10 then (truantlaw08_wide.j0 k true a0_0 l0_1 a0_2 l0_3 l0_4 l0_5) else (if (l0_3.length : Int) > 100 then (truantlaw08_wide.j0 k true a0_0 l0_1 a0_2 l0_3 l0_4 l0_5) else (if (l0_4.length : Int) > 300 then (truantlaw08_wide.j0 k true a0_0 l0_1 a0_2 l0_3 l0_4 l0_5) else (truantlaw08_wide.j0 k (decide ((l0_5.length : Int) > 60)) a0_0 l0_1 a0_2 l0_3 l0_4 l0_5)))
theorem truantlaw08_wide.mono_l : ∀ k, (∀ y0 y1 y2 y3 y4 y5 y6, LeO (truantlaw08_wide.j0 k y0 y1 y2 y3 y4 y5 y6) (truantlaw08_wide.j0 (k + 1) y0 y1 y2 y3 y4 y5 y6)) ∧ (∀ y0 y1 y2 y3 y4 y5 y6 y7, LeO (truantlaw08_wide.l0 k y0 y1 y2 y3 y4 y5 y6 y7) (truantlaw08_wide.l0 (k + 1) y0 y1 y2 y3 y4 y5 y6 y7)) ∧ (∀ y0 y1 y2 y3 y4 y5 y6 y7, LeO (truantlaw08_wide.l1 k y0 y1 y2 y3 y4 y5 y6 y7) (truantlaw08_wide.l1 (k + 1) y0 y1 y2 y3 y4 y5 y6 y7))
 | 0 => ⟨fun _ _ _ _ _ _ _ r h => by simp [truantlaw08_wide.j0] at h, fun _ _ _ _ _ _ _ _ r h => by simp [truantlaw08_wide.l0] at h, fun _ _ _ _ _ _ _ _ r h => by simp [truantlaw08_wide.l1] at h⟩
 | k + 1 => by
  obtain ⟨ih0, ih1, ih2⟩ := truantlaw08_wide.mono_l k
  refine ⟨?_, ?_, ?_⟩
  ·intro y0 y1 y2 y3 y4 y5 y6
   unfold truantlaw08_wide.j0
   repeat' first
   | (with_reducible exact ih1 _ _ _ _ _ _ _ _)
   | (with_reducible exact LeO.refl _)
   | (with_reducible refine LeO.ite ?_ ?_)
  ·intro y0 y1 y2 y3 y4 y5 y6 y7
   unfold truantlaw08_wide.l0
   repeat' first
   | (with_reducible exact ih1 _ _ _ _ _ _ _ _)
   | (with_reducible exact ih2 _ _ _ _ _ _ _ _)
   | (with_reducible exact LeO.refl _)
   | (with_reducible refine LeO.ite ?_ ?_)
  ·intro y0 y1 y2 y3 y4 y5 y6 y7
   unfold truantlaw08_wide.l1
   repeat' first
   | (with_reducible exact ih2 _ _ _ _ _ _ _ _)
   | (with_reducible exact LeO.refl _)
   | (with_reducible refine LeO.ite ?_ ?_)
theorem truantlaw08_wide.mono : ∀ a0 a1 a2 a3 a4 a5 k, LeO (truantlaw08_wide.f k a0 a1 a2 a3 a4 a5) (truantlaw08_wide.f (k + 1) a0 a1 a2 a3 a4 a5) := by
 intro a0 a1 a2 a3 a4 a5 k
 obtain ⟨ih0, ih1, ih2⟩ := truantlaw08_wide.mono_l k
 unfold truantlaw08_wide.f
 repeat' first
   | (with_reducible exact ih0 _ _ _ _ _ _ _)
   | (with_reducible refine LeO.ite ?_ ?_)
set_option maxHeartbeats 8000000 in
set_option maxRecDepth 100000 in
theorem truantlaw08_wide.calls (k : Nat) (a0_0 : ByteArray) (A0_1 : Option Addr) (c0_1 : Nat) (l0_1 : List ByteArray) (a0_2 : ByteArray) (A0_3 : Option Addr) (c0_3 : Nat) (l0_3 : List ByteArray) (A0_4 : Option Addr) (c0_4 : Nat) (l0_4 : List (S47)) (A0_5 : Option Addr) (c0_5 : Nat) (l0_5 : List (S53)) (r : Bool) (w : World) (hr0_1 : Kd.C Kd.string w A0_1 l0_1.length l0_1) (hc0_1 : l0_1.length ≤ c0_1) (hr0_3 : Kd.C Kd.string w A0_3 l0_3.length l0_3) (hc0_3 : l0_3.length ≤ c0_3) (hr0_4 : Kd.C k47 w A0_4 l0_4.length l0_4) (hc0_4 : l0_4.length ≤ c0_4) (hr0_5 : Kd.C k53 w A0_5 l0_5.length l0_5) (hc0_5 : l0_5.length ≤ c0_5) (h : truantlaw08_wide.f k a0_0 l0_1 a0_2 l0_3 l0_4 l0_5 = some r) :
  Calls Tryd.prog 21 #[.agg #[.string a0_0, .slice A0_1 l0_1.length c0_1, .string a0_2, .slice A0_3 l0_3.length c0_3, .slice A0_4 l0_4.length c0_4, .slice A0_5 l0_5.length c0_5]] w fun e w' => e = .returned (.bool r) ∧ Below w.heap.size w w' := by
 have hu40 := Tryd.underlying40
 have HR0_1 := Aside0.mk hr0_1
 have HC0_1 := Aside0.mk hc0_1
 clear hr0_1 hc0_1
 have HR0_3 := Aside0.mk hr0_3
 have HC0_3 := Aside0.mk hc0_3
 clear hr0_3 hc0_3
 have HR0_4 := Aside0.mk hr0_4
 have HC0_4 := Aside0.mk hc0_4
 clear hr0_4 hc0_4
 have HR0_5 := Aside0.mk hr0_5
 have HC0_5 := Aside0.mk hc0_5
 clear hr0_5 hc0_5
 have HB := Aside0.mk (Below.refl w.heap.size w)
 have H : (if (l0_1.length : Int) > 10 then (truantlaw08_wide.j0 k true a0_0 l0_1 a0_2 l0_3 l0_4 l0_5) else (if (l0_3.length : Int) > 100 then (truantlaw08_wide.j0 k true a0_0 l0_1 a0_2 l0_3 l0_4 l0_5) else (if (l0_4.length : Int) > 300 then (truantlaw08_wide.j0 k true a0_0 l0_1 a0_2 l0_3 l0_4 l0_5) else (truantlaw08_wide.j0 k (decide ((l0_5.length : Int) > 60)) a0_0 l0_1 a0_2 l0_3 l0_4 l0_5)))) = some r := h
 clear h
 have HC2 := Aside0.mk H
 clear H
 go_enter Tryd.func21, Tryd.ntmps21
 go_upto_region 1 with (first | ((with_reducible refine gate_dst (N := 1) rfl ?_); (try (refine gate_guard (by rfl) ?_; dsimp only)); refine box_event ?hg (N := 1) ?hd (cs := #[.string a0_0, .slice A0_1 l0_1.length c0_1, .string a0_2, .slice A0_3 l0_3.length c0_3, .slice A0_4 l0_4.length c0_4, .slice A0_5 l0_5.length c0_5]) (t := 40) ?hr ?_; (case hd => rfl); (case hg => rfl); (case hr => first | (go_simp; done) | (go_simp; rfl)); intro gb461 hg w3 hbox hb; have n0_ := Aside0.mk (below_step (bq51) hb); have n1_ := Aside0.mk (hbox); have n2_ := Aside0.mk ((bq35 : w.heap.size ≤ gb461)); have n3_ := Aside0.mk ((bq35 : w.heap.size ≤ gb461)); clear HB; have HB := n0_; have BK461 := n1_; have GW461 := n2_; have GE461 := n3_; clear n0_ n1_ n2_ n3_ hb hbox hg))
 (try simp only [Act.put, List.setIfInBounds_toArray, List.set_cons_zero, List.set_cons_succ])
 go_cut [27] (fun v27 wc => ∃ (kq : Nat) (x27_1 : Bool), v27 = .bool x27_1 ∧ Aside0 (truantlaw08_wide.j0 kq x27_1 a0_0 l0_1 a0_2 l0_3 l0_4 l0_5 = some r) ∧ Aside0 (kq ≤ k) ∧ Aside0 (wc.heap[gb461]? = some (.cells #[.string a0_0, (.slice A0_1 l0_1.length c0_1), .string a0_2, (.slice A0_3 l0_3.length c0_3), (.slice A0_4 l0_4.length c0_4), (.slice A0_5 l0_5.length c0_5)] 40 (0, 0))) ∧ Aside0 (Below w.heap.size w wc))
 case first =>
  have H := HC2.out
  clear HC2
  by_cases c4 : (l0_1.length : Int) > 10
  ·rw [if_pos c4] at H
   have c4b0 := decide_eq_true c4
   have c4b1 : decide (10 < l0_1.length) = true := decide_eq_true (by omega)
   clear c4
   (first | rw [c4b0] | rw [c4b1] | rw [c4b4] | (simp only [i64_w, i32_w]; rw [c4b0]) | skip)
   have H' := Aside0.mk H
   clear H
   obtain ⟨hcz5_0, hcz5_1, hcz5_2, hcz5_3, hcz5_4, hcz5_5, hfz5_0, hfz5_1, hfz5_2, hfz5_3, hfz5_4, hfz5_5⟩ := bk6 BK461.out
   go_wp2
   go_meet
   case rel => exact ⟨_, (true), (bq78), H', ⟨by first | omega | exact Nat.le_refl _⟩, ⟨by (with_reducible repeat (first | refine blk_drewN ?_ _ | refine blk_drew ?_ | refine blk_alloc ?_ _)); exact BK461.out⟩, ⟨by repeat (first | (with_reducible first | exact HB.out | apply below_alloc | apply pw_below_drewN | apply below_drew1 | refine below_set ?_ GE461.out) | exact HB.out)⟩⟩
  ·rw [if_neg c4] at H
   have c4b0 := decide_eq_false c4
   have c4b1 : decide (10 < l0_1.length) = false := decide_eq_false (by omega)
   clear c4
   (first | rw [c4b0] | rw [c4b1] | rw [c4b4] | (simp only [i64_w, i32_w]; rw [c4b0]) | skip)
   by_cases c6 : (l0_3.length : Int) > 100
   ·rw [if_pos c6] at H
    have c6b0 := decide_eq_true c6
    have c6b1 : decide (100 < l0_3.length) = true := decide_eq_true (by omega)
    clear c6
    have H' := Aside0.mk H
    clear H
    obtain ⟨hcz7_0, hcz7_1, hcz7_2, hcz7_3, hcz7_4, hcz7_5, hfz7_0, hfz7_1, hfz7_2, hfz7_3, hfz7_4, hfz7_5⟩ := bk6 BK461.out
    go_wp2
    go_meet
    case rel => exact ⟨_, (true), (bq78), H', ⟨by first | omega | exact Nat.le_refl _⟩, ⟨by (with_reducible repeat (first | refine blk_drewN ?_ _ | refine blk_drew ?_ | refine blk_alloc ?_ _)); exact BK461.out⟩, ⟨by repeat (first | (with_reducible first | exact HB.out | apply below_alloc | apply pw_below_drewN | apply below_drew1 | refine below_set ?_ GE461.out) | exact HB.out)⟩⟩
   ·rw [if_neg c6] at H
    have c6b0 := decide_eq_false c6
    have c6b1 : decide (100 < l0_3.length) = false := decide_eq_false (by omega)
    clear c6
    by_cases c8 : (l0_4.length : Int) > 300
    ·rw [if_pos c8] at H
     have c8b0 := decide_eq_true c8
     have c8b1 : decide (300 < l0_4.length) = true := decide_eq_true (by omega)
     clear c8
     have H' := Aside0.mk H
     clear H
     obtain ⟨hcz9_0, hcz9_1, hcz9_2, hcz9_3, hcz9_4, hcz9_5, hfz9_0, hfz9_1, hfz9_2, hfz9_3, hfz9_4, hfz9_5⟩ := bk6 BK461.out
     go_wp2
     go_meet
     case rel => exact ⟨_, (true), (bq78), H', ⟨by first | omega | exact Nat.le_refl _⟩, ⟨by (with_reducible repeat (first | refine blk_drewN ?_ _ | refine blk_drew ?_ | refine blk_alloc ?_ _)); exact BK461.out⟩, ⟨by repeat (first | (with_reducible first | exact HB.out | apply below_alloc | apply pw_below_drewN | apply below_drew1 | refine below_set ?_ GE461.out) | exact HB.out)⟩⟩
    ·rw [if_neg c8] at H
     have c8b0 := decide_eq_false c8
     have c8b1 : decide (300 < l0_4.length) = false := decide_eq_false (by omega)
     clear c8
     have H' := Aside0.mk H
     clear H
     obtain ⟨hcz10_0, hcz10_1, hcz10_2, hcz10_3, hcz10_4, hcz10_5, hfz10_0, hfz10_1, hfz10_2, hfz10_3, hfz10_4, hfz10_5⟩ := bk6 BK461.out
     go_wp2
     go_meet
     case rel => exact ⟨_, (decide ((l0_5.length : Int) > 60)), (bq78), H', ⟨by first | omega | exact Nat.le_refl _⟩, ⟨by (with_reducible repeat (first | refine blk_drewN ?_ _ | refine blk_drew ?_ | refine blk_alloc ?_ _)); exact BK461.out⟩, ⟨by repeat (first | (with_reducible first | exact HB.out | apply below_alloc | apply pw_below_drewN | apply below_drew1 | refine below_set ?_ GE461.out) | exact HB.out)⟩⟩
 case rest =>
  clear HC2
  obtain ⟨kq, x27_1, rfl, HA, HJ1, BK461, HB⟩ := hcut
  cases kq with
  | zero => exact absurd HA.out (by simp [truantlaw08_wide.j0])
  | succ kj1 =>
   have H := HA.out
   clear HA
   simp only [truantlaw08_wide.j0] at H
   by_cases c11 : x27_1 = true
   ·subst c11
    have H1 := H; rw [if_pos rfl] at H1; (try dsimp only at H1)
    clear H
    have H := H1
    clear H1
    obtain rfl := Option.some.inj H
    go_wp2
    go_ret
    exact ⟨by first | rfl | (simp [errW_none, errW_some] <;> rfl) | (simp [*, errW_none, errW_some] <;> rfl), by repeat (first | (with_reducible first | exact HB.out | apply below_alloc | apply pw_below_drewN | apply below_drew1 | refine below_set ?_ GE461.out) | exact HB.out)⟩
   ·replace c11 := Bool.eq_false_iff.mpr c11
    subst c11
    have H1 := H; rw [if_neg (show ¬ (false = true) by decide)] at H1; (try dsimp only at H1)
    clear H
    have H := H1
    clear H1
    have H' := Aside0.mk H
    clear H
    go_wp2
    go_loopg [3, 4] kj1 (fun kq v3 v4 w' => ∃ (x3_2 : Int) (x4_2 : Int), v3 = .int .i64 x3_2 ∧ v4 = .int .i64 x4_2 ∧ Aside0 (truantlaw08_wide.l0 kq x3_2 x4_2 a0_0 l0_1 a0_2 l0_3 l0_4 l0_5 = some r) ∧ Aside0 (kq ≤ kj1) ∧ Aside0 (w'.heap[gb461]? = some (.cells #[.string a0_0, (.slice A0_1 l0_1.length c0_1), .string a0_2, (.slice A0_3 l0_3.length c0_3), (.slice A0_4 l0_4.length c0_4), (.slice A0_5 l0_5.length c0_5)] 40 (0, 0))) ∧ Aside0 (Below w.heap.size w w'))
    case atStart => exact ⟨(0), (0), (bq78), (bq78), H', ⟨Nat.le_refl _⟩, ⟨by (with_reducible repeat (first | refine blk_drewN ?_ _ | refine blk_drew ?_ | refine blk_alloc ?_ _)); exact BK461.out⟩, ⟨by repeat (first | (with_reducible first | exact HB.out | apply below_alloc | apply pw_below_drewN | apply below_drew1 | refine below_set ?_ GE461.out) | exact HB.out)⟩⟩
    case round =>
     clear H'
     obtain ⟨x3_2, x4_2, rfl, rfl, HA, HK2, BK461, HB⟩ := hrel
     cases gk with
     | zero => exact absurd HA.out (by simp [truantlaw08_wide.l0])
     | succ k2 =>
      have H := HA.out
      clear HA
      simp only [truantlaw08_wide.l0] at H
      by_cases c12 : x4_2 < (l0_5.length : Int)
      ·rw [if_pos c12] at H
       have c12b0 := decide_eq_true c12
       clear c12
       by_cases c13 : 0 ≤ x4_2
       ·rw [if_pos c13] at H
        have c13b0 := decide_eq_true c13
        clear c13
        have H' := Aside0.mk H
        clear H
        obtain ⟨hcz14_0, hcz14_1, hcz14_2, hcz14_3, hcz14_4, hcz14_5, hfz14_0, hfz14_1, hfz14_2, hfz14_3, hfz14_4, hfz14_5⟩ := bk6 BK461.out
        have p462 : 0 ≤ (x4_2 : Int) := of_decide_eq_true (bq77)
        have q462 : x4_2 < (l0_5.length : Int) := of_decide_eq_true (bq77)
        obtain ⟨ad462, A462_0, c462_0, e462, hx462_0, hx462_1, hx462_2, hx462_3, hx462_4, hl462_0, hi462_0⟩ := at_T53 HR0_5.out x4_2 p462 q462
        cases e462
        replace hx462_0 := (HB.out.cell (World.block_lt_of_cell? w _ hx462_0)).trans hx462_0
        replace hx462_1 := (HB.out.cell (World.block_lt_of_cell? w _ hx462_1)).trans hx462_1
        replace hx462_2 := (HB.out.cell (World.block_lt_of_cell? w _ hx462_2)).trans hx462_2
        replace hx462_3 := (HB.out.cell (World.block_lt_of_cell? w _ hx462_3)).trans hx462_3
        replace hx462_4 := (HB.out.cell (World.block_lt_of_cell? w _ hx462_4)).trans hx462_4
        have HR462_0 := Aside0.mk hi462_0
        have HC462_0 := Aside0.mk hl462_0
        clear hi462_0 hl462_0
        replace p462 := eq_true p462
        replace q462 := eq_true q462
        go_wp2
        go_roundg k2
        case measure => have := HJ1.out; have := HK2.out; omega
        case rel => exact ⟨(wrap64 (x3_2 + (((rd_T53 l0_5 x4_2).f0).length : Int))), (wrap64 (x4_2 + 1)), (bq78), (bq78), H', ⟨by have := HJ1.out; have := HK2.out; omega⟩, ⟨by (with_reducible repeat (first | refine blk_drewN ?_ _ | refine blk_drew ?_ | refine blk_alloc ?_ _)); exact BK461.out⟩, ⟨by repeat (first | (with_reducible first | exact HB.out | apply below_alloc | apply pw_below_drewN | apply below_drew1 | refine below_set ?_ GE461.out) | exact HB.out)⟩⟩
       ·rw [if_neg c13] at H
        exact absurd H (by simp)
      ·rw [if_neg c12] at H
       have c12b0 := decide_eq_false c12
       clear c12
       have H' := Aside0.mk H
       clear H
       obtain ⟨hcz15_0, hcz15_1, hcz15_2, hcz15_3, hcz15_4, hcz15_5, hfz15_0, hfz15_1, hfz15_2, hfz15_3, hfz15_4, hfz15_5⟩ := bk6 BK461.out
       go_wp2
       go_loopg [3, 5] k2 (fun kq v3 v5 w' => ∃ (x3_3 : Int) (x5_3 : Int), v3 = .int .i64 x3_3 ∧ v5 = .int .i64 x5_3 ∧ Aside0 (truantlaw08_wide.l1 kq x3_3 x5_3 a0_0 l0_1 a0_2 l0_3 l0_4 l0_5 = some r) ∧ Aside0 (kq ≤ k2) ∧ Aside0 (w'.heap[gb461]? = some (.cells #[.string a0_0, (.slice A0_1 l0_1.length c0_1), .string a0_2, (.slice A0_3 l0_3.length c0_3), (.slice A0_4 l0_4.length c0_4), (.slice A0_5 l0_5.length c0_5)] 40 (0, 0))) ∧ Aside0 (Below w.heap.size w w'))
       case atStart => exact ⟨(x3_2), (0), (bq78), (bq78), H', ⟨Nat.le_refl _⟩, ⟨by (with_reducible repeat (first | refine blk_drewN ?_ _ | refine blk_drew ?_ | refine blk_alloc ?_ _)); exact BK461.out⟩, ⟨by repeat (first | (with_reducible first | exact HB.out | apply below_alloc | apply pw_below_drewN | apply below_drew1 | refine below_set ?_ GE461.out) | exact HB.out)⟩⟩
       case round =>
        clear H' c12b0 hcz15_0 hcz15_1 hcz15_2 hcz15_3 hcz15_4 hcz15_5 hfz15_0 hfz15_1 hfz15_2 hfz15_3 hfz15_4 hfz15_5
        obtain ⟨x3_3, x5_3, rfl, rfl, HA, HK3, BK461, HB⟩ := hrel
        cases gk with
        | zero => exact absurd HA.out (by simp [truantlaw08_wide.l1])
        | succ k3 =>
         have H := HA.out
         clear HA
         simp only [truantlaw08_wide.l1] at H
         by_cases c16 : x5_3 < (l0_4.length : Int)
         ·rw [if_pos c16] at H
          have c16b0 := decide_eq_true c16
          clear c16
          by_cases c17 : 0 ≤ x5_3
          ·rw [if_pos c17] at H
           have c17b0 := decide_eq_true c17
           clear c17
           have H' := Aside0.mk H
           clear H
           obtain ⟨hcz18_0, hcz18_1, hcz18_2, hcz18_3, hcz18_4, hcz18_5, hfz18_0, hfz18_1, hfz18_2, hfz18_3, hfz18_4, hfz18_5⟩ := bk6 BK461.out
           have p463 : 0 ≤ (x5_3 : Int) := of_decide_eq_true (bq77)
           have q463 : x5_3 < (l0_4.length : Int) := of_decide_eq_true (bq77)
           obtain ⟨ad463, A463_2, c463_2, e463, hx463_0, hx463_1, hx463_2, hx463_3, hx463_4, hl463_2, hi463_2⟩ := at_T47 HR0_4.out x5_3 p463 q463
           cases e463
           replace hx463_0 := (HB.out.cell (World.block_lt_of_cell? w _ hx463_0)).trans hx463_0
           replace hx463_1 := (HB.out.cell (World.block_lt_of_cell? w _ hx463_1)).trans hx463_1
           replace hx463_2 := (HB.out.cell (World.block_lt_of_cell? w _ hx463_2)).trans hx463_2
           replace hx463_3 := (HB.out.cell (World.block_lt_of_cell? w _ hx463_3)).trans hx463_3
           replace hx463_4 := (HB.out.cell (World.block_lt_of_cell? w _ hx463_4)).trans hx463_4
           have HR463_2 := Aside0.mk hi463_2
           have HC463_2 := Aside0.mk hl463_2
           clear hi463_2 hl463_2
           replace p463 := eq_true p463
           replace q463 := eq_true q463
           go_wp2
           go_roundg k3
           case measure => have := HJ1.out; have := HK2.out; have := HK3.out; omega
           case rel => exact ⟨(wrap64 (x3_3 + (((rd_T47 l0_4 x5_3).f2).length : Int))), (wrap64 (x5_3 + 1)), (bq78), (bq78), H', ⟨by have := HJ1.out; have := HK2.out; have := HK3.out; omega⟩, ⟨by (with_reducible repeat (first | refine blk_drewN ?_ _ | refine blk_drew ?_ | refine blk_alloc ?_ _)); exact BK461.out⟩, ⟨by repeat (first | (with_reducible first | exact HB.out | apply below_alloc | apply pw_below_drewN | apply below_drew1 | refine below_set ?_ GE461.out) | exact HB.out)⟩⟩
          ·rw [if_neg c17] at H
           exact absurd H (by simp)
         ·rw [if_neg c16] at H
          have c16b0 := decide_eq_false c16
          clear c16
          obtain rfl := Option.some.inj H
          obtain ⟨hcz19_0, hcz19_1, hcz19_2, hcz19_3, hcz19_4, hcz19_5, hfz19_0, hfz19_1, hfz19_2, hfz19_3, hfz19_4, hfz19_5⟩ := bk6 BK461.out
          go_wp2
          go_ret
          exact ⟨by first | rfl | (simp [errW_none, errW_some] <;> rfl) | (simp [*, errW_none, errW_some] <;> rfl), by repeat (first | (with_reducible first | exact HB.out | apply below_alloc | apply pw_below_drewN | apply below_drew1 | refine below_set ?_ GE461.out) | exact HB.out)⟩
/-! ### truantref01_Text: function 31 -/
mutual
def truantref01_Text.l0 : Nat → Int → ByteArray → Bool → Option (ByteArray)
 | 0, _, _, _ => none
 | k + 1, x0, x3, x4 => if x3.toList = ([] : List UInt8) then (truantref01_Text.j1 k x0 x3 x4 true) else (truantref01_Text.j1 k x0 x3 x4 (x0 != 0))
def truantref01_Text.j1 : Nat → Int → ByteArray → Bool → Bool → Option (ByteArray)
 | 0, _, _, _, _ => none
 | k + 1, x0, x3, x4, x13 => if x13 = true then (if (Int.tmod x0 10) < 0 then ((some (([(wrap64 (48 + (wrap64 (-(Int.tmod x0 10))))) % 256] : List Int) : List Int)).bind fun y470 => (if (strOfNums y470).size + x3.size ≤ 9223372036854775807 then (truantref01_Text.l0 k (wrap64 (Int.tdiv x0 10)) ((strOfNums y470) ++ x3) x4) else (none))) else ((some (([(wrap64 (48 + (Int.tmod x0 10))) % 256] : List Int) : List Int)).bind fun y473 => (if (strOfNums y473).size + x3.size ≤ 9223372036854775807 then (truantref01_Text.l0 k (wrap64 (Int.tdiv x0 10)) ((strOfNums y473) ++ x3) x4) else (none)))) else (if x4 = true then (if 1 + x3.size ≤ 9223372036854775807 then (some ((⟨#[45]⟩ : ByteArray) ++ x3)) else (none)) else (some x3))
end
def truantref01_Text.f (k : Nat) (a0 : Int) : Option (ByteArray) := truantref01_Text.l0 k a0 (⟨#[]⟩ : ByteArray) (decide (a0 < 0))
theorem truantref01_Text.mono_l : ∀ k, (∀ y0 y1 y2, LeO (truantref01_Text.l0 k y0 y1 y2) (truantref01_Text.l0 (k + 1) y0 y1 y2)) ∧ (∀ y0 y1 y2 y3, LeO (truantref01_Text.j1 k y0 y1 y2 y3) (truantref01_Text.j1 (k + 1) y0 y1 y2 y3))
 | 0 => ⟨fun _ _ _ r h => by simp [truantref01_Text.l0] at h, fun _ _ _ _ r h => by simp [truantref01_Text.j1] at h⟩
 | k + 1 => by
  obtain ⟨ih0, ih1⟩ := truantref01_Text.mono_l k
  refine ⟨?_, ?_⟩
  ·intro y0 y1 y2
   unfold truantref01_Text.l0
   repeat' first
   | (with_reducible exact ih1 _ _ _ _)
   | (with_reducible refine LeO.ite ?_ ?_)
  ·intro y0 y1 y2 y3
   unfold truantref01_Text.j1
   repeat' first
   | (with_reducible exact ih0 _ _ _)
   | (with_reducible exact LeO.refl _)
   | (with_reducible refine LeO.ite ?_ ?_)
   | (with_reducible refine LeO.bind ?_ (fun _ => ?_))
theorem truantref01_Text.mono : ∀ a0 k, LeO (truantref01_Text.f k a0) (truantref01_Text.f (k + 1) a0) := by
 intro a0 k
 obtain ⟨ih0, ih1⟩ := truantref01_Text.mono_l k
 unfold truantref01_Text.f
 repeat' first
   | (with_reducible exact ih0 _ _ _)
set_option maxHeartbeats 8000000 in
set_option maxRecDepth 100000 in
theorem truantref01_Text.calls (k : Nat) (a0 : Int) (r : ByteArray) (w : World) (h : truantref01_Text.f k a0 = some r) :
  Calls Tryd.prog 31 #[.int .i64 a0] w fun e w' => e = .returned (.string r) ∧ Below w.heap.size w w' := by
 have HB := Aside0.mk (Below.refl w.heap.size w)
 have H : (truantref01_Text.l0 k a0 (⟨#[]⟩ : ByteArray) (decide (a0 < 0))) = some r := h
 clear h
 have H' := Aside0.mk H
 clear H
 go_enter Tryd.func31, Tryd.ntmps31
 go_wp2
 go_loopg [0, 3] k (fun kq v0 v3 w' => ∃ (x0_1 : Int) (x3_1 : ByteArray), v0 = .int .i64 x0_1 ∧ v3 = .string x3_1 ∧ Aside0 (truantref01_Text.l0 kq x0_1 x3_1 (decide (a0 < 0)) = some r) ∧ Aside0 (kq ≤ k) ∧ Aside0 (Below w.heap.size w w'))
 case atStart => exact ⟨(a0), ((⟨#[]⟩ : ByteArray)), (bq78), (bq78), H', ⟨Nat.le_refl _⟩, ⟨bq51⟩⟩
 case round =>
  clear H'
  obtain ⟨x0_1, x3_1, rfl, rfl, HA, HK1, HB⟩ := hrel
  cases gk with
  | zero => exact absurd HA.out (by simp [truantref01_Text.l0])
  | succ k1 =>
   have H := HA.out
   clear HA
   simp only [truantref01_Text.l0] at H
   have HC2 := Aside0.mk H
   clear H
   go_upto_region 3 with (fail)
   go_cut [13] (fun v13 wc => ∃ (kq : Nat) (x13_1 : Bool), v13 = .bool x13_1 ∧ Aside0 (truantref01_Text.j1 kq x0_1 x3_1 (decide (a0 < 0)) x13_1 = some r) ∧ Aside0 (kq ≤ k1) ∧ Aside0 (Below w.heap.size w wc))
   case first =>
    have H := HC2.out
    clear HC2
    by_cases c3 : x3_1.toList = ([] : List UInt8)
    ·rw [if_pos c3] at H
     have c3b0 : (x3_1.toList == ([] : List UInt8)) = true := beq_iff_eq.mpr c3
     try have c3b4 : (!(x3_1).toList.isEmpty) = false := by simpa using c3b0
     have c3b1 : (x3_1.toList != ([] : List UInt8)) = false := bne_eq_false_iff_eq.mpr c3
     clear c3
     (first | rw [c3b0] | rw [c3b1] | rw [c3b4] | (simp only [i64_w, i32_w]; rw [c3b0]) | skip)
     have H' := Aside0.mk H
     clear H
     go_wp2
     go_meet
     case rel => exact ⟨_, (true), (bq78), H', ⟨by have := HK1.out; first | omega | exact Nat.le_refl _⟩, ⟨bq51⟩⟩
    ·rw [if_neg c3] at H
     have c3b0 : (x3_1.toList == ([] : List UInt8)) = false := beq_eq_false_iff_ne.mpr c3
     try have c3b4 : (!(x3_1).toList.isEmpty) = true := by simpa using c3b0
     have c3b1 : (x3_1.toList != ([] : List UInt8)) = true := bne_iff_ne.mpr c3
     (first | rw [c3b0] | rw [c3b1] | rw [c3b4] | (simp only [i64_w, i32_w]; rw [c3b0]) | skip)
     have H' := Aside0.mk H
     clear H
     go_wp2
     go_meet
     case rel => exact ⟨_, ((x0_1 != 0)), (bq78), H', ⟨by have := HK1.out; first | omega | exact Nat.le_refl _⟩, ⟨bq51⟩⟩
   case rest =>
    clear HC2
    obtain ⟨kq, x13_1, rfl, HA, HJ1, HB⟩ := hcut
    cases kq with
    | zero => exact absurd HA.out (by simp [truantref01_Text.j1])
    | succ kj1 =>
     have H := HA.out
     clear HA
     simp only [truantref01_Text.j1] at H
     by_cases c4 : x13_1 = true
     ·subst c4
      have H1 := H; rw [if_pos rfl] at H1; (try dsimp only at H1)
      clear H
      have H := H1
      clear H1
      by_cases c5 : (Int.tmod x0_1 10) < 0
      ·rw [if_pos c5] at H
       have c5b0 := decide_eq_true c5
       clear c5
       obtain ⟨y470, hy470⟩ : ∃ y_ : List Int, y_ = (([(wrap64 (48 + (wrap64 (-(Int.tmod x0_1 10))))) % 256] : List Int)) := ⟨_, rfl⟩
       replace H : (if (strOfNums y470).size + x3_1.size ≤ 9223372036854775807 then (truantref01_Text.l0 kj1 (wrap64 (Int.tdiv x0_1 10)) ((strOfNums y470) ++ x3_1) (decide (a0 < 0))) else (none)) = some r := by first | (rw [hy470]; with_reducible exact H) | (have H2_ := (Option.bind_some _ _).symm.trans H; rw [hy470]; with_reducible exact H2_) | (have H2_ := (Option.bind_some _ _).symm.trans H; with_reducible exact H2_) | with_reducible exact H | (rw [hy470]; exact H) | exact H
       have Ny470 := Aside0.mk hy470
       clear hy470
       by_cases c6 : (strOfNums y470).size + x3_1.size ≤ 9223372036854775807
       ·rw [if_pos c6] at H
        have c6b0 := eq_true c6
        have c6b1 := decide_eq_true c6
        try have c6b2 : (9223372036854775807 < (strOfNums y470).size + x3_1.size) = False := eq_false (Nat.not_lt.2 c6)
        have H' := Aside0.mk H
        clear H
        go_wp2_with (first | ((with_reducible refine gate_dst (N := 23) rfl ?_); refine Kd.R_lit (Kd.int .u8) _ 5 ?hg (N := 23) ?hd (xs := ([(wrap64 (48 + (wrap64 (-(Int.tmod x0_1 10))))) % 256] : List Int)) (inner := [.int .u8 ((wrap64 (48 + (wrap64 (-(Int.tmod x0_1 10))))) % 256)]) (ok := fun _ => True) (okp := fun _ => True) ?hr ?hp (fun _ hk => hk) trivial (Below.refl _ _) (Nat.le_refl _) (by simp) ?_; (case hd => rfl); (case hg => rfl); (case hr => first | (go_simp; done) | (go_simp; rfl)); (case hp => exact (Reps.one (show Kd.M (Kd.int .u8) _ _ _ ((wrap64 (48 + (wrap64 (-(Int.tmod x0_1 10))))) % 256) [.int .u8 ((wrap64 (48 + (wrap64 (-(Int.tmod x0_1 10))))) % 256)] from rfl) (Reps.none _ _))); intro v471 w7 ho8 hb hg_ hnew_; clear hg_ hnew_; (first | rw [← Ny470.out] at ho8 | (simp only [Int.reduceToNat] at ho8; rw [← Ny470.out] at ho8)); have n0_ := Aside0.mk (Kd.R_lower ho8 (below_size (bq51))); have n1_ := Aside0.mk (below_step (bq51) hb); clear HB; have HO472 := n0_; have HB := n1_; clear n0_ n1_ hb ho8; have hcv9 := own_string (P := Tryd.prog) Tryd.underlying74 Tryd.underlying5 Tryd.underlying9 (Kd.own_of_R HO472.out)))
        go_roundg kj1
        case measure => have := HK1.out; have := HJ1.out; omega
        case rel => exact ⟨(wrap64 (Int.tdiv x0_1 10)), ((strOfNums y470) ++ x3_1), (bq78), (bq78), H', ⟨by have := HK1.out; have := HJ1.out; omega⟩, ⟨bq51⟩⟩
       ·rw [if_neg c6] at H
        exact absurd H (by simp)
      ·rw [if_neg c5] at H
       have c5b0 := decide_eq_false c5
       clear c5
       obtain ⟨y473, hy473⟩ : ∃ y_ : List Int, y_ = (([(wrap64 (48 + (Int.tmod x0_1 10))) % 256] : List Int)) := ⟨_, rfl⟩
       replace H : (if (strOfNums y473).size + x3_1.size ≤ 9223372036854775807 then (truantref01_Text.l0 kj1 (wrap64 (Int.tdiv x0_1 10)) ((strOfNums y473) ++ x3_1) (decide (a0 < 0))) else (none)) = some r := by first | (rw [hy473]; with_reducible exact H) | (have H2_ := (Option.bind_some _ _).symm.trans H; rw [hy473]; with_reducible exact H2_) | (have H2_ := (Option.bind_some _ _).symm.trans H; with_reducible exact H2_) | with_reducible exact H | (rw [hy473]; exact H) | exact H
       have Ny473 := Aside0.mk hy473
       clear hy473
       by_cases c10 : (strOfNums y473).size + x3_1.size ≤ 9223372036854775807
       ·rw [if_pos c10] at H
        have c10b0 := eq_true c10
        have c10b1 := decide_eq_true c10
        try have c10b2 : (9223372036854775807 < (strOfNums y473).size + x3_1.size) = False := eq_false (Nat.not_lt.2 c10)
        have H' := Aside0.mk H
        clear H
        go_wp2_with (first | ((with_reducible refine gate_dst (N := 23) rfl ?_); refine Kd.R_lit (Kd.int .u8) _ 5 ?hg (N := 23) ?hd (xs := ([(wrap64 (48 + (Int.tmod x0_1 10))) % 256] : List Int)) (inner := [.int .u8 ((wrap64 (48 + (Int.tmod x0_1 10))) % 256)]) (ok := fun _ => True) (okp := fun _ => True) ?hr ?hp (fun _ hk => hk) trivial (Below.refl _ _) (Nat.le_refl _) (by simp) ?_; (case hd => rfl); (case hg => rfl); (case hr => first | (go_simp; done) | (go_simp; rfl)); (case hp => exact (Reps.one (show Kd.M (Kd.int .u8) _ _ _ ((wrap64 (48 + (Int.tmod x0_1 10))) % 256) [.int .u8 ((wrap64 (48 + (Int.tmod x0_1 10))) % 256)] from rfl) (Reps.none _ _))); intro v474 w11 ho12 hb hg_ hnew_; clear hg_ hnew_; (first | rw [← Ny473.out] at ho12 | (simp only [Int.reduceToNat] at ho12; rw [← Ny473.out] at ho12)); have n0_ := Aside0.mk (Kd.R_lower ho12 (below_size (bq51))); have n1_ := Aside0.mk (below_step (bq51) hb); clear HB; have HO475 := n0_; have HB := n1_; clear n0_ n1_ hb ho12; have hcv13 := own_string (P := Tryd.prog) Tryd.underlying74 Tryd.underlying5 Tryd.underlying9 (Kd.own_of_R HO475.out)))
        go_roundg kj1
        case measure => have := HK1.out; have := HJ1.out; omega
        case rel => exact ⟨(wrap64 (Int.tdiv x0_1 10)), ((strOfNums y473) ++ x3_1), (bq78), (bq78), H', ⟨by have := HK1.out; have := HJ1.out; omega⟩, ⟨bq51⟩⟩
       ·rw [if_neg c10] at H
        exact absurd H (by simp)
     ·replace c4 := Bool.eq_false_iff.mpr c4
      subst c4
      have H1 := H; rw [if_neg (show ¬ (false = true) by decide)] at H1; (try dsimp only at H1)
      clear H
      have H := H1
      clear H1
      by_cases c14 : (decide (a0 < 0)) = true
      ·rw [if_pos c14] at H
       have c14b0 : (decide (a0 < 0)) = true := c14
       have c14p := of_decide_eq_true c14
       clear c14
       by_cases c15 : 1 + x3_1.size ≤ 9223372036854775807
       ·rw [if_pos c15] at H
        have c15b0 := eq_true c15
        have c15b1 := decide_eq_true c15
        try have c15b2 : (9223372036854775807 < 1 + x3_1.size) = False := eq_false (Nat.not_lt.2 c15)
        obtain rfl := Option.some.inj H
        go_wp2
        go_ret
        exact ⟨by first | rfl | (simp [errW_none, errW_some] <;> rfl) | (simp [*, errW_none, errW_some] <;> rfl), bq51⟩
       ·rw [if_neg c15] at H
        exact absurd H (by simp)
      ·rw [if_neg c14] at H
       have c14b0 : (decide (a0 < 0)) = false := by simpa using c14
       have c14p := of_decide_eq_false c14b0
       clear c14
       obtain rfl := Option.some.inj H
       go_wp2
       go_ret
       exact ⟨by first | rfl | (simp [errW_none, errW_some] <;> rfl) | (simp [*, errW_none, errW_some] <;> rfl), bq51⟩
end Go.Proofs.YtkiiojgaaoaipaaDoor.Q
