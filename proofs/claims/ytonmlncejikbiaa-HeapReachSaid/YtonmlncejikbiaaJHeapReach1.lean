/- What the row of HeapReach rests on, part 1: contracts of the functions that it reaches, and the plain law. -/
import Derived.Test.YtonmlncejikbiaaJHeapReach0
-- (laid by the kit's lay-shelf and lay-plain at this seat's dump)
/- The library's contracts at this program. -/
namespace Go.Proofs
open Go.Shelf
def Try.lays210_ren : Go.Shelf.Ren := ⟨fun | 210 => 98 | 206 => 105 | n => n, fun | 9 => 9 | 4 => 4 | 3 => 3 | n => n, fun | n => n⟩
theorem Try.lays210 : Go.Proofs.Lays.n210 Try.prog Try.lays210_ren := {
 mixed := by kernel_rfl
 f206 := Try.func105.trans (congrArg some (by kernel_rfl))
 f210 := Try.func98.trans (congrArg some (by kernel_rfl))
 t3 := Try.underlying3
 a3 := Try.isAgg3
 z3 := Try.sizeOf3
 v3 := Try.zeroValue3
 t4 := Try.underlying4
 a4 := Try.isAgg4
 z4 := Try.sizeOf4
 v4 := Try.zeroValue4
 t9 := Try.underlying9
 a9 := Try.isAgg9
 z9 := Try.sizeOf9
 v9 := Try.zeroValue9 }
open Go.RowKit in
theorem Try.stringslite_CutPrefix (s p : ByteArray) (w : World) :
  Calls Try.prog 98 #[.string s, .string p] w fun e w' => e = .returned (.tuple #[.string ⟨(Lib.trimPrefix s.data.toList p.data.toList).toArray⟩, .bool (Lib.hasPrefix s.data.toList p.data.toList)]) ∧ w' = w := Any.stringslite_CutPrefix Try.lays210 s p w
def Try.lays103_ren : Go.Shelf.Ren := ⟨fun | 103 => 71 | 210 => 98 | 206 => 105 | n => n, fun | 9 => 9 | 4 => 4 | 24 => 30 | 3 => 3 | n => n, fun | n => n⟩
theorem Try.lays103 : Go.Proofs.Lays.n103 Try.prog Try.lays103_ren := {
 mixed := by kernel_rfl
 f103 := Try.func71.trans (congrArg some (by kernel_rfl))
 f206 := Try.func105.trans (congrArg some (by kernel_rfl))
 f210 := Try.func98.trans (congrArg some (by kernel_rfl))
 t3 := Try.underlying3
 a3 := Try.isAgg3
 z3 := Try.sizeOf3
 v3 := Try.zeroValue3
 t4 := Try.underlying4
 a4 := Try.isAgg4
 z4 := Try.sizeOf4
 v4 := Try.zeroValue4
 t9 := Try.underlying9
 a9 := Try.isAgg9
 z9 := Try.sizeOf9
 v9 := Try.zeroValue9
 t24 := Try.underlying30
 a24 := Try.isAgg30
 z24 := Try.sizeOf30
 v24 := Try.zeroValue30 }
open Go.RowKit in
theorem Try.strings_CutPrefix (s p : ByteArray) (w : World) :
  Calls Try.prog 71 #[.string s, .string p] w fun e w' => e = .returned (.tuple #[.string ⟨(Lib.trimPrefix s.data.toList p.data.toList).toArray⟩, .bool (Lib.hasPrefix s.data.toList p.data.toList)]) ∧ w' = w := Any.strings_CutPrefix Try.lays103 s p w
def Try.lays189_ren : Go.Shelf.Ren := ⟨fun | 189 => 84 | 125 => 102 | 257 => 101 | 128 => 121 | 129 => 122 | 294 => 112 | 295 => 113 | 296 => 114 | 297 => 115 | 298 => 116 | 299 => 117 | 216 => 118 | 300 => 119 | 301 => 120 | 328 => 124 | 329 => 125 | 330 => 126 | 331 => 127 | 332 => 128 | 215 => 129 | 343 => 130 | n => n, fun | 28 => 45 | 3 => 3 | 46 => 134 | 0 => 0 | 51 => 149 | 53 => 151 | 4 => 4 | 183 => 142 | 182 => 141 | 131 => 32 | 5 => 5 | 9 => 9 | 218 => 153 | 222 => 157 | 228 => 159 | 229 => 28 | n => n, fun | n => n⟩
theorem Try.lays189 : Go.Proofs.Lays.n189 Try.prog Try.lays189_ren := {
 mixed := by kernel_rfl
 f125 := Try.func102.trans (congrArg some (by kernel_rfl))
 f128 := Try.func121.trans (congrArg some (by kernel_rfl))
 f129 := Try.func122.trans (congrArg some (by kernel_rfl))
 f189 := Try.func84.trans (congrArg some (by kernel_rfl))
 f215 := Try.func129.trans (congrArg some (by kernel_rfl))
 f216 := Try.func118.trans (congrArg some (by kernel_rfl))
 f257 := Try.func101.trans (congrArg some (by kernel_rfl))
 f294 := Try.func112.trans (congrArg some (by kernel_rfl))
 f295 := Try.func113.trans (congrArg some (by kernel_rfl))
 f296 := Try.func114.trans (congrArg some (by kernel_rfl))
 f297 := Try.func115.trans (congrArg some (by kernel_rfl))
 f298 := Try.func116.trans (congrArg some (by kernel_rfl))
 f299 := Try.func117.trans (congrArg some (by kernel_rfl))
 f300 := Try.func119.trans (congrArg some (by kernel_rfl))
 f301 := Try.func120.trans (congrArg some (by kernel_rfl))
 f328 := Try.func124.trans (congrArg some (by kernel_rfl))
 f329 := Try.func125.trans (congrArg some (by kernel_rfl))
 f330 := Try.func126.trans (congrArg some (by kernel_rfl))
 f331 := Try.func127.trans (congrArg some (by kernel_rfl))
 f332 := Try.func128.trans (congrArg some (by kernel_rfl))
 f343 := Try.func130.trans (congrArg some (by kernel_rfl))
 t0 := Try.underlying0
 a0 := Try.isAgg0
 z0 := Try.sizeOf0
 v0 := Try.zeroValue0
 t3 := Try.underlying3
 a3 := Try.isAgg3
 z3 := Try.sizeOf3
 v3 := Try.zeroValue3
 t4 := Try.underlying4
 a4 := Try.isAgg4
 z4 := Try.sizeOf4
 v4 := Try.zeroValue4
 t5 := Try.underlying5
 a5 := Try.isAgg5
 z5 := Try.sizeOf5
 v5 := Try.zeroValue5
 t9 := Try.underlying9
 a9 := Try.isAgg9
 z9 := Try.sizeOf9
 v9 := Try.zeroValue9
 t28 := Try.underlying45
 a28 := Try.isAgg45
 z28 := Try.sizeOf45
 v28 := Try.zeroValue45
 t46 := Try.underlying134
 a46 := Try.isAgg134
 z46 := Try.sizeOf134
 v46 := Try.zeroValue134
 t51 := Try.underlying149
 a51 := Try.isAgg149
 z51 := Try.sizeOf149
 v51 := Try.zeroValue149
 t53 := Try.underlying151
 a53 := Try.isAgg151
 z53 := Try.sizeOf151
 v53 := Try.zeroValue151
 t131 := Try.underlying32
 a131 := Try.isAgg32
 z131 := Try.sizeOf32
 v131 := Try.zeroValue32
 t182 := Try.underlying141
 a182 := Try.isAgg141
 z182 := Try.sizeOf141
 v182 := Try.zeroValue141
 t183 := Try.underlying142
 a183 := Try.isAgg142
 z183 := Try.sizeOf142
 v183 := Try.zeroValue142
 t218 := Try.underlying153
 a218 := Try.isAgg153
 z218 := Try.sizeOf153
 v218 := Try.zeroValue153
 t222 := Try.underlying157
 a222 := Try.isAgg157
 z222 := Try.sizeOf157
 v222 := Try.zeroValue157
 t228 := Try.underlying159
 a228 := Try.isAgg159
 z228 := Try.sizeOf159
 v228 := Try.zeroValue159
 t229 := Try.underlying28
 a229 := Try.isAgg28
 z229 := Try.sizeOf28
 v229 := Try.zeroValue28 }
open Go.Sort Go.RowKit in
theorem Try.slices_Sort_int (blk off cap : Nat) (zs : List Int) (w : World) (hH : Holds (Value.int .i64) w blk off zs.toArray) (hblk : blk < w.heap.size) (hsz : zs.length < 4611686018427387904) :
  Calls Try.prog 84 #[.slice (some ⟨blk, off, none⟩) zs.length cap] w fun e w' =>
   e = .returned (.tuple #[]) ∧ ∃ n os, w' = grow (putRow (Value.int .i64) (Sort.ahead w n) blk off (zs.mergeSort fun x y => decide (x ≤ y)).toArray) os := Any.slices_Sort_int Try.lays189 blk off cap zs w hH hblk hsz
def Try.lays206_ren : Go.Shelf.Ren := ⟨fun | 206 => 105 | n => n, fun | 9 => 9 | 4 => 4 | 3 => 3 | n => n, fun | n => n⟩
theorem Try.lays206 : Go.Proofs.Lays.n206 Try.prog Try.lays206_ren := {
 mixed := by kernel_rfl
 f206 := Try.func105.trans (congrArg some (by kernel_rfl))
 t3 := Try.underlying3
 a3 := Try.isAgg3
 z3 := Try.sizeOf3
 v3 := Try.zeroValue3
 t4 := Try.underlying4
 a4 := Try.isAgg4
 z4 := Try.sizeOf4
 v4 := Try.zeroValue4
 t9 := Try.underlying9
 a9 := Try.isAgg9
 z9 := Try.sizeOf9
 v9 := Try.zeroValue9 }
open Go.RowKit Go.Lib in
theorem Try.stringslite_HasPrefix (s p : ByteArray) (w : World) :
  Calls Try.prog 105 #[.string s, .string p] w fun e w' => e = .returned (.bool (Lib.hasPrefix s.data.toList p.data.toList)) ∧ w' = w := Any.stringslite_HasPrefix Try.lays206 s p w
def Try.laysNm220_ren : Go.Shelf.Ren := ⟨fun | 20 => 85 | n => n, fun | 22 => 45 | 3 => 3 | 4 => 4 | 0 => 0 | n => n, fun | n => n⟩
theorem Try.laysNm220 : Go.Proofs.Lays2.n20 Try.prog Try.laysNm220_ren := {
 mixed := by kernel_rfl
 f20 := Try.func85.trans (congrArg some (by kernel_rfl))
 t0 := Try.underlying0
 a0 := Try.isAgg0
 z0 := Try.sizeOf0
 v0 := Try.zeroValue0
 t3 := Try.underlying3
 a3 := Try.isAgg3
 z3 := Try.sizeOf3
 v3 := Try.zeroValue3
 t4 := Try.underlying4
 a4 := Try.isAgg4
 z4 := Try.sizeOf4
 v4 := Try.zeroValue4
 t22 := Try.underlying45
 a22 := Try.isAgg45
 z22 := Try.sizeOf45
 v22 := Try.zeroValue45
 i3 := by kernel_rfl }
open Go.RowKit Go.Lib Go.Sort in
theorem Try.slices_Compact_int (blk off cap : Nat) (zs : List Int) (w : World) (hH : Holds (Value.int .i64) w blk off zs.toArray) (hsz : zs.length ≤ 9223372036854775807) (hcap : zs.length ≤ cap) :
  Calls Try.prog 85 #[.slice (some ⟨blk, off, none⟩) zs.length cap] w fun e w' => e = .returned (.slice (some ⟨blk, off, none⟩) (Lib.compact zs).length cap) ∧ ∃ q, w' = putRow (Value.int .i64) (Sort.ahead w q) blk off (Lib.compact zs ++ List.replicate (zs.length - (Lib.compact zs).length) 0).toArray := Any.slices_Compact_int Try.laysNm220 blk off cap zs w hH hsz hcap
open Go.RowKit Go.Lib Go.Sort in
theorem Try.slices_Compact_int_empty (a : Option Addr) (cap : Nat) (w : World) :
  Calls Try.prog 85 #[.slice a 0 cap] w fun e w' => e = .returned (.slice a 0 cap) ∧ w' = w := Any.slices_Compact_int_empty Try.laysNm220 a cap w
open Go.RowKit Go.Sort in
theorem Try.slices_Sort_int_none (p : Option Addr) (cap : Nat) (w : World) :
  Calls Try.prog 84 #[.slice p 0 cap] w fun e w' => e = .returned (.tuple #[]) ∧ w' = w := Any.slices_Sort_int_none Try.lays189 p cap w
end Go.Proofs
/- Rows of ints of one's own under the library's Sort, Compact: the shelf's contracts in the words of the printed walks. -/
namespace Go.Proofs.Ytonmlncejikbiaa.Q
open Go.RowKit Go.Proofs.YtonmlncejikbiaaW.PrintWords Go.Proofs.YtonmlncejikbiaaW.PrintLast Go.Proofs.YtonmlncejikbiaaW.PrintMore
set_option linter.unusedVariables false
set_option linter.unusedSimpArgs false
open Go.Sort Go.Shelf Go.Lib
section
variable {e base : Nat} {ok : Nat → Prop} {w : World} {v : Value} {xs : List Int}
theorem grow_none (W : World) : grow W #[] = W := by simp [grow]
theorem int_row (h : (Kd.int .i64).R e w base ok v xs) : (v = .slice none 0 0 ∧ xs = []) ∨ ∃ g c, v = .slice (some ⟨g, 0, none⟩) xs.length c ∧ xs.length ≤ c ∧ c ≤ maxLen ∧ Holds (Value.int .i64) w g 0 xs.toArray ∧ g < w.heap.size ∧ base ≤ g ∧
  ∀ (q : Nat) (os : Array Obj) (ts : List Int), ts.length = xs.length → (Kd.int .i64).R e (grow (putRow (Value.int .i64) (Sort.ahead w q) g 0 ts.toArray) os) base ok (.slice (some ⟨g, 0, none⟩) xs.length c) ts ∧ w.grownBy (grow (putRow (Value.int .i64) (Sort.ahead w q) g 0 ts.toArray) os) (some g) := by
 have ho := Kd.own_of_R h
 rcases ho.2 with ⟨h1, h2⟩ | ⟨g, cap, cur, rfl, hbase, hb, h1, h2, h3, h4⟩
 ·left
  have hl := (Kd.R_own h).choose_spec.1
  refine ⟨h1, ?_⟩
  rw [h1] at h
  obtain ⟨hn, _⟩ := Kd.R_reads' h
  exact List.eq_nil_of_length_eq_zero hn.symm
 ·right
  refine ⟨g, cap, rfl, h1, h2, holds_of_blockI hb (by simpa [encs] using h4), (Array.getElem?_eq_some_iff.1 hb).1, hbase, fun q os ts hl => ⟨?_, grownBy_sortedI _⟩⟩
  have hs := ownsRow_sortedI (n := q) (os := os) (ts := ts) (ss := xs) hl hbase hb h1 h2 h3
  exact Kd.R_of_own (by rw [hl]; exact hs) (fun k hk => h.1 k hk)
end
theorem grown_self (w : World) (row : Option Nat) : w.grownBy w row := ⟨rfl, rfl, rfl, Nat.le_refl _, fun _ _ _ => rfl⟩
theorem compact_le (xs : List Int) : (Lib.compact xs).length ≤ xs.length := by
 unfold Lib.compact Lib.compactUpTo
 rw [List.length_map]
 refine Nat.le_trans (List.length_filter_le _ _) ?_
 simp
theorem sort_R {base : Nat} {ok : Nat → Prop} {w : World} {v : Value} {xs : List Int} (h : (Kd.int .i64).R 3 w base ok v xs) (hsz : xs.length < 4611686018427387904) :
  Calls Try.prog 84 #[v] w fun e w' => e = .returned (.tuple #[]) ∧ (Kd.int .i64).R 3 w' base ok v (xs.mergeSort fun x y => decide (x ≤ y)) ∧ w.grownBy w' v.ownBlock := by
 rcases int_row h with ⟨rfl, rfl⟩ | ⟨g, c, rfl, h1, h2, h3, h4, h5, h6⟩
 ·refine (Try.slices_Sort_int_none none 0 w).mono ?_
  rintro e w' ⟨rfl, rfl⟩
  exact ⟨rfl, by rw [List.mergeSort_nil]; exact Kd.R_nil _ _ _ _ _, grown_self _ _⟩
 ·refine (Try.slices_Sort_int g 0 c xs w h3 h4 hsz).mono ?_
  rintro e w' ⟨rfl, n, os, rfl⟩
  obtain ⟨q1, q2⟩ := h6 n os (xs.mergeSort fun x y => decide (x ≤ y)) (List.length_mergeSort _)
  exact ⟨rfl, q1, q2⟩
theorem compact_R {base : Nat} {ok : Nat → Prop} {w : World} {v : Value} {xs : List Int} (h : (Kd.int .i64).R 3 w base ok v xs) :
  Calls Try.prog 85 #[v] w fun e w' => ∃ v', e = .returned v' ∧ (Kd.int .i64).R 3 w' base ok v' (Lib.compact xs) ∧ w.grownBy w' v.ownBlock ∧ v'.ownBlock = v.ownBlock := by
 rcases int_row h with ⟨rfl, rfl⟩ | ⟨g, c, rfl, h1, h2, h3, h4, h5, h6⟩
 ·refine (Try.slices_Compact_int_empty none 0 w).mono ?_
  rintro e w' ⟨rfl, rfl⟩
  exact ⟨_, rfl, Kd.R_nil _ _ _ _ _, grown_self _ _, rfl⟩
 ·refine (Try.slices_Compact_int g 0 c xs w h3 (by unfold maxLen at h2; omega) h1).mono ?_
  rintro e w' ⟨rfl, q, rfl⟩
  have hc := compact_le xs
  obtain ⟨q1, q2⟩ := h6 q #[] (Lib.compact xs ++ List.replicate (xs.length - (Lib.compact xs).length) 0) (by simp; omega)
  rw [grow_none] at q1 q2
  have q3 := Kd.R_take (m := (Lib.compact xs).length) q1 (by simp)
  rw [List.take_left'  rfl] at q3
  exact ⟨_, rfl, q3, q2, rfl⟩
end Go.Proofs.Ytonmlncejikbiaa.Q
/- A heap's Of and Near: by hand; the drawn region is written by wip/tool/genA.py. -/
namespace Go.Proofs.Ytonmlncejikbiaa.Q
open Go.RowKit Go.Proofs.YtonmlncejikbiaaW.PrintWords Go.Proofs.YtonmlncejikbiaaW.PrintLast Go.Proofs.YtonmlncejikbiaaW.PrintMore
set_option linter.unusedVariables false
set_option linter.unusedSimpArgs false
/-- What objects are, by structs. -/
structure OkL (S : List S43) (L : List (Int × List Int)) : Prop where
 len : L.length ≤ 131072
 all : ∀ x ∈ L, 0 ≤ x.1 ∧ x.1 < (S.length : Int) ∧ x.2.length = (rd_T43 S x.1).f1.length ∧ ∀ n ∈ x.2, -9223372036854775808 ≤ n ∧ n ≤ 9223372036854775807
theorem OkL.at {S : List S43} {L : List (Int × List Int)} (h : OkL S L) {i : Int} (h0 : 0 ≤ i) (h1 : i < (L.length : Int)) : rdO L i ∈ L := by
 unfold rdO
 rw [getD_at _ _ (by omega)]
 exact List.getElem_mem _
def ofO (S : List S43) (L : List (Int × List Int)) (obj : Int) : ByteArray := if isO L obj = true then (rd_T43 S (rdO L (obj - 1)).1).f0 else ⟨#[]⟩
def sortC (l : List Int) : List Int := Go.Lib.compact (l.mergeSort fun x y => decide (x ≤ y))
/-- What the links of an object hold, of what is there. -/
def nearTo (L : List (Int × List Int)) (F ks : List Int) : List Int := (ks.map fun k => rd F k).filter (isO L)
theorem nearTo_len (L : List (Int × List Int)) (F ks : List Int) : (nearTo L F ks).length ≤ ks.length := by
 unfold nearTo
 have := List.length_filter_le (isO L) (ks.map fun k => rd F k)
 rwa [List.length_map] at this
theorem infoIn : (Try.prog.info? 3).map (fun i => (i.zero, i.size, i.bytes)) = some (some (.int .i64 0), (Kd.int .i64).sz, 8) := by kernel_rfl
theorem take_nextI (l : List Int) (z : Int) {i : Nat} (hi : i < l.length) : l.take (i + 1) = l.take i ++ [l.getD i z] := by
 rw [List.take_succ_eq_append_getElem hi, getD_at l z hi]
def heap_Near.T5 : Bool × List (List Nat × List Nat) := (true, [([], []), ([0], [0]), ([1], [1]), ([2], [2]), ([], []), ([4], [4]), ([3, 5], [3, 5]), ([6], [6]), ([7], [7]), ([8], [8]), ([], [])])
def heap_Near.B5 : List Nat := [0, 1, 3, 7, 0, 16, 63, 127, 255, 511, 0]
theorem heap_Near.tab5 : rtab .any (opsOf Try.f37 5) = heap_Near.T5 := by kernel_rfl
theorem heap_Near.bits5 : waitsOk heap_Near.T5.2 heap_Near.B5 = true := by kernel_rfl
section
variable {base g : Nat} {w : World} {sv lv : Value} {S : List S43} {L : List (Int × List Int)} {sok lok : Nat → Prop}
set_option maxRecDepth 100000 in
set_option maxHeartbeats 2000000 in
theorem heap_Of.nil (obj : Int) (w : World) : Calls Try.prog 40 #[.pointer none, .int .i64 obj] w fun e w' => e = .returned (.string ⟨#[]⟩) ∧ Below w.heap.size w w' := by
 have HC := Aside0.mk (heap_is.nil obj w)
 go_enter Try.func40, Try.ntmps40
 go_wp2_with fail
 refine HC.out.mono ?_
 rintro e w1 ⟨rfl, hb⟩
 have HB := Aside0.mk hb; clear hb
 go_wp2
 go_ret
 exact ⟨rfl, HB.out⟩
set_option maxRecDepth 100000 in
set_option maxHeartbeats 4000000 in
theorem heap_Of.calls (obj : Int) (h : HP w base g sv lv S L sok lok) (hk : OkL S L) :
  Calls Try.prog 40 #[ptr g, .int .i64 obj] w fun e w' => e = .returned (.string (ofO S L obj)) ∧ Below w.heap.size w w' := by
 have hc := heap_is.calls obj h
 unfold ofO
 cases ho : isO L obj with
 | false =>
  rw [ho] at hc
  rw [if_neg (by decide)]
  have HC := Aside0.mk hc
  clear hc h ho
  go_enter Try.func40, Try.ntmps40
  go_wp2_with fail
  refine HC.out.mono ?_
  rintro e w1 ⟨rfl, hb⟩
  have HB := Aside0.mk hb; clear hb
  go_wp2
  go_ret
  exact ⟨rfl, HB.out⟩
 | true =>
  rw [ho] at hc
  rw [if_pos rfl]
  have ho' : 1 ≤ obj ∧ obj ≤ (L.length : Int) := of_decide_eq_true ho
  obtain ⟨n, rfl⟩ : ∃ n : Nat, obj = (n : Int) + 1 := ⟨(obj - 1).toNat, by omega⟩
  have e1 : (n : Int) + 1 - 1 = n := by omega
  rw [e1]
  obtain ⟨x, hx⟩ : ∃ x, x = rdO L (n : Int) := ⟨_, rfl⟩
  obtain ⟨o0, o1, _, _⟩ := hk.all _ (hk.at (i := (n : Int)) (by omega) (by omega))
  rw [← hx] at o0 o1 ⊢
  obtain ⟨m, hm⟩ : ∃ m : Nat, x.1 = m := ⟨x.1.toNat, by omega⟩
  rw [hm] at o1 ⊢
  obtain ⟨y, hy⟩ : ∃ y, y = rd_T43 S (m : Int) := ⟨_, rfl⟩
  rw [← hy]
  have H := Aside0.mk h; have HC := Aside0.mk hc; have HX := Aside0.mk hx; have HY := Aside0.mk hy; have HM := Aside0.mk hm
  clear h hc hx hy hm hk ho o0
  go_enter Try.func40, Try.ntmps40
  go_wp2_with fail
  refine HC.out.mono ?_
  rintro e w1 ⟨rfl, hb⟩
  have HB := Aside0.mk hb
  have h1 := H.out.below hb
  clear hb H HC
  obtain ⟨c0, c1, _, _⟩ := bk2 h1.blk
  obtain ⟨ad, cl, A1, c1', rfl, hcl, q1, q2, q3, q4⟩ := h1.elem (n : Int) (by omega) (by omega)
  obtain ⟨_, _, _, _, hmx⟩ := h1.list
  simp only [Int.toNat_natCast] at q1 q2
  rw [← HX.out] at q1
  rw [HM.out] at q1
  obtain ⟨As, cs, rfl, _, hC⟩ := h1.structs
  obtain ⟨sd, B1, d1, e2, s0, s1, _, _⟩ := at_T43 hC (m : Int) (by omega) (by omega)
  subst e2
  simp only [Int.toNat_natCast] at s0 s1
  rw [← HY.out] at s0
  have hw : IntKind.i64.wrap ((n : Int) + 1 - 1) = n := by rw [e1, IntKind.wrap_i64]; omega
  have hsm := Kd.C_max hC
  have hml : (m : Int) < (S.length : Int) := o1
  have hnl : (n : Int) < (L.length : Int) := by omega
  clear h1 q2 q3 q4 s1 hC HX HY HM
  go_wp2_with fail
  go_quiet (fail)
  go_wp2
  go_ret
  exact ⟨rfl, by first | exact HB.out | exact pw_below_drewN HB.out _⟩
set_option maxRecDepth 100000 in
set_option maxHeartbeats 2000000 in
theorem heap_Near.nil (obj : Int) (w : World) : Calls Try.prog 37 #[.pointer none, .int .i64 obj] w fun e w' => e = .returned (.slice none 0 0) ∧ Below w.heap.size w w' := by
 have HC := Aside0.mk (heap_is.nil obj w)
 go_enter Try.func37, Try.ntmps37
 go_wp2_with fail
 refine HC.out.mono ?_
 rintro e w1 ⟨rfl, hb⟩
 have HB := Aside0.mk hb; clear hb
 go_wp2
 go_ret
 exact ⟨rfl, HB.out⟩
set_option maxRecDepth 100000 in
set_option maxHeartbeats 2000000 in
theorem heap_Near.out (obj : Int) (h : HP w base g sv lv S L sok lok) (ho : isO L obj = false) : Calls Try.prog 37 #[ptr g, .int .i64 obj] w fun e w' => e = .returned (.slice none 0 0) ∧ Below w.heap.size w w' := by
 have hc := heap_is.calls obj h
 rw [ho] at hc
 have HC := Aside0.mk hc
 clear hc h ho
 go_enter Try.func37, Try.ntmps37
 go_wp2_with fail
 refine HC.out.mono ?_
 rintro e w1 ⟨rfl, hb⟩
 have HB := Aside0.mk hb; clear hb
 go_wp2
 go_ret
 exact ⟨rfl, HB.out⟩
set_option maxRecDepth 100000 in
set_option maxHeartbeats 8000000 in
theorem heap_Near.calls (k : Nat) (n : Nat) (x : Int × List Int) (y : S43) (ks : List Int) (h : HP w base g sv lv S L sok lok) (hk : OkL S L) (hn : n < L.length) (hx : x = rdO L (n : Int)) (hy : y = rd_T43 S x.1) (hks : kind_Links.f k y.f0 y.f1 = some ks) (hin : ∀ q ∈ ks, 0 ≤ q ∧ q < (y.f1.length : Int)) (hkl : ks.length ≤ 1000000) :
  Calls Try.prog 37 #[ptr g, .int .i64 ((n : Int) + 1)] w fun e w' => ∃ v0, e = .returned v0 ∧ (Kd.int .i64).R 3 w' w.heap.size (fun _ => True) v0 (sortC (nearTo L x.2 ks)) ∧ Below w.heap.size w w' := by
 have hc := heap_is.calls ((n : Int) + 1) h
 have ho : isO L ((n : Int) + 1) = true := decide_eq_true (by omega)
 rw [ho] at hc
 have e1 : (n : Int) + 1 - 1 = n := by omega
 obtain ⟨o0, o1, o2, o3⟩ := hk.all _ (hk.at (i := (n : Int)) (by omega) (by omega))
 rw [← hx] at o0 o1 o2 o3
 rw [← hy] at o2
 obtain ⟨m, hm⟩ : ∃ m : Nat, x.1 = m := ⟨x.1.toNat, by omega⟩
 rw [hm] at o1 hy
 obtain ⟨F, hF⟩ : ∃ F, F = x.2 := ⟨_, rfl⟩
 rw [← hF] at o2 o3 ⊢
 obtain ⟨ad, cl, A1, c1', rfl, hcl, p1, p2, _, p4⟩ := h.elem (n : Int) (by omega) (by omega)
 obtain ⟨_, _, _, _, hmx⟩ := h.list
 simp only [Int.toNat_natCast] at p1 p2
 rw [← hx, hm] at p1
 rw [← hx, ← hF] at p2 p4
 have HFC0 := Aside0.mk p4; have HP1 := Aside0.mk p1; have HP2 := Aside0.mk p2
 clear p1 p2 p4
 have H := Aside0.mk h; have HC := Aside0.mk hc; have HX := Aside0.mk hx; have HY := Aside0.mk hy; have HM := Aside0.mk hm; have HF := Aside0.mk hF; have HKS := Aside0.mk hks; have HIN := Aside0.mk hin; have HO2 := Aside0.mk o2
 have HKL := Aside0.mk hkl
 clear h hc hx hy hm hF hk ho o0 o2 o3 hks hin hkl
 go_enter Try.func37, Try.ntmps37
 go_wp2_with fail
 refine HC.out.mono ?_
 rintro e w1 ⟨rfl, hb⟩
 have HB := Aside0.mk hb
 have h1 := H.out.below hb
 have q4 := Kd.C_below HFC0.out hb
 clear HC
 obtain ⟨c0, c1, _, _⟩ := bk2 h1.blk
 have q1 := pw_cell_below hb HP1.out
 have q2 := pw_cell_below hb HP2.out
 obtain ⟨As, cs, rfl, _, hC⟩ := h1.structs
 obtain ⟨sd, B1, d1, e2, s0, s1, hld, hCd⟩ := at_T43 hC (m : Int) (by omega) (by omega)
 subst e2
 simp only [Int.toNat_natCast] at s0 s1
 rw [← HY.out] at s0 s1 hld hCd
 have hw : IntKind.i64.wrap ((n : Int) + 1 - 1) = n := by rw [e1, IntKind.wrap_i64]; omega
 have hsm := Kd.C_max hC
 have HFM := Aside0.mk (Kd.C_max q4)
 have HFC := Aside0.mk q4; have HDC := Aside0.mk hCd; have HLD := Aside0.mk hld
 have HBK := Aside0.mk h1.blk
 clear h1 q4 hC hCd hld hb HP1 HP2
 go_upto_region 5 with (fail)
 have HL2 : Aside0 ((w1.alloc (.cells #[.int .i64 m, .slice A1 F.length c1'] 119)).heap[w1.heap.size]? = some (.cells #[.int .i64 m, .slice A1 F.length c1'] 119 (0, 0))) := ⟨blk_new _ _⟩
 have HBA : Aside0 (Below w1.heap.size w1 (w1.alloc (.cells #[.int .i64 m, .slice A1 F.length c1'] 119))) := ⟨below_alloc (Below.refl _ _) _⟩
 generalize w1.alloc (.cells #[.int .i64 m, .slice A1 F.length c1'] 119) = wa at HL2 HBA ⊢
 have HBE : Aside0 (w.heap.size ≤ w1.heap.size) := ⟨HB.out.size⟩
 have HB2 := Aside0.mk (below_drew1 (below_step HB.out HBA.out))
 have HG2 := Aside0.mk (blk_drew (blk_below HBK.out HBA.out))
 have HL3 := Aside0.mk (blk_drew HL2.out)
 have HFC2 := Aside0.mk (Kd.C_drew (Kd.C_below HFC.out HBA.out))
 have HDC2 := Aside0.mk (Kd.C_drew (Kd.C_below HDC.out HBA.out))
 have HS0 := Aside0.mk (pw_cell_below (below_drew1 HBA.out) s0)
 have HS1 := Aside0.mk (pw_cell_below (below_drew1 HBA.out) s1)
 have hml : (m : Int) < (S.length : Int) := o1
 clear c0 c1 q1 q2 s0 s1 HB HBK HL2 HFC HDC HBA
 generalize w1.heap.size = bs at HL3 HBE ⊢
 refine start_ (n := 11) (S := fun w' => w'.heap[g]? = some (.cells #[.slice (some sd) S.length cs, .slice (some ad) L.length cl] 116 (0, 0)) ∧ w'.heap[bs]? = some (.cells #[.int .i64 m, .slice A1 F.length c1'] 119 (0, 0)) ∧ w'.cell? (sd.add (m * 2)) = some (.string y.f0) ∧ w'.cell? ⟨(sd.add (m * 2)).block, (sd.add (m * 2)).off + 1, none⟩ = some (.slice B1 y.f1.length d1)) (ds := []) (tf 0 11) (by kernel_rfl) rfl rfl ⟨HG2.out, HL3.out, HS0.out, HS1.out⟩ (fun hHeld => ?_)
 refine with_tabW heap_Near.tab5 heap_Near.bits5 (fun HT_ HW_ => ?_)
 generalize wa.drew = w3 at HB2 HG2 HFC2 HDC2 HL3 HS0 HS1 hHeld ⊢
 refine pure_ (i := 0) (N := some 21) (v := ?_) (a' := ?_) (tf 1 10) rfl rfl (any_of HT_.out (by kernel_rfl)) (fun _ _ _ h => h) (Or.inl ⟨by rfl, ?_⟩) ?_ ?_
 rotate_left
 ·intro w'
  go_simp
  with_reducible rfl
 rotate_left
 ·simp only [Act.put, List.setIfInBounds_toArray, List.set_cons_zero, List.set_cons_succ, i64_w, i32_w]
  rfl
 refine pure_ (i := 1) (N := some 22) (v := ?_) (a' := ?_) (tf 2 9) rfl rfl (any_of HT_.out (by kernel_rfl)) (fun _ _ _ h => h) (Or.inl ⟨by rfl, ?_⟩) ?_ ?_
 rotate_left
 ·intro w'
  go_simp
  with_reducible rfl
 rotate_left
 ·simp only [Act.put, List.setIfInBounds_toArray, List.set_cons_zero, List.set_cons_succ, i64_w, i32_w]
  rfl
 refine pure_ (i := 2) (N := some 23) (v := ?_) (a' := ?_) (tf 3 8) rfl rfl (any_of HT_.out (by kernel_rfl)) (fun _ _ _ h => h) (Or.inl ⟨by rfl, ?_⟩) ?_ ?_
 rotate_left
 ·intro w'
  go_simp
  with_reducible rfl
 rotate_left
 ·simp only [Act.put, List.setIfInBounds_toArray, List.set_cons_zero, List.set_cons_succ, i64_w, i32_w]
  rfl
 refine pure_ (i := 4) (N := some 25) (v := ?_) (a' := ?_) #[true, true, true, false, true, false, false, false, false, false, false] rfl rfl (any_of HT_.out (by kernel_rfl)) (fun _ _ _ h => h) (Or.inl ⟨by rfl, ?_⟩) ?_ ?_
 rotate_left
 ·intro w'
  go_simp
  with_reducible rfl
 rotate_left
 ·simp only [Act.put, List.setIfInBounds_toArray, List.set_cons_zero, List.set_cons_succ, i64_w, i32_w]
  rfl
 refine pure_ (i := 10) (N := some 31) (v := ?_) (a' := ?_) #[true, true, true, false, true, false, false, false, false, false, true] rfl rfl (any_of HT_.out (by kernel_rfl)) (fun _ _ _ h => h) (Or.inl ⟨by rfl, ?_⟩) ?_ ?_
 rotate_left
 ·intro w'
  go_simp
  with_reducible rfl
 rotate_left
 ·simp only [Act.put, List.setIfInBounds_toArray, List.set_cons_zero, List.set_cons_succ, i64_w, i32_w]
  rfl
 refine take_ (i := 3) (N := some 24) (v := ?_) (a' := ?_) #[true, true, true, true, true, false, false, false, false, false, true] rfl rfl (take_ofW HT_.out HW_.out (by kernel_rfl)) (fun _ _ _ h => h) (Or.inl ⟨by rfl, ?_⟩) hHeld ?_ ?_
 rotate_left
 ·rintro w' ⟨s0, s1, s2, s3⟩
  obtain ⟨c0, c1, _, _⟩ := bk2 s0
  obtain ⟨b0, b1, _, _⟩ := bk2 s1
  go_simp
  with_reducible rfl
 rotate_left
 ·simp only [Act.put, List.setIfInBounds_toArray, List.set_cons_zero, List.set_cons_succ, i64_w, i32_w]
  rfl
 refine take_ (i := 5) (N := some 26) (v := ?_) (a' := ?_) #[true, true, true, true, true, true, false, false, false, false, true] rfl rfl (take_ofW HT_.out HW_.out (by kernel_rfl)) (fun _ _ _ h => h) (Or.inl ⟨by rfl, ?_⟩) hHeld ?_ ?_
 rotate_left
 ·rintro w' ⟨s0, s1, s2, s3⟩
  obtain ⟨c0, c1, _, _⟩ := bk2 s0
  obtain ⟨b0, b1, _, _⟩ := bk2 s1
  go_simp
  with_reducible rfl
 rotate_left
 ·simp only [Act.put, List.setIfInBounds_toArray, List.set_cons_zero, List.set_cons_succ, i64_w, i32_w]
  rfl
 refine pure_ (i := 6) (N := some 27) (v := ?_) (a' := ?_) #[true, true, true, true, true, true, true, false, false, false, true] rfl rfl (any_of HT_.out (by kernel_rfl)) (fun _ _ _ h => h) (Or.inl ⟨by rfl, ?_⟩) ?_ ?_
 rotate_left
 ·intro w'
  go_simp
  with_reducible rfl
 rotate_left
 ·simp only [Act.put, List.setIfInBounds_toArray, List.set_cons_zero, List.set_cons_succ, i64_w, i32_w]
  rfl
 refine take_ (i := 7) (N := some 28) (v := ?_) (a' := ?_) #[true, true, true, true, true, true, true, true, false, false, true] rfl rfl (take_ofW HT_.out HW_.out (by kernel_rfl)) (fun _ _ _ h => h) (Or.inl ⟨by rfl, ?_⟩) hHeld ?_ ?_
 rotate_left
 ·rintro w' ⟨s0, s1, s2, s3⟩
  go_simp
  with_reducible rfl
 rotate_left
 ·simp only [Act.put, List.setIfInBounds_toArray, List.set_cons_zero, List.set_cons_succ, i64_w, i32_w]
  rfl
 refine one_ (i := 8) (N := some 29) #[true, true, true, true, true, true, true, true, true, false, true] rfl rfl (one_of HT_.out (by kernel_rfl)) (by decide) (fun K hK => ?_)
 refine goes_ Try.func26 (by kernel_rfl) rfl #[.agg #[.string y.f0, .slice B1 y.f1.length d1]] (by rfl) rfl rfl (by simp only [List.map_toArray, List.map_cons, List.map_nil]; rfl) ?_
 refine (kind_Links.calls k y.f0 B1 d1 y.f1 ks w3 HDC2.out HLD.out HKS.out).mono ?_
 rintro e w4 ⟨v9, rfl, hr9, hb9⟩
 refine ⟨_, rfl, ?_⟩
 obtain ⟨A9, c9, e9⟩ := Kd.R_slice hr9
 subst e9
 have HK9 : Aside0 ((Kd.int .i64).R 3 w4 w.heap.size (fun k => some k = (Value.slice A9 ks.length c9).ownBlock) (.slice A9 ks.length c9) ks) := ⟨Kd.R_tight rfl (Kd.R_lower hr9 HB2.out.size)⟩
 have HB9 := Aside0.mk (below_step HB2.out hb9)
 have HL9 := Aside0.mk (blkB hHeld.2.1 hb9)
 clear hr9
 refine hK.out _ _ ⟨(blkB hHeld.1 hb9), (blkB hHeld.2.1 hb9), (pw_cell_below hb9 hHeld.2.2.1), (pw_cell_below hb9 hHeld.2.2.2)⟩ (fun hHeld => ?_)
 clear hK K
 refine norm_ (a' := ?_) ?_ ?_
 rotate_left
 ·show Act.put _ (some 29) _ = _
  simp only [Act.put, List.setIfInBounds_toArray, List.set_cons_zero, List.set_cons_succ, i64_w, i32_w]
  rfl
 refine pure_ (i := 9) (N := some 30) (v := ?_) (a' := ?_) (tf 11 0) rfl rfl (any_of HT_.out (by kernel_rfl)) (fun _ _ _ h => h) (Or.inl ⟨by rfl, ?_⟩) ?_ ?_
 rotate_left
 ·intro w'
  go_simp
  with_reducible rfl
 rotate_left
 ·simp only [Act.put, List.setIfInBounds_toArray, List.set_cons_zero, List.set_cons_succ, i64_w, i32_w]
  rfl
 refine done_ (done_of HT_.out (by kernel_rfl)) ?_
 have hkm : ks.length ≤ 9223372036854775807 := by have := HKL.out; omega
 go_wp2_with fail
 go_loopw [6, 8, 31] (fun v6 _ v31 wr => ∃ (j : Nat), v31 = .int .i64 j ∧ j ≤ ks.length ∧ Aside0 (Below w.heap.size w wr) ∧ Aside0 (wr.heap[bs]? = some (.cells #[.int .i64 m, .slice A1 F.length c1'] 119 (0, 0))) ∧ Aside0 ((Kd.int .i64).R 3 wr w.heap.size (fun k => some k = (Value.slice A9 ks.length c9).ownBlock) (.slice A9 ks.length c9) ks) ∧ Aside0 ((Kd.int .i64).R 3 wr w.heap.size (fun k => some k ≠ (Value.slice A9 ks.length c9).ownBlock) v6 (nearTo L F (ks.take j)))) (fun _ _ v31 _ => ks.length - (intOf v31).toNat)
 case atStart => exact ⟨0, rfl, Nat.zero_le _, HB9, HL9, HK9, ⟨by rw [List.take_zero]; exact Kd.R_nil _ _ _ _ _⟩⟩
 case round =>
  clear HB9 HL9 HK9
  obtain ⟨j, rfl, hj, HBr, HLr, HKr, HOr⟩ := hrel
  by_cases hlt : j < ks.length
  ·obtain ⟨q, hq⟩ : ∃ q, q = rd ks (j : Int) := ⟨_, rfl⟩
   have hqm : q ∈ ks := by
    rw [hq]; unfold rd
    rw [Int.toNat_natCast, getD_at _ _ hlt]
    exact List.getElem_mem _
   obtain ⟨hq0, hq1⟩ := HIN.out q hqm
   obtain ⟨p, rfl⟩ : ∃ p : Nat, q = p := ⟨q.toNat, by omega⟩
   have hpF : p < F.length := by have := HO2.out; omega
   obtain ⟨ak, eak, hkc⟩ := Kd.at_int (Kd.R_reads' HKr.out).2.2 (j : Int) (by omega) (by omega)
   subst eak
   simp only [Int.toNat_natCast] at hkc
   rw [← hq] at hkc
   obtain ⟨b0, b1, _, _⟩ := bk2 HLr.out
   obtain ⟨af, eaf, hfc⟩ := Kd.at_int (Kd.C_below HFC0.out HBr.out) (p : Int) (by omega) (by omega)
   subst eaf
   simp only [Int.toNat_natCast] at hfc
   obtain ⟨z, hz⟩ : ∃ z, z = rd F (p : Int) := ⟨_, rfl⟩
   rw [← hz] at hfc
   have hnext : nearTo L F (ks.take (j + 1)) = nearTo L F (ks.take j) ++ (if isO L z = true then [z] else []) := by
    unfold nearTo
    rw [take_nextI ks 0 hlt, List.map_append, List.filter_append]
    congr 1
    have e3 : ks.getD j 0 = (p : Int) := by rw [hq]; unfold rd; rw [Int.toNat_natCast]
    rw [List.map_singleton, e3, ← hz]
    cases hh : isO L z <;> simp [hh]
   have HNX := Aside0.mk hnext
   have hcl2 := heap_is.calls z (H.out.below HBr.out)
   have hfm := HFM.out
   clear hnext hqm hq hz
   cases hoz : isO L z with
   | false =>
    rw [hoz] at hcl2
    have HC2 := Aside0.mk hcl2
    have hno : nearTo L F (ks.take (j + 1)) = nearTo L F (ks.take j) := by rw [HNX.out, hoz]; simp
    have HNO := Aside0.mk hno
    clear hcl2 hno hoz HNX
    go_wp2_with fail
    refine HC2.out.mono ?_
    rintro e wx ⟨rfl, hbx⟩
    have HBx := Aside0.mk (below_step HBr.out hbx)
    have HLx := Aside0.mk (blk_below HLr.out hbx)
    have HKx := Aside0.mk (Kd.R_below HKr.out hbx)
    have HOx := Aside0.mk (Kd.R_below HOr.out hbx)
    clear hbx b0 b1 hkc hfc HC2 HBr HLr HKr HOr
    go_wp2
    go_roundw
    case rel => exact ⟨j + 1, by go_num, by omega, HBx, HLx, HKx, ⟨by rw [HNO.out]; exact HOx.out⟩⟩
    case measure => simp [intOf]; omega
   | true =>
    rw [hoz] at hcl2
    have HC2 := Aside0.mk hcl2
    obtain ⟨Nj, hNj⟩ : ∃ Nj, Nj = nearTo L F (ks.take j) := ⟨_, rfl⟩
    have hyes : nearTo L F (ks.take (j + 1)) = Nj ++ [z] := by rw [HNX.out, hoz, hNj]; rfl
    have hnl : Nj.length ≤ 1000000 := by
     have h5 := nearTo_len L F (ks.take j)
     have h6 := HKL.out
     rw [← hNj, List.length_take] at h5
     omega
    rw [← hNj] at HOr
    have HYES := Aside0.mk hyes; have HNL := Aside0.mk hnl
    clear hcl2 hyes hoz HNX hNj hnl
    go_wp2_with fail
    refine HC2.out.mono ?_
    rintro e wx ⟨rfl, hbx⟩
    have HBx := Aside0.mk (below_step HBr.out hbx)
    have HLx := Aside0.mk (blk_below HLr.out hbx)
    have HKx := Aside0.mk (Kd.R_below HKr.out hbx)
    have HOx := Aside0.mk (Kd.R_below HOr.out hbx)
    have hfc2 := pw_cell_below hbx hfc
    clear hbx b0 b1 hkc hfc HC2 HBr HLr HKr HOr
    obtain ⟨b0, b1, _, _⟩ := bk2 HLx.out
    obtain ⟨Ao, co, eo⟩ := Kd.R_slice HOx.out
    subst eo
    go_wp2_with (at_builtin; refine Kd.R_append (Kd.int .i64) (w0 := w) w.heap.size rfl (.tmp 42) (.tmp 48) 45 3 (.int .i64 0) 8 rfl Try.underlying45 infoIn rfl (by decide) (by decide) _ Nj z [.int .i64 z] (fun k => some k ≠ (Value.slice (some ak) ks.length c9).ownBlock) (fun _ => False) rfl rfl ?aP (fun _ hk => hk.elim) ?aF HOx.out HBx.out HBx.out.size ?aL ?_)
    case aP => exact rfl
    case aF => intro k_ hk_ e_; have := Kd.R_lt HKx.out k_ e_.symm; omega
    case aL => have := HNL.out; omega
    intro v8 w8 hq8 hb8 hg8 _
    have hne9 : ∀ k, (Value.slice Ao Nj.length co).ownBlock = some k → some k ≠ (Value.slice (some ak) ks.length c9).ownBlock := fun k hk => HOx.out.1 k hk
    have HB8 := Aside0.mk hb8
    have HL8 := Aside0.mk (blkG HLx.out hg8 (Kd.R_ne HOx.out HLx.out (by decide)))
    have HK8 := Aside0.mk (Kd.R_grown HKx.out hg8 (fun k hk e => hne9 k e.symm hk))
    have HO8 : Aside0 ((Kd.int .i64).R 3 w8 w.heap.size (fun k => some k ≠ (Value.slice (some ak) ks.length c9).ownBlock) v8 (nearTo L F (ks.take (j + 1)))) := ⟨by rw [HYES.out]; exact hq8⟩
    clear hq8 hb8 hg8 HBx HLx HKx HOx b0 b1 hfc2
    go_wp2
    go_roundw
    case rel => exact ⟨j + 1, by go_num, by omega, HB8, HL8, HK8, HO8⟩
    case measure => simp [intOf]; omega
  ·have hje : j = ks.length := by omega
   have hO := HOr.out
   rw [hje, List.take_length] at hO
   have hnl := nearTo_len L F ks
   have HO1 := Aside0.mk hO; have HNL := Aside0.mk hnl
   clear hO hje hnl HOr
   go_wp2_with fail
   refine (sort_R HO1.out (by have := HNL.out; have := HKL.out; omega)).mono ?_
   rintro e w3 ⟨rfl, hR3, hg3⟩
   have HR3 := Aside0.mk hR3
   have HB3 := Aside0.mk (Below.grown HBr.out hg3 HBr.out.size (fun k hk => Kd.R_base HO1.out k hk))
   clear hR3 hg3
   go_wp2_with fail
   refine (compact_R HR3.out).mono ?_
   rintro e w4 ⟨v4, rfl, hR4, hg4, hob⟩
   have HR4 := Aside0.mk hR4
   have HB4 := Aside0.mk (Below.grown HB3.out hg4 HB3.out.size (fun k hk => Kd.R_base HR3.out k hk))
   clear hR4 hg4 hob
   go_wp2
   go_ret
   exact ⟨_, rfl, Kd.R_mono HR4.out (fun _ _ => trivial), HB4.out⟩
end
end Go.Proofs.Ytonmlncejikbiaa.Q
/- A heap's Reach: by hand, for whatever 'is' and 'Near' answer. -/
namespace Go.Proofs.Ytonmlncejikbiaa.Q
open Go.RowKit Go.Proofs.YtonmlncejikbiaaW.PrintWords Go.Proofs.YtonmlncejikbiaaW.PrintLast Go.Proofs.YtonmlncejikbiaaW.PrintMore
set_option linter.unusedVariables false
set_option linter.unusedSimpArgs false
open Go.Maps (Keyed)
def LIMR : Nat := 1099511627776
/-- The stack: what is reached. -/
def reachQ (isF : Int → Bool) (near : Int → Option (List Int)) : Nat → List Int → List Int → Option (List Int)
 | 0, _, _ => none
 | k + 1, todo, out =>
  if 0 < todo.length then
   (if isF (rd todo ((todo.length - 1 : Nat) : Int)) = true ∧ out.contains (rd todo ((todo.length - 1 : Nat) : Int)) = false then
    (near (rd todo ((todo.length - 1 : Nat) : Int))).bind fun ns =>
     if todo.length + ns.length < LIMR ∧ out.length < LIMR then reachQ isF near k (todo.take (todo.length - 1) ++ ns) (out ++ [rd todo ((todo.length - 1 : Nat) : Int)]) else none
   else reachQ isF near k (todo.take (todo.length - 1)) out)
  else some out
def ik (x : Int) : Lit := .int .i64 x
theorem ik_has (x : Int) (l : List Int) : decB (ik x ∈ l.map ik) = l.contains x := by
 have e : ik x ∈ l.map ik ↔ l.contains x = true := by
  rw [List.contains_iff_mem, List.mem_map]
  constructor
  ·rintro ⟨y, hy, e⟩
   unfold ik at e
   injection e with _ e
   rwa [e] at hy
  ·intro h; exact ⟨x, h, rfl⟩
 cases h : l.contains x
 ·exact decB_false (by rw [e, h]; simp)
 ·exact decB_true (by rw [e]; exact h)
theorem set_perm {w : World} {P : Program} {k e : TypeId} {b : Nat} {S S' : List Lit} (h : SetAt w P k e b S) (hm : ∀ x, x ∈ S' ↔ x ∈ S) (hl : S.length ≤ S'.length) : SetAt w P k e b S' := by
 obtain ⟨n, D, h1, h2, h3, h4⟩ := h
 exact ⟨n, D, h1, h2, Nat.le_trans h3 hl, fun x hx => by rw [h4 x hx]; congr 2; exact decB_iff (hm x).symm⟩
theorem zeroBo (w : World) : (zeroValue 4).run Try.prog w = .ok (.bool false) w := by kernel_rfl
theorem wf_small {x : Int} (h0 : 1 ≤ x) (h1 : x ≤ 1099511627776) : (Lit.int .i64 x).wf = true := by
 simp [Lit.wf, IntKind.min, IntKind.max, IntKind.signed, IntKind.bits]
 omega
set_option maxRecDepth 100000 in
set_option maxHeartbeats 8000000 in
theorem heap_Reach.any (pv : Value) (isF : Int → Bool) (near : Int → Option (List Int)) (k : Nat) (A0 : Option Addr) (c0 : Nat) (l0 out : List Int) (w : World)
  (his : ∀ w' x, Below w.heap.size w w' → Calls Try.prog 83 #[pv, .int .i64 x] w' fun e w2 => e = .returned (.bool (isF x)) ∧ Below w'.heap.size w' w2)
  (hne : ∀ w' x ns, Below w.heap.size w w' → isF x = true → near x = some ns → Calls Try.prog 37 #[pv, .int .i64 x] w' fun e w2 => ∃ v0, e = .returned v0 ∧ (Kd.int .i64).R 3 w2 w'.heap.size (fun _ => True) v0 ns ∧ Below w'.heap.size w' w2)
  (hsm : ∀ x, isF x = true → 1 ≤ x ∧ x ≤ 1099511627776)
  (hr0 : (Kd.int .i64).C w A0 l0.length l0) (hc0 : l0.length ≤ c0) (hl : l0.length ≤ 1000000) (h : reachQ isF near k l0 [] = some out) (hol : out.length < LIMR) :
  Calls Try.prog 36 #[pv, .slice A0 l0.length c0] w fun e w' => ∃ v0, e = .returned v0 ∧ (Kd.int .i64).R 3 w' w.heap.size (fun _ => True) v0 (out.mergeSort fun x y => decide (x ≤ y)) ∧ Below w.heap.size w w' := by
 have HIS := Aside0.mk his; have HNE := Aside0.mk hne; have HSM := Aside0.mk hsm; have HR0 := Aside0.mk hr0; have HC0 := Aside0.mk hc0; have HLL := Aside0.mk hl; have HQ := Aside0.mk h; have HOL := Aside0.mk hol
 clear his hne hsm hr0 hc0 hl h hol
 have hmm := @run_makeMap Try.prog
 go_enter Try.func36, Try.ntmps36
 go_wp2_with fail
 have HB1 : Aside0 (Below w.heap.size w (w.alloc (.map #[] 0))) := ⟨below_alloc (Below.refl _ _) _⟩
 have HS1 : Aside0 (SetAt (w.alloc (.map #[] 0)) Try.prog 3 4 w.heap.size (([] : List Int).map ik)) := ⟨SetAt.made w _ _ _⟩
 generalize w.alloc (.map #[] 0) = w1 at HB1 HS1 ⊢
 refine (slices_Clone_int_int.calls A0 c0 l0 l0 w1 (Kd.C_below HR0.out HB1.out) HC0.out (if_pos HLL.out)).mono ?_
 rintro e w2 ⟨vt, rfl, hrt, hb2⟩
 have HB2 := Aside0.mk (below_step HB1.out hb2)
 have HS2 := Aside0.mk (SetAt.below HS1.out hb2)
 have HT2 : Aside0 ((Kd.int .i64).R 3 w2 w.heap.size (fun k => True ∧ some k ≠ (Value.slice none 0 0).ownBlock) vt l0) := ⟨Kd.R_mono (Kd.R_lower hrt HB1.out.size) (fun k _ => ⟨trivial, by simp [Value.ownBlock]⟩)⟩
 clear hrt hb2 HB1 HS1 hmm
 go_wp2_with fail
 go_loopg [6, 7, 8] k (fun kq v6 v7 _ wr => ∃ todo ou : List Int, Aside0 (reachQ isF near kq todo ou = some out) ∧ Aside0 ((Kd.int .i64).R 3 wr w.heap.size (fun k => True ∧ some k ≠ v7.ownBlock) v6 todo) ∧ Aside0 ((Kd.int .i64).R 3 wr w.heap.size (fun _ => True) v7 ou) ∧ Aside0 (SetAt wr Try.prog 3 4 w.heap.size (ou.map ik)) ∧ Aside0 (Below w.heap.size w wr))
 case atStart => exact ⟨l0, [], HQ, HT2, ⟨Kd.R_nil _ _ _ _ _⟩, HS2, HB2⟩
 case round =>
  clear HQ HT2 HS2 HB2
  obtain ⟨todo, ou, HQ, HT, HO, HS, HB⟩ := hrel
  cases gk with
  | zero => exact absurd HQ.out (by simp [reachQ])
  | succ kq =>
  obtain ⟨A, c, rfl, hc, hC⟩ := Kd.R_reads HT.out
  have htm := Kd.C_max hC
  by_cases hp : 0 < todo.length
  ·have hq := HQ.out
   unfold reachQ at hq
   rw [if_pos hp] at hq
   obtain ⟨m, hm⟩ : ∃ m, todo.length = m + 1 := ⟨todo.length - 1, by omega⟩
   have em : todo.length - 1 = m := by omega
   rw [em] at hq
   obtain ⟨x, hx⟩ : ∃ x, x = rd todo (m : Int) := ⟨_, rfl⟩
   obtain ⟨tk, htk⟩ : ∃ tk, tk = todo.take m := ⟨_, rfl⟩
   rw [← hx, ← htk] at hq
   obtain ⟨ad, ea, hcell⟩ := Kd.at_int hC (m : Int) (by omega) (by omega)
   subst ea
   simp only [Int.toNat_natCast] at hcell
   rw [← hx] at hcell
   obtain ⟨hcut, hR3⟩ := cut_stack (P := Try.prog) (t := 45) (e := 3) Try.underlying45 (by kernel_rfl) HT.out rfl hc hp
   rw [em, ← htk] at hR3
   rw [em] at hcut
   have hwr : IntKind.i64.wrap ((todo.length : Int) - 1) = (m : Int) := by rw [IntKind.wrap_i64]; omega
   have hcut2 : ∀ W : World, (Instr.slice 45 (.slice (some ad) todo.length c) none (some (.int .i64 (m : Int))) none).run Try.prog W = .ok (.slice (some ad) m c) W := fun W => by
    have := hcut W
    rwa [show ((todo.length : Int) - 1) = (m : Int) by omega] at this
   have htkl : tk.length = m := by rw [htk, List.length_take]; omega
   have HTK := Aside0.mk htkl
   have HR3 := Aside0.mk hR3
   have hml : (m : Int) < (todo.length : Int) := by omega
   have HM := Aside0.mk hm
   have HQ1 := Aside0.mk hq
   have hd0 : decide (0 < (todo.length : Int)) = true := decide_eq_true (by omega)
   clear hC hq hx htk hR3 hcut hc HT HQ htkl em hm hp
   go_wp2_with fail
   refine (HIS.out wr x HB.out).mono ?_
   rintro e w3 ⟨rfl, hb3⟩
   have HB3 := Aside0.mk (below_step HB.out hb3)
   have HT3 := Aside0.mk (Kd.R_below HR3.out hb3)
   have HO3 := Aside0.mk (Kd.R_below HO.out hb3)
   have HS3 := Aside0.mk (SetAt.below HS.out hb3)
   clear hb3 HB HR3 HO HS hcell hcut2
   cases hix : isF x with
   | false =>
    have hq1 := HQ1.out
    rw [if_neg (fun hh => by rw [hix] at hh; exact absurd hh.1 (by decide))] at hq1
    have HQ2 := Aside0.mk hq1
    clear hq1 HQ1 hix
    go_wp2
    go_roundg kq
    case rel => exact ⟨tk, ou, HQ2, ⟨by have h := HT3.out; exact h⟩, HO3, HS3, HB3⟩
    case measure => omega
   | true =>
    obtain ⟨hx1, hx2⟩ := HSM.out x hix
    have hwf := wf_small hx1 hx2
    have hlk : (Instr.lookup 121 (.map (some w.heap.size)) (.int .i64 x) false).run Try.prog w3 = .ok (.bool (ou.contains x)) w3 := by
     rw [← ik_has]
     exact SetAt.lookup HS3.out (Go.Maps.int_keyed Try.underlying3) Try.underlying121 Try.underlying4 (zeroBo w3) (Go.Maps.keyOf_int_mk Try.underlying3 hwf) trivial
    cases hcx : ou.contains x with
    | true =>
     rw [hcx] at hlk
     have hq1 := HQ1.out
     rw [if_neg (fun hh => by rw [hcx] at hh; exact absurd hh.2 (by decide))] at hq1
     have HQ2 := Aside0.mk hq1
     clear hq1 HQ1 hix hcx hwf hx1 hx2
     go_wp2
     go_roundg kq
     case rel => exact ⟨tk, ou, HQ2, ⟨by have h := HT3.out; exact h⟩, HO3, HS3, HB3⟩
     case measure => omega
    | false =>
     rw [hcx] at hlk
     have hq1 := HQ1.out
     rw [if_pos ⟨hix, hcx⟩] at hq1
     obtain ⟨ns, hns, hq1⟩ := Option.bind_eq_some_iff.mp hq1
     by_cases hlim : todo.length + ns.length < LIMR ∧ ou.length < LIMR
     case neg => rw [if_neg hlim] at hq1; cases hq1
     rw [if_pos hlim] at hq1
     have HQ2 := Aside0.mk hq1; have HNS := Aside0.mk hns; have HLIM := Aside0.mk hlim; have HIX := Aside0.mk hix
     have hkey : keyOf Try.prog 3 (.int .i64 x) = some (ik x) := Go.Maps.keyOf_int_mk Try.underlying3 hwf
     have HKEY := Aside0.mk hkey
     clear hq1 HQ1 hix hcx hwf hx1 hx2 hns hlim hkey
     go_wp2_with (at_mapUpdate; refine SetAt.update_op HS3.out rfl (.tmp 35) (.tmp 36) (.const (.bool true)) rfl (Go.Maps.int_keyed Try.underlying3) Try.underlying121 Try.underlying4 rfl ?hn (.int .i64 x) (ik x) rfl rfl HKEY.out trivial ?_)
     case hn => rw [List.length_map]; have := HLIM.out.2; unfold LIMR at this; unfold maxLen; omega
     intro w4 hs4 hg4
     have HB4 : Aside0 (Below w.heap.size w w4) := ⟨HB3.out.grown hg4 HB3.out.size (fun j hj => by injection hj with hj; omega)⟩
     have hneT : ∀ {α : Type} {d : Kd α} {okx : Nat → Prop} {vx : Value} {xs : List α}, d.R 3 w3 w.heap.size okx vx xs → ∀ k, vx.ownBlock = some k → k ≠ w.heap.size := fun hR k hk e => (SetAt.ne_own HS3.out (Kd.Q_of_R hR)) (by rw [hk, e])
     have HT4 : Aside0 ((Kd.int .i64).R 3 w4 w.heap.size (fun k => True ∧ some k ≠ u7.ownBlock) (.slice (some ad) m c) tk) := ⟨Kd.R_mono (Kd.R_grown (Kd.R_tight2 rfl HT3.out) hg4 (fun k hk e => hneT HT3.out k hk.1.symm (by injection e))) (fun k hk => hk.2)⟩
     have HO4 : Aside0 ((Kd.int .i64).R 3 w4 w.heap.size (fun _ => True) u7 ou) := ⟨Kd.R_mono (Kd.R_grown (Kd.R_tight rfl HO3.out) hg4 (fun k hk e => hneT HO3.out k hk.symm (by injection e))) (fun _ _ => trivial)⟩
     have HS4 : Aside0 (SetAt w4 Try.prog 3 4 w.heap.size ((ik x) :: ou.map ik)) := ⟨hs4⟩
     clear hs4 hg4 hlk hneT HS3 HT3 HO3 HB3 HKEY
     obtain ⟨Ao, co, eo⟩ := Kd.R_slice HO4.out
     subst eo
     go_wp2_with (at_builtin; refine Kd.R_append (Kd.int .i64) (w0 := w) w.heap.size rfl (.tmp 37) (.tmp 39) 45 3 (.int .i64 0) 8 rfl Try.underlying45 infoIn rfl (by decide) (by decide) _ ou x [.int .i64 x] (fun _ => True) (fun _ => False) rfl rfl ?aP (fun _ hk => hk.elim) ?aF HO4.out HB4.out HB4.out.size ?aL ?_)
     case aP => exact rfl
     case aF => exact fun _ _ => trivial
     case aL => have := HLIM.out.2; unfold LIMR at this; omega
     intro v5 w5 hq5 hb5 hg5 hat5
     have HB5 := Aside0.mk hb5
     have HO5 := Aside0.mk hq5
     have HT5 := Aside0.mk (Kd.R_after HT4.out hg5 hat5)
     have HS5 := Aside0.mk (SetAt.kept HS4.out hg5 (SetAt.ne_own HS4.out (Kd.Q_of_R HO4.out)))
     clear hq5 hb5 hg5 hat5 HT4 HO4 HS4 HB4
     go_wp2_with fail
     refine (HNE.out w5 x ns HB5.out HIX.out HNS.out).mono ?_
     rintro e w6 ⟨vn, rfl, hrn, hb6⟩
     have HB6 := Aside0.mk (below_step HB5.out hb6)
     have HT6 := Aside0.mk (Kd.R_below HT5.out hb6)
     have HO6 := Aside0.mk (Kd.R_below HO5.out hb6)
     have HS6 := Aside0.mk (SetAt.below HS5.out hb6)
     obtain ⟨An, cn, rfl, hcn, hCn⟩ := Kd.R_reads hrn
     have HCN := Aside0.mk hCn
     clear hrn hb6 hCn HT5 HO5 HS5 HB5
     go_wp2_with (at_builtin; refine Kd.R_append_row (Value.int .i64) (0 : Int) (w0 := w) w.heap.size rfl (.tmp 41) (.tmp 44) 45 3 (.int .i64 0) 8 rfl Try.underlying45 infoIn rfl (by decide) _ tk ns An ns.length cn (fun k => True ∧ some k ≠ v5.ownBlock) rfl rfl ?bF HT6.out HCN.out HB6.out HB6.out.size ?bL ?_)
     case bF => exact fun k hk => ⟨trivial, fun e => by have := Kd.R_lt HO6.out k e.symm; omega⟩
     case bL => have := HLIM.out.1; have := HTK.out; have := HM.out; unfold LIMR at *; omega
     intro v7 w7 hq7 hb7 hg7 hat7
     have HB7 := Aside0.mk hb7
     have HT7 : Aside0 ((Kd.int .i64).R 3 w7 w.heap.size (fun k => True ∧ some k ≠ v5.ownBlock) v7 (tk ++ ns)) := ⟨Kd.R_mono hq7 (fun k hk => ⟨trivial, by simpa using hk⟩)⟩
     have HO7 : Aside0 ((Kd.int .i64).R 3 w7 w.heap.size (fun _ => True) v5 (ou ++ [x])) := ⟨Kd.R_mono (Kd.R_grown (Kd.R_tight rfl HO6.out) hg7 (fun k hk e => (HT6.out.1 k e.symm).2 hk)) (fun _ _ => trivial)⟩
     have HS7a := Aside0.mk (SetAt.kept HS6.out hg7 (SetAt.ne_own HS6.out (Kd.Q_of_R HT6.out)))
     clear hq7 hb7 hg7 hat7 HT6 HO6 HS6 HB6 HCN
     have HS7 : Aside0 (SetAt w7 Try.prog 3 4 w.heap.size ((ou ++ [x]).map ik)) := ⟨set_perm HS7a.out (by simp [or_comm]) (by simp)⟩
     go_wp2
     go_roundg kq
     case rel => exact ⟨tk ++ ns, ou ++ [x], HQ2, HT7, HO7, HS7, HB7⟩
     case measure => omega
  ·have hq := HQ.out
   unfold reachQ at hq
   rw [if_neg hp] at hq
   obtain rfl := Option.some.inj hq
   have h0 : todo.length = 0 := by omega
   clear hq HQ hC hc HT HS
   rw [h0]
   clear h0 hp htm
   go_wp2_with fail
   refine (sort_R HO.out (by have := HOL.out; unfold LIMR at this; omega)).mono ?_
   rintro e w3 ⟨rfl, hR3, hg3⟩
   have HR3 := Aside0.mk hR3
   have HB3 := Aside0.mk (Below.grown HB.out hg3 HB.out.size (fun k hk => Kd.R_base HO.out k hk))
   clear hR3 hg3
   go_wp2
   go_ret
   exact ⟨_, rfl, HR3.out, HB3.out⟩
end Go.Proofs.Ytonmlncejikbiaa.Q
/- The anchor of chapter 6: by hand. -/
namespace Go.Proofs.Ytonmlncejikbiaa.Q
open Go.RowKit Go.Proofs.YtonmlncejikbiaaW.PrintWords Go.Proofs.YtonmlncejikbiaaW.PrintLast Go.Proofs.YtonmlncejikbiaaW.PrintMore
set_option linter.unusedVariables false
set_option linter.unusedSimpArgs false
def sT : S43 := ⟨⟨#[84]⟩, [⟨⟨#[110]⟩, ⟨#[105, 110, 116]⟩⟩, ⟨⟨#[116]⟩, ⟨#[42, 84]⟩⟩]⟩
theorem aw_check : kind_Check.f 40 [sT] = some (0, 0) := by kernel_rfl
theorem aw_bad : kind_Check.f 40 [⟨⟨#[]⟩, []⟩] = some (0, 1) := by kernel_rfl
theorem aw_links : kind_Links.f 40 sT.f0 sT.f1 = some [1] := by kernel_rfl
theorem aw_sF : ∀ x ∈ [sT], x.f1.length ≤ 1000000 := fun x hx => by rw [List.mem_singleton.mp hx]; decide
def L1a : List (Int × List Int) := [(0, [0, 0])]
def L2a : List (Int × List Int) := [(0, [0, 0]), (0, [0, 0])]
def L3a : List (Int × List Int) := [(0, [0, 2]), (0, [0, 0])]
theorem aw_ok : OkL [sT] L3a := ⟨by decide, fun x hx => by
 have h : x = (0, [0, 2]) ∨ x = (0, [0, 0]) := by simpa [L3a] using hx
 rcases h with rfl | rfl
 ·exact ⟨by decide, by decide, by kernel_rfl, fun n hn => by simp at hn; omega⟩
 ·exact ⟨by decide, by decide, by kernel_rfl, fun n hn => by simp at hn; omega⟩⟩
theorem sort_one (x : Int) : sortC [x] = [x] := by unfold sortC; rw [List.mergeSort_singleton]; rfl
theorem sort_nil : sortC [] = [] := by unfold sortC; rw [List.mergeSort_nil]; rfl
def nearA (x : Int) : Option (List Int) := if x = 1 then some [2] else if x = 2 then some [] else none
theorem aw_reach : reachQ (isO L3a) nearA 20 [1] [] = some [1, 2] := by kernel_rfl
theorem aw_sorted : [1, 2].mergeSort (fun x y : Int => decide (x ≤ y)) = [1, 2] := List.mergeSort_of_pairwise (by decide)
section
variable {base g : Nat} {w : World} {sv lv : Value} {sok lok : Nat → Prop}
theorem aw_near1 (h : HP w base g sv lv [sT] L3a sok lok) : Calls Try.prog 37 #[ptr g, .int .i64 1] w fun e w' => ∃ v0, e = .returned v0 ∧ (Kd.int .i64).R 3 w' w.heap.size (fun _ => True) v0 [2] ∧ Below w.heap.size w w' := by
 have h1 := heap_Near.calls 40 0 (0, [0, 2]) sT [1] h aw_ok (by decide) rfl rfl aw_links (fun q hq => by rw [List.mem_singleton.mp hq]; decide) (by decide)
 have e : sortC (nearTo L3a [0, 2] [1]) = [2] := by
  have : nearTo L3a [0, 2] [1] = [2] := by kernel_rfl
  rw [this, sort_one]
 rw [show ((0, [0, 2]) : Int × List Int).2 = [0, 2] from rfl, e] at h1
 exact h1
theorem aw_near2 (h : HP w base g sv lv [sT] L3a sok lok) : Calls Try.prog 37 #[ptr g, .int .i64 2] w fun e w' => ∃ v0, e = .returned v0 ∧ (Kd.int .i64).R 3 w' w.heap.size (fun _ => True) v0 [] ∧ Below w.heap.size w w' := by
 have h1 := heap_Near.calls 40 1 (0, [0, 0]) sT [1] h aw_ok (by decide) rfl rfl aw_links (fun q hq => by rw [List.mem_singleton.mp hq]; decide) (by decide)
 have e : sortC (nearTo L3a [0, 0] [1]) = [] := by
  have : nearTo L3a [0, 0] [1] = [] := by kernel_rfl
  rw [this, sort_nil]
 rw [show ((0, [0, 0]) : Int × List Int).2 = [0, 0] from rfl, e] at h1
 exact h1
theorem aw_make1 (h : HP w base g sv lv [sT] [] sok lok) : Calls Try.prog 34 #[ptr g, .string ⟨#[84]⟩] w fun e w' => e = .returned (.tuple #[.int .i64 1, .int .i64 0]) ∧
   ∃ lv' lok', HP w' base g sv lv' [sT] L1a sok lok' ∧ (∀ k, lok' k → lok k ∨ w.heap.size ≤ k) ∧ Kept w w' (Turns g lok) ∧ Below base w w' := by
 have h1 := heap_Make.calls ⟨#[84]⟩ h (by decide) aw_sF
 rw [show mkN [sT] [] ⟨#[84]⟩ = 1 by kernel_rfl, show mkE [sT] [] ⟨#[84]⟩ = 0 by kernel_rfl, show mkL [sT] [] ⟨#[84]⟩ = L1a by kernel_rfl] at h1
 exact h1
theorem aw_make2 (h : HP w base g sv lv [sT] L1a sok lok) : Calls Try.prog 34 #[ptr g, .string ⟨#[84]⟩] w fun e w' => e = .returned (.tuple #[.int .i64 2, .int .i64 0]) ∧
   ∃ lv' lok', HP w' base g sv lv' [sT] L2a sok lok' ∧ (∀ k, lok' k → lok k ∨ w.heap.size ≤ k) ∧ Kept w w' (Turns g lok) ∧ Below base w w' := by
 have h1 := heap_Make.calls ⟨#[84]⟩ h (by decide) aw_sF
 rw [show mkN [sT] L1a ⟨#[84]⟩ = 2 by kernel_rfl, show mkE [sT] L1a ⟨#[84]⟩ = 0 by kernel_rfl, show mkL [sT] L1a ⟨#[84]⟩ = L2a by kernel_rfl] at h1
 exact h1
theorem aw_set (h : HP w base g sv lv [sT] L2a sok lok) : Calls Try.prog 35 #[ptr g, .int .i64 1, .int .i64 1, .int .i64 2] w fun e w' => e = .returned (.int .i64 0) ∧ HP w' base g sv lv [sT] L3a sok lok ∧ Kept w w' lok ∧ Below base w w' := by
 have h1 := heap_Set.calls 1 1 2 h
 rw [show chkE L2a 1 1 = 0 by kernel_rfl, show setO L2a 1 1 2 = L3a by kernel_rfl] at h1
 exact h1
theorem aw_get (o f a b : Int) (h : HP w base g sv lv [sT] L3a sok lok) (ea : getO L3a o f = a) (eb : chkE L3a o f = b) : Calls Try.prog 39 #[ptr g, .int .i64 o, .int .i64 f] w fun e w' => e = .returned (.tuple #[.int .i64 a, .int .i64 b]) ∧ Below w.heap.size w w' := by
 have h1 := heap_Get.calls o f h
 rw [ea, eb] at h1
 exact h1
theorem aw_of (h : HP w base g sv lv [sT] L3a sok lok) : Calls Try.prog 40 #[ptr g, .int .i64 2] w fun e w' => e = .returned (.string ⟨#[84]⟩) ∧ Below w.heap.size w w' := by
 have h1 := heap_Of.calls 2 h aw_ok
 rw [show ofO [sT] L3a 2 = ⟨#[84]⟩ by kernel_rfl] at h1
 exact h1
theorem aw_len (h : HP w base g sv lv [sT] L3a sok lok) : Calls Try.prog 41 #[ptr g] w fun e w' => e = .returned (.int .i64 2) ∧ Below w.heap.size w w' := heap_Len.calls h
theorem aw_rea (A0 : Option Addr) (c0 : Nat) (h : HP w base g sv lv [sT] L3a sok lok) (hr0 : (Kd.int .i64).C w A0 1 [1]) (hc0 : 1 ≤ c0) : Calls Try.prog 36 #[ptr g, .slice A0 1 c0] w fun e w' => ∃ v0, e = .returned v0 ∧ (Kd.int .i64).R 3 w' w.heap.size (fun _ => True) v0 [1, 2] ∧ Below w.heap.size w w' := by
 have h1 := heap_Reach.any (ptr g) (isO L3a) nearA 20 A0 c0 [1] [1, 2] w (fun w' x hb => heap_is.calls x (h.below hb)) (fun w' x ns hb hx hn => by
  unfold nearA at hn
  split at hn
  ·rename_i e; subst e; obtain rfl := Option.some.inj hn; exact aw_near1 (h.below hb)
  ·split at hn
   ·rename_i e; subst e; obtain rfl := Option.some.inj hn; exact aw_near2 (h.below hb)
   ·cases hn) (fun x hx => by
  have := of_decide_eq_true hx
  have e : L3a.length = 2 := rfl
  rw [e] at this
  omega) hr0 hc0 (by decide) aw_reach (by decide)
 rw [aw_sorted] at h1
 exact h1
end
theorem sT_row (w : World) : Kd.C k43 ((w.alloc (.cells #[.string ⟨#[110]⟩, .string ⟨#[105, 110, 116]⟩, .string ⟨#[116]⟩, .string ⟨#[42, 84]⟩] 48)).alloc (.cells #[.string ⟨#[84]⟩, .slice (some ⟨w.heap.size, 0, none⟩) 2 2] 43)) (some ⟨w.heap.size + 1, 0, none⟩) 1 [sT] := by
 have hf := lit_R k48 (W := w) w.heap.size 48 (xs := sT.f1) (inner := [.string ⟨#[110]⟩, .string ⟨#[105, 110, 116]⟩, .string ⟨#[116]⟩, .string ⟨#[42, 84]⟩]) (ok := fun _ => True) (okp := fun _ => True) (Reps.c2 ⟨[.string ⟨#[110]⟩], [.string ⟨#[105, 110, 116]⟩], rfl, rfl, rfl⟩ (Reps.c2 ⟨[.string ⟨#[116]⟩], [.string ⟨#[42, 84]⟩], rfl, rfl, rfl⟩ (Reps.none _ _))) (fun _ h => h) trivial (Nat.le_refl _) (by decide)
 have e1 : (w.alloc (.cells #[.string ⟨#[110]⟩, .string ⟨#[105, 110, 116]⟩, .string ⟨#[116]⟩, .string ⟨#[42, 84]⟩] 48)).heap.size = w.heap.size + 1 := World.size_alloc _ _
 have hs := lit_R k43 (W := w.alloc (.cells #[.string ⟨#[110]⟩, .string ⟨#[105, 110, 116]⟩, .string ⟨#[116]⟩, .string ⟨#[42, 84]⟩] 48)) w.heap.size 43 (xs := [sT]) (inner := [.string ⟨#[84]⟩, .slice (some ⟨w.heap.size, 0, none⟩) 2 2]) (ok := fun _ => True) (okp := fun _ => True) (Reps.c2 (k43_mkM _ _ _ sT hf) (Reps.none _ _)) (fun _ h => h) trivial (by omega) (by decide)
 rw [e1] at hs
 exact (Kd.R_reads' hs).2.2
theorem s0_row (w : World) : Kd.C k43 (w.alloc (.cells #[.string ⟨#[]⟩, .slice none 0 0] 43)) (some ⟨w.heap.size, 0, none⟩) 1 [⟨⟨#[]⟩, []⟩] :=
 (Kd.R_reads' (lit_R k43 (W := w) w.heap.size 43 (xs := [⟨⟨#[]⟩, []⟩]) (inner := [.string ⟨#[]⟩, .slice none 0 0]) (ok := fun _ => True) (okp := fun _ => True) (Reps.c2 (k43_mkM _ _ _ ⟨⟨#[]⟩, []⟩ (Kd.R_nil _ _ _ _ _)) (Reps.none _ _)) (fun _ h => h) trivial (Nat.le_refl _) (by decide))).2.2
theorem r1_row (w : World) : (Kd.int .i64).C (w.alloc (.cells #[.int .i64 1] 3)) (some ⟨w.heap.size, 0, none⟩) 1 [1] :=
 (Kd.R_reads' (lit_R (Kd.int .i64) (W := w) w.heap.size 3 (xs := [1]) (inner := [.int .i64 1]) (ok := fun _ => True) (okp := fun _ => True) (Reps.one rfl (Reps.none _ _)) (fun _ h => h) trivial (Nat.le_refl _) (by decide))).2.2
def truantlaw06_awake.f : Option (Bool) := some true
set_option maxRecDepth 100000 in
set_option maxHeartbeats 8000000 in
theorem truantlaw06_awake.calls (r : Bool) (w : World) (h : truantlaw06_awake.f = some r) :
  Calls Try.prog 31 #[] w fun e w' => e = .returned (.bool r) ∧ Below w.heap.size w w' := by
 obtain rfl := Option.some.inj h
 clear h
 have HC0 := Aside0.mk (sT_row w)
 go_enter Try.func31, Try.ntmps31
 go_wp2_with fail
 have e1 : (w.alloc (.cells #[.string ⟨#[110]⟩, .string ⟨#[105, 110, 116]⟩, .string ⟨#[116]⟩, .string ⟨#[42, 84]⟩] 48)).heap.size = w.heap.size + 1 := World.size_alloc _ _
 have HBa : Aside0 (Below w.heap.size w ((w.alloc (.cells #[.string ⟨#[110]⟩, .string ⟨#[105, 110, 116]⟩, .string ⟨#[116]⟩, .string ⟨#[42, 84]⟩] 48)).alloc (.cells #[.string ⟨#[84]⟩, .slice (some ⟨w.heap.size, 0, none⟩) 2 2] 43))) := ⟨below_alloc (below_alloc (Below.refl _ _) _) _⟩
 try rw [e1]
 refine (heap_New.calls 40 (some ⟨w.heap.size + 1, 0, none⟩) 1 [sT] 0 _ HC0.out (Nat.le_refl _) aw_check (by decide) aw_sF).mono ?_
 rintro e w1 ⟨g, sv, sok, rfl, hp1, hb1, hs1⟩
 have HB1 := Aside0.mk (below_step HBa.out hb1)
 have HW := Aside0.mk HBa.out.size
 have H1 := Aside0.mk hp1
 clear hp1 hb1 HC0 HBa e1
 generalize ((w.alloc (.cells #[.string ⟨#[110]⟩, .string ⟨#[105, 110, 116]⟩, .string ⟨#[116]⟩, .string ⟨#[42, 84]⟩] 48)).alloc (.cells #[.string ⟨#[84]⟩, .slice (some ⟨w.heap.size, 0, none⟩) 2 2] 43)).heap.size = base at H1 HW hs1
 go_wp2_with fail
 refine (aw_make1 H1.out).mono ?_
 rintro e w2 ⟨rfl, lv2, lok2, h2, _, _, hb2⟩
 have HB2 := Aside0.mk (HB1.out.trans (hb2.mono HW.out)); have H2 := Aside0.mk h2
 clear h2 hb2 H1 HB1
 go_wp2_with fail
 refine (aw_make2 H2.out).mono ?_
 rintro e w3 ⟨rfl, lv3, lok3, h3, _, _, hb3⟩
 have HB3 := Aside0.mk (HB2.out.trans (hb3.mono HW.out)); have H3 := Aside0.mk h3
 clear h3 hb3 H2 HB2
 go_wp2_with fail
 refine (aw_set H3.out).mono ?_
 rintro e w4 ⟨rfl, h4, _, hb4⟩
 have HB4 := Aside0.mk (HB3.out.trans (hb4.mono HW.out)); have H4 := Aside0.mk h4
 clear h4 hb4 H3 HB3
 go_wp2_with fail
 refine (aw_get 1 1 2 0 H4.out (by kernel_rfl) (by kernel_rfl)).mono ?_
 rintro e w5 ⟨rfl, hb5⟩
 have HB5 := Aside0.mk (below_step HB4.out hb5); have H5 := Aside0.mk (H4.out.below hb5)
 clear hb5 H4 HB4
 go_wp2_with fail
 refine (aw_get 0 0 0 10 H5.out (by kernel_rfl) (by kernel_rfl)).mono ?_
 rintro e w6 ⟨rfl, hb6⟩
 have HB6 := Aside0.mk (below_step HB5.out hb6); have H6 := Aside0.mk (H5.out.below hb6)
 clear hb6 H5 HB5
 go_wp2_with fail
 refine (aw_get 3 0 0 13 H6.out (by kernel_rfl) (by kernel_rfl)).mono ?_
 rintro e w7 ⟨rfl, hb7⟩
 have HB7 := Aside0.mk (below_step HB6.out hb7); have H7 := Aside0.mk (H6.out.below hb7)
 clear hb7 H6 HB6
 go_wp2_with fail
 refine (aw_get 1 2 0 2 H7.out (by kernel_rfl) (by kernel_rfl)).mono ?_
 rintro e w8 ⟨rfl, hb8⟩
 have HB8 := Aside0.mk (below_step HB7.out hb8); have H8 := Aside0.mk (H7.out.below hb8)
 clear hb8 H7 HB7
 go_wp2_with fail
 have hba : Below w8.heap.size w8 (w8.alloc (.cells #[.int .i64 1] 3)) := below_alloc (Below.refl _ _) _
 refine (aw_rea _ 1 (H8.out.below hba) (r1_row w8) (Nat.le_refl _)).mono ?_
 rintro e w9 ⟨v9, rfl, hr9, hb9⟩
 have HB9 := Aside0.mk (below_step (below_step HB8.out hba) hb9); have H9 := Aside0.mk ((H8.out.below hba).below hb9)
 obtain ⟨g9, c9, ev9, -⟩ := Kd.R_form hr9 (by decide)
 have hln : ([1, 2] : List Int).length = 2 := rfl
 rw [hln] at ev9
 subst ev9
 obtain ⟨ad9, e9, hc9⟩ := Kd.at_int (Kd.R_reads' hr9).2.2 1 (by decide) (by decide)
 cases e9
 have hc9' : w9.cell? ⟨g9, 1, none⟩ = some (.int .i64 2) := hc9
 clear hb9 hr9 hba H8 HB8 hc9 hln
 go_wp2_with fail
 refine (aw_near1 H9.out).mono ?_
 rintro e wa ⟨va, rfl, hra, hba⟩
 have HBa := Aside0.mk (below_step HB9.out hba); have Ha := Aside0.mk (H9.out.below hba)
 obtain ⟨ga, ca, eva, -⟩ := Kd.R_form hra (by decide)
 subst eva
 clear hra hba H9 HB9 hc9'
 go_wp2_with fail
 refine (aw_of Ha.out).mono ?_
 rintro e wb ⟨rfl, hbb⟩
 have HBb := Aside0.mk (below_step HBa.out hbb); have Hb := Aside0.mk (Ha.out.below hbb)
 clear hbb Ha HBa
 go_wp2_with fail
 refine (aw_len Hb.out).mono ?_
 rintro e wc ⟨rfl, hbc⟩
 have HBc := Aside0.mk (below_step HBb.out hbc)
 clear hbc Hb HBb
 go_wp2_with fail
 refine (heap_New.bad 40 (some ⟨wc.heap.size, 0, none⟩) 1 [⟨⟨#[]⟩, []⟩] 0 1 _ (s0_row wc) (Nat.le_refl _) aw_bad rfl).mono ?_
 rintro e wd ⟨rfl, hbd⟩
 have HBd := Aside0.mk (below_step HBc.out (below_step (below_alloc (Below.refl _ _) _) hbd))
 clear hbd HBc
 go_wp2
 go_ret
 exact ⟨rfl, HBd.out⟩
theorem setO_len (L : List (Int × List Int)) (o f n : Int) : (setO L o f n).length = L.length := by
 unfold setO
 split
 ·rw [List.length_set]
 ·rfl
theorem mkL_len {S : List S43} (L : List (Int × List Int)) (nm : ByteArray) : (mkL S L nm).length ≤ L.length + 1 := by
 unfold mkL
 split <;> simp
/-- How many are not seen yet. -/
def unseen (U out : List Int) : Nat := (U.filter fun x => !out.contains x).length
theorem unseen_le (U out : List Int) : unseen U out ≤ U.length := List.length_filter_le _ _
theorem unseen_mono (x : Int) (out : List Int) : ∀ U, unseen U (out ++ [x]) ≤ unseen U out
 | [] => Nat.le_refl _
 | a :: U => by
  have ih := unseen_mono x out U
  unfold unseen at ih ⊢
  by_cases h1 : out.contains a = true
  ·have h2 : (out ++ [x]).contains a = true := by rw [List.contains_iff_mem] at h1 ⊢; exact List.mem_append_left _ h1
   rw [List.filter_cons_of_neg (p := fun x => !out.contains x) (by rw [h1]; decide), List.filter_cons_of_neg (p := fun y => !(out ++ [x]).contains y) (by rw [h2]; decide)]
   exact ih
  ·have h1' : out.contains a = false := by simpa using h1
   rw [List.filter_cons_of_pos (p := fun x => !out.contains x) (by rw [h1']; rfl)]
   by_cases h2 : (out ++ [x]).contains a = true
   ·rw [List.filter_cons_of_neg (p := fun y => !(out ++ [x]).contains y) (by rw [h2]; decide), List.length_cons]; omega
   ·have h2' : (out ++ [x]).contains a = false := by simpa using h2
    rw [List.filter_cons_of_pos (p := fun y => !(out ++ [x]).contains y) (by rw [h2']; rfl), List.length_cons, List.length_cons]; omega
theorem unseen_lt (x : Int) (out : List Int) (hx : out.contains x = false) : ∀ U, x ∈ U → unseen U (out ++ [x]) + 1 ≤ unseen U out
 | [], h => by cases h
 | a :: U, h => by
  by_cases e : a = x
  ·subst e
   have h2 : (out ++ [a]).contains a = true := by rw [List.contains_iff_mem]; simp
   have h3 := unseen_mono a out U
   unfold unseen at h3 ⊢
   rw [List.filter_cons_of_pos (p := fun x => !out.contains x) (by rw [hx]; rfl), List.filter_cons_of_neg (p := fun y => !(out ++ [a]).contains y) (by rw [h2]; decide), List.length_cons]
   omega
  ·have hU : x ∈ U := by
    rcases List.mem_cons.mp h with h | h
    ·exact absurd h.symm e
    ·exact h
   have ih := unseen_lt x out hx U hU
   unfold unseen at ih ⊢
   by_cases h1 : out.contains a = true
   ·have h2 : (out ++ [x]).contains a = true := by rw [List.contains_iff_mem] at h1 ⊢; exact List.mem_append_left _ h1
    rw [List.filter_cons_of_neg (p := fun x => !out.contains x) (by rw [h1]; decide), List.filter_cons_of_neg (p := fun y => !(out ++ [x]).contains y) (by rw [h2]; decide)]
    exact ih
   ·have h1' : out.contains a = false := by simpa using h1
    have h2' : (out ++ [x]).contains a = false := by
     rw [← Bool.not_eq_true, List.contains_iff_mem] at h1' ⊢
     intro q
     rcases List.mem_append.mp q with q | q
     ·exact h1' q
     ·exact e (List.mem_singleton.mp q)
    rw [List.filter_cons_of_pos (p := fun x => !out.contains x) (by rw [h1']; rfl), List.filter_cons_of_pos (p := fun y => !(out ++ [x]).contains y) (by rw [h2']; rfl), List.length_cons, List.length_cons]
    omega
theorem todo_split (todo : List Int) (t : Nat) (h : todo.length = t + 1) : todo = todo.take t ++ [rd todo (t : Int)] := by
 have h1 : todo.take (t + 1) = todo := List.take_of_length_le (by omega)
 rw [← h1]
 conv => lhs; rw [take_nextI todo 0 (by omega)]
 rw [h1]
 rfl
structure Net (isF : Int → Bool) (near : Int → List Int) (U : List Int) (B : Nat) : Prop where
 univ : ∀ x, isF x = true → x ∈ U
 near : ∀ x, isF x = true → (near x).length ≤ B ∧ ∀ y ∈ near x, isF y = true
/-- What the stack comes to. -/
structure Came (isF : Int → Bool) (near : Int → List Int) (todo out r : List Int) : Prop where
 had : ∀ x ∈ out, x ∈ r
 root : ∀ x ∈ todo, isF x = true → x ∈ r
 shut : (∀ x ∈ out, ∀ y ∈ near x, y ∈ out ∨ y ∈ todo) → ∀ x ∈ r, ∀ y ∈ near x, y ∈ r
 is : ∀ x ∈ r, isF x = true
 nodup : r.Nodup
 led : ∀ x ∈ r, x ∈ out ∨ x ∈ todo ∨ ∃ z ∈ r, x ∈ near z
 least : ∀ T : Int → Prop, (∀ x ∈ out, T x) → (∀ x ∈ todo, isF x = true → T x) → (∀ x, T x → isF x = true → ∀ y ∈ near x, T y) → ∀ x ∈ r, T x
 len : r.length ≤ 1000000000
theorem reach_run {isF : Int → Bool} {near : Int → List Int} {U : List Int} {B : Nat} (h : Net isF near U B) : ∀ (m : Nat) (todo out : List Int), unseen U out * (B + 1) + todo.length ≤ m → m + B ≤ 1000000000 → out.length + unseen U out ≤ 1000000000 → (∀ x ∈ out, isF x = true) → out.Nodup →
  ∃ r, (∀ k, m < k → reachQ isF (fun x => some (near x)) k todo out = some r) ∧ Came isF near todo out r := by
 intro m
 induction m with
 | zero =>
  intro todo out hm _ hl hi hn
  have h0 : todo = [] := List.eq_nil_of_length_eq_zero (by omega)
  subst h0
  refine ⟨out, fun k hk => ?_, ⟨fun x hx => hx, fun x hx => absurd hx (by simp), fun hs x hx y hy => (hs x hx y hy).resolve_right (by simp), hi, hn, fun x hx => .inl hx, fun T h1 _ _ x hx => h1 x hx, by omega⟩⟩
  obtain ⟨k, rfl⟩ : ∃ q, k = q + 1 := ⟨k - 1, by omega⟩
  unfold reachQ
  rw [if_neg (by simp)]
 | succ m ih =>
  intro todo out hm hM hl hi hn
  by_cases hp : 0 < todo.length
  ·obtain ⟨t, ht⟩ : ∃ t, todo.length = t + 1 := ⟨todo.length - 1, by omega⟩
   have hsp := todo_split todo t ht
   obtain ⟨x, hx⟩ : ∃ x, x = rd todo (t : Int) := ⟨_, rfl⟩
   obtain ⟨tk, htk⟩ : ∃ tk, tk = todo.take t := ⟨_, rfl⟩
   have htl : tk.length = t := by rw [htk, List.length_take]; omega
   rw [← hx, ← htk] at hsp
   have et : todo.length - 1 = t := by omega
   have hmem : ∀ y, y ∈ todo ↔ y ∈ tk ∨ y = x := fun y => by rw [hsp, List.mem_append, List.mem_singleton]
   by_cases hc : isF x = true ∧ out.contains x = false
   ·obtain ⟨hns, hnF⟩ := h.near x hc.1
    have hxo : x ∉ out := by
     intro q
     have := hc.2
     rw [← Bool.not_eq_true, List.contains_iff_mem] at this
     exact this q
    have hu := unseen_lt x out hc.2 U (h.univ x hc.1)
    have hmul : unseen U (out ++ [x]) * (B + 1) + (B + 1) ≤ unseen U out * (B + 1) := by
     have := Nat.mul_le_mul_right (B + 1) hu
     rw [Nat.add_mul, Nat.one_mul] at this
     exact this
    obtain ⟨r, hr, cr⟩ := ih (tk ++ near x) (out ++ [x]) (by rw [List.length_append]; omega) (by omega) (by rw [List.length_append, List.length_singleton]; omega) (fun y hy => by
     rcases List.mem_append.mp hy with hy | hy
     ·exact hi y hy
     ·rw [List.mem_singleton.mp hy]; exact hc.1) (List.nodup_append.mpr ⟨hn, by simp, fun a ha b hb e => hxo (by rw [List.mem_singleton] at hb; rw [← hb, ← e]; exact ha)⟩)
    refine ⟨r, fun k hk => ?_, ⟨fun y hy => cr.had y (List.mem_append_left _ hy), fun y hy hF => ?_, fun hs => ?_, cr.is, cr.nodup, fun y hy => ?_, fun T h1 h2 h3 => ?_, cr.len⟩⟩
    ·obtain ⟨k, rfl⟩ : ∃ q, k = q + 1 := ⟨k - 1, by omega⟩
     unfold reachQ
     rw [if_pos hp, et, ← hx, ← htk, if_pos hc, Option.bind_some, if_pos ⟨by unfold LIMR; omega, by unfold LIMR; omega⟩]
     exact hr k (by omega)
    ·rcases (hmem y).mp hy with hy | hy
     ·exact cr.root y (List.mem_append_left _ hy) hF
     ·rw [hy]; exact cr.had x (by simp)
    ·refine cr.shut (fun y hy z hz => ?_)
     rcases List.mem_append.mp hy with hy | hy
     ·rcases hs y hy z hz with q | q
      ·exact .inl (List.mem_append_left _ q)
      ·rcases (hmem z).mp q with q | q
       ·exact .inr (List.mem_append_left _ q)
       ·rw [q]; exact .inl (by simp)
     ·rw [List.mem_singleton.mp hy] at hz
      exact .inr (List.mem_append_right _ hz)
    ·rcases cr.led y hy with q | q | q
     ·rcases List.mem_append.mp q with q | q
      ·exact .inl q
      ·rw [List.mem_singleton.mp q]; exact .inr (.inl ((hmem x).mpr (.inr rfl)))
     ·rcases List.mem_append.mp q with q | q
      ·exact .inr (.inl ((hmem y).mpr (.inl q)))
      ·exact .inr (.inr ⟨x, cr.had x (by simp), q⟩)
     ·exact .inr (.inr q)
    ·have hTx : T x := h2 x ((hmem x).mpr (.inr rfl)) hc.1
     refine cr.least T (fun y hy => ?_) (fun y hy hF => ?_) h3
     ·rcases List.mem_append.mp hy with hy | hy
      ·exact h1 y hy
      ·rw [List.mem_singleton.mp hy]; exact hTx
     ·rcases List.mem_append.mp hy with hy | hy
      ·exact h2 y ((hmem y).mpr (.inl hy)) hF
      ·exact h3 x hTx hc.1 y hy
   ·obtain ⟨r, hr, cr⟩ := ih tk out (by omega) (by omega) hl hi hn
    have hxr : isF x = true → x ∈ out := fun hF => by
     have h1 : out.contains x ≠ false := fun q => hc ⟨hF, q⟩
     exact List.contains_iff_mem.mp (by simpa using h1)
    refine ⟨r, fun k hk => ?_, ⟨cr.had, fun y hy hF => ?_, fun hs => ?_, cr.is, cr.nodup, fun y hy => ?_, fun T h1 h2 h3 => ?_, cr.len⟩⟩
    ·obtain ⟨k, rfl⟩ : ∃ q, k = q + 1 := ⟨k - 1, by omega⟩
     unfold reachQ
     rw [if_pos hp, et, ← hx, ← htk, if_neg hc]
     exact hr k (by omega)
    ·rcases (hmem y).mp hy with hy | hy
     ·exact cr.root y hy hF
     ·rw [hy] at hF ⊢; exact cr.had x (hxr hF)
    ·refine cr.shut (fun y hy z hz => ?_)
     rcases hs y hy z hz with q | q
     ·exact .inl q
     ·rcases (hmem z).mp q with q | q
      ·exact .inr q
      ·rw [q]; exact .inl (hxr (by rw [← q]; exact (h.near y (hi y hy)).2 z hz))
    ·rcases cr.led y hy with q | q | q
     ·exact .inl q
     ·exact .inr (.inl ((hmem y).mpr (.inl q)))
     ·exact .inr (.inr q)
    ·exact cr.least T h1 (fun y hy hF => h2 y ((hmem y).mpr (.inl hy)) hF) h3
  ·have h0 : todo = [] := List.eq_nil_of_length_eq_zero (by omega)
   subst h0
   refine ⟨out, fun k hk => ?_, ⟨fun x hx => hx, fun x hx => absurd hx (by simp), fun hs x hx y hy => (hs x hx y hy).resolve_right (by simp), hi, hn, fun x hx => .inl hx, fun T h1 _ _ x hx => h1 x hx, by omega⟩⟩
   obtain ⟨k, rfl⟩ : ∃ q, k = q + 1 := ⟨k - 1, by omega⟩
   unfold reachQ
   rw [if_neg (by simp)]
/-- In order, each once. -/
theorem sort_up {l : List Int} (h : l.Nodup) : (l.mergeSort fun x y => decide (x ≤ y)).Pairwise (· < ·) := by
 have h1 := List.pairwise_mergeSort (le := fun x y : Int => decide (x ≤ y)) (fun a b c h1 h2 => by simp at h1 h2 ⊢; omega) (fun a b => by simp; omega) l
 have h2 : (l.mergeSort fun x y => decide (x ≤ y)).Pairwise (· ≠ ·) := (List.mergeSort_perm l _).nodup_iff.mpr h
 exact (h1.and h2).imp (fun {a b} q => by
  have := of_decide_eq_true q.1
  have := q.2
  omega)
/-- The numbers from 1 on. -/
def upTo (n : Nat) : List Int := (List.range n).map fun i : Nat => (i : Int) + 1
theorem upTo_mem {L : List (Int × List Int)} (x : Int) (h : isO L x = true) : x ∈ upTo L.length := by
 have h1 := of_decide_eq_true h
 exact List.mem_map.mpr ⟨(x - 1).toNat, List.mem_range.mpr (by omega), by omega⟩
end Go.Proofs.Ytonmlncejikbiaa.Q
namespace Go.Proofs.Ytonmlncejikbiaa.Q
open Go.RowKit Go.Proofs.YtonmlncejikbiaaW.PrintWords Go.Proofs.YtonmlncejikbiaaW.PrintLast Go.Proofs.YtonmlncejikbiaaW.PrintMore
attribute [local go_sem] max2_int min2_int max_two min_two max_three min_three max_four min_four   -- for this text's walks alone
set_option linter.unusedVariables false
set_option linter.unusedSimpArgs false
/-! ### truantref03_Find: function 19 -/
def truantref03_Find.l0 : Nat → List (S43) → ByteArray → Int → Option (Int)
 | 0, _, _, _ => none
 | k + 1, x0, x1, x5 => if x5 < (x0.length : Int) then (if 0 ≤ x5 then (if ((rd_T43 x0 x5).f0).toList = x1.toList then (some x5) else (truantref03_Find.l0 k x0 x1 (wrap64 (x5 + 1)))) else (none)) else (some (-1))
def truantref03_Find.f (k : Nat) (l0 : List (S43)) (a1 : ByteArray) : Option (Int) := truantref03_Find.l0 k l0 a1 0
theorem truantref03_Find.mono_l : ∀ k, (∀ y0 y1 y2, LeO (truantref03_Find.l0 k y0 y1 y2) (truantref03_Find.l0 (k + 1) y0 y1 y2))
 | 0 => fun _ _ _ r h => by simp [truantref03_Find.l0] at h
 | k + 1 => by
  have ih0 := truantref03_Find.mono_l k
  ·intro y0 y1 y2
   unfold truantref03_Find.l0
   repeat' first
   | (with_reducible exact ih0 _ _ _)
   | (with_reducible exact LeO.refl _)
   | (with_reducible exact LeO.none _)
   | (with_reducible refine LeO.ite ?_ ?_)
   | (with_reducible refine LeO.bind ?_ (fun _ => ?_))
   | exact ih0 _ _ _
   | exact LeO.none _
   | refine LeO.ite ?_ ?_
   | refine LeO.bind ?_ (fun _ => ?_)
theorem truantref03_Find.mono : ∀ a0 a1 k, LeO (truantref03_Find.f k a0 a1) (truantref03_Find.f (k + 1) a0 a1) := by
 intro a0 a1 k
 have ih0 := truantref03_Find.mono_l k
 unfold truantref03_Find.f
 repeat' first
   | (with_reducible exact ih0 _ _ _)
   | (with_reducible exact LeO.refl _)
   | (with_reducible exact LeO.none _)
   | (with_reducible refine LeO.ite ?_ ?_)
   | (with_reducible refine LeO.bind ?_ (fun _ => ?_))
   | exact ih0 _ _ _
   | exact LeO.none _
   | refine LeO.ite ?_ ?_
   | refine LeO.bind ?_ (fun _ => ?_)
set_option maxHeartbeats 8000000 in
set_option maxRecDepth 100000 in
theorem truantref03_Find.calls (k : Nat) (A0 : Option Addr) (c0 : Nat) (l0 : List (S43)) (a1 : ByteArray) (r : Int) (w : World) (hr0 : Kd.C k43 w A0 l0.length l0) (hc0 : l0.length ≤ c0) (h : truantref03_Find.f k l0 a1 = some r) :
  Calls Try.prog 19 #[.slice A0 l0.length c0, .string a1] w fun e w' => e = .returned (.int .i64 r) ∧ Drawn0 w w' := by
 have HR0 := Aside0.mk hr0
 have HC0 := Aside0.mk hc0
 clear hr0 hc0
 have H : (truantref03_Find.l0 k l0 a1 0) = some r := h
 clear h
 have H' := Aside0.mk H
 clear H
 go_enter Try.func19, Try.ntmps19
 go_wp2
 go_loopg [5] k (fun kq v5 w' => ∃ (x5_1 : Int), v5 = .int .i64 x5_1 ∧ Aside0 (truantref03_Find.l0 kq l0 a1 x5_1 = some r) ∧ Aside0 (kq ≤ k) ∧ Drawn0 w w')
 case atStart => exact ⟨(0), (by first | rfl | (simp; done) | (simp [*]; done)), H', ⟨Nat.le_refl _⟩, by repeat (first | exact Drawn0.refl _ | apply Drawn0.step)⟩
 case round =>
  clear H'
  try clear c1
  try clear p2
  obtain ⟨x5_1, rfl, HA, HK1, ⟨m1, rfl⟩⟩ := hrel
  cases gk with
  | zero => exact absurd HA.out (by simp [truantref03_Find.l0])
  | succ k1 =>
   have H := HA.out
   clear HA
   simp only [truantref03_Find.l0] at H
   by_cases c3 : x5_1 < (l0.length : Int)
   ·rw [if_pos c3] at H
    have c3b0 : decide (x5_1 < (l0.length : Int)) = true := decide_eq_true c3
    clear c3
    by_cases c4 : 0 ≤ x5_1
    ·rw [if_pos c4] at H
     have c4b0 : decide (0 ≤ x5_1) = true := decide_eq_true c4
     clear c4
     by_cases c5 : ((rd_T43 l0 x5_1).f0).toList = a1.toList
     ·rw [if_pos c5] at H
      have c5b0 : (((rd_T43 l0 x5_1).f0).toList == a1.toList) = true := beq_iff_eq.mpr c5
      have c5b1 : (((rd_T43 l0 x5_1).f0).toList != a1.toList) = false := bne_eq_false_iff_eq.mpr c5
      clear c5
      obtain rfl := Option.some.inj H
      have p101 : 0 ≤ (x5_1 : Int) := of_decide_eq_true (by first | (with_reducible assumption) | assumption)
      have q101 : x5_1 < (l0.length : Int) := of_decide_eq_true (by first | (with_reducible assumption) | assumption)
      obtain ⟨ad101, A101_1, c101_1, e101, hx101_0, hx101_1, hl101_1, hi101_1⟩ := at_T43 HR0.out x5_1 p101 q101
      cases e101
      have HR101_1 := Aside0.mk hi101_1
      have HC101_1 := Aside0.mk hl101_1
      clear hi101_1 hl101_1
      replace p101 := eq_true p101
      replace q101 := eq_true q101
      go_wp2
      go_ret
      exact ⟨by first | rfl | (simp; done) | (simp [*]; done), by repeat (first | exact Drawn0.refl _ | apply Drawn0.step)⟩
     ·rw [if_neg c5] at H
      have c5b0 : (((rd_T43 l0 x5_1).f0).toList == a1.toList) = false := beq_eq_false_iff_ne.mpr c5
      have c5b1 : (((rd_T43 l0 x5_1).f0).toList != a1.toList) = true := bne_iff_ne.mpr c5
      have H' := Aside0.mk H
      clear H
      have p101 : 0 ≤ (x5_1 : Int) := of_decide_eq_true (by first | (with_reducible assumption) | assumption)
      have q101 : x5_1 < (l0.length : Int) := of_decide_eq_true (by first | (with_reducible assumption) | assumption)
      obtain ⟨ad101, A101_1, c101_1, e101, hx101_0, hx101_1, hl101_1, hi101_1⟩ := at_T43 HR0.out x5_1 p101 q101
      cases e101
      have HR101_1 := Aside0.mk hi101_1
      have HC101_1 := Aside0.mk hl101_1
      clear hi101_1 hl101_1
      replace p101 := eq_true p101
      replace q101 := eq_true q101
      go_wp2
      go_roundg k1
      case measure => have := HK1.out; omega
      case rel => exact ⟨(wrap64 (x5_1 + 1)), (by first | rfl | (simp; done) | (simp [*]; done)), H', ⟨by have := HK1.out; omega⟩, by repeat (first | exact Drawn0.refl _ | apply Drawn0.step)⟩
    ·rw [if_neg c4] at H
     exact absurd H (by simp)
   ·rw [if_neg c3] at H
    have c3b0 : decide (x5_1 < (l0.length : Int)) = false := decide_eq_false c3
    clear c3
    obtain rfl := Option.some.inj H
    go_wp2
    go_ret
    exact ⟨by first | rfl | (simp; done) | (simp [*]; done), by repeat (first | exact Drawn0.refl _ | apply Drawn0.step)⟩
/-! ### truantref02_letter: function 95 -/
def truantref02_letter.f (a0 : Int) : Option (Bool) := if a0 ≥ 97 then (if a0 ≤ 122 then (some true) else (if a0 ≥ 65 then (if a0 ≤ 90 then (some true) else (some (a0 == 95))) else (some (a0 == 95)))) else (if a0 ≥ 65 then (if a0 ≤ 90 then (some true) else (some (a0 == 95))) else (some (a0 == 95)))
set_option maxHeartbeats 8000000 in
set_option maxRecDepth 100000 in
theorem truantref02_letter.calls (a0 : Int) (r : Bool) (w : World) (h : truantref02_letter.f a0 = some r) :
  Calls Try.prog 95 #[.int .u8 a0] w fun e w' => e = .returned (.bool r) ∧ Drawn0 w w' := by
 have H : (if a0 ≥ 97 then (if a0 ≤ 122 then (some true) else (if a0 ≥ 65 then (if a0 ≤ 90 then (some true) else (some (a0 == 95))) else (some (a0 == 95)))) else (if a0 ≥ 65 then (if a0 ≤ 90 then (some true) else (some (a0 == 95))) else (some (a0 == 95)))) = some r := h
 clear h
 by_cases c2 : a0 ≥ 97
 ·rw [if_pos c2] at H
  have c2b0 : decide (97 ≤ a0) = true := decide_eq_true c2
  clear c2
  by_cases c3 : a0 ≤ 122
  ·rw [if_pos c3] at H
   have c3b0 : decide (a0 ≤ 122) = true := decide_eq_true c3
   clear c3
   obtain rfl := Option.some.inj H
   go_enter Try.func95, Try.ntmps95
   go_wp2
   go_ret
   exact ⟨by first | rfl | (simp; done) | (simp [*]; done), by repeat (first | exact Drawn0.refl _ | apply Drawn0.step)⟩
  ·rw [if_neg c3] at H
   have c3b0 : decide (a0 ≤ 122) = false := decide_eq_false c3
   clear c3
   by_cases c4 : a0 ≥ 65
   ·rw [if_pos c4] at H
    have c4b0 : decide (65 ≤ a0) = true := decide_eq_true c4
    clear c4
    by_cases c5 : a0 ≤ 90
    ·rw [if_pos c5] at H
     have c5b0 : decide (a0 ≤ 90) = true := decide_eq_true c5
     clear c5
     obtain rfl := Option.some.inj H
     go_enter Try.func95, Try.ntmps95
     go_wp2
     go_ret
     exact ⟨by first | rfl | (simp; done) | (simp [*]; done), by repeat (first | exact Drawn0.refl _ | apply Drawn0.step)⟩
    ·rw [if_neg c5] at H
     have c5b0 : decide (a0 ≤ 90) = false := decide_eq_false c5
     clear c5
     obtain rfl := Option.some.inj H
     go_enter Try.func95, Try.ntmps95
     go_wp2
     go_ret
     exact ⟨by first | rfl | (simp; done) | (simp [*]; done), by repeat (first | exact Drawn0.refl _ | apply Drawn0.step)⟩
   ·rw [if_neg c4] at H
    have c4b0 : decide (65 ≤ a0) = false := decide_eq_false c4
    clear c4
    obtain rfl := Option.some.inj H
    go_enter Try.func95, Try.ntmps95
    go_wp2
    go_ret
    exact ⟨by first | rfl | (simp; done) | (simp [*]; done), by repeat (first | exact Drawn0.refl _ | apply Drawn0.step)⟩
 ·rw [if_neg c2] at H
  have c2b0 : decide (97 ≤ a0) = false := decide_eq_false c2
  clear c2
  by_cases c6 : a0 ≥ 65
  ·rw [if_pos c6] at H
   have c6b0 : decide (65 ≤ a0) = true := decide_eq_true c6
   clear c6
   by_cases c7 : a0 ≤ 90
   ·rw [if_pos c7] at H
    have c7b0 : decide (a0 ≤ 90) = true := decide_eq_true c7
    clear c7
    obtain rfl := Option.some.inj H
    go_enter Try.func95, Try.ntmps95
    go_wp2
    go_ret
    exact ⟨by first | rfl | (simp; done) | (simp [*]; done), by repeat (first | exact Drawn0.refl _ | apply Drawn0.step)⟩
   ·rw [if_neg c7] at H
    have c7b0 : decide (a0 ≤ 90) = false := decide_eq_false c7
    clear c7
    obtain rfl := Option.some.inj H
    go_enter Try.func95, Try.ntmps95
    go_wp2
    go_ret
    exact ⟨by first | rfl | (simp; done) | (simp [*]; done), by repeat (first | exact Drawn0.refl _ | apply Drawn0.step)⟩
  ·rw [if_neg c6] at H
   have c6b0 : decide (65 ≤ a0) = false := decide_eq_false c6
   clear c6
   obtain rfl := Option.some.inj H
   go_enter Try.func95, Try.ntmps95
   go_wp2
   go_ret
   exact ⟨by first | rfl | (simp; done) | (simp [*]; done), by repeat (first | exact Drawn0.refl _ | apply Drawn0.step)⟩
/-! ### truantref02_digit: function 97 -/
def truantref02_digit.f (a0 : Int) : Option (Bool) := if a0 ≥ 48 then (some (decide (a0 ≤ 57))) else (some false)
set_option maxHeartbeats 8000000 in
set_option maxRecDepth 100000 in
theorem truantref02_digit.calls (a0 : Int) (r : Bool) (w : World) (h : truantref02_digit.f a0 = some r) :
  Calls Try.prog 97 #[.int .u8 a0] w fun e w' => e = .returned (.bool r) ∧ Drawn0 w w' := by
 have H : (if a0 ≥ 48 then (some (decide (a0 ≤ 57))) else (some false)) = some r := h
 clear h
 by_cases c2 : a0 ≥ 48
 ·rw [if_pos c2] at H
  have c2b0 : decide (48 ≤ a0) = true := decide_eq_true c2
  clear c2
  obtain rfl := Option.some.inj H
  go_enter Try.func97, Try.ntmps97
  go_wp2
  go_ret
  exact ⟨by first | rfl | (simp; done) | (simp [*]; done), by repeat (first | exact Drawn0.refl _ | apply Drawn0.step)⟩
 ·rw [if_neg c2] at H
  have c2b0 : decide (48 ≤ a0) = false := decide_eq_false c2
  clear c2
  obtain rfl := Option.some.inj H
  go_enter Try.func97, Try.ntmps97
  go_wp2
  go_ret
  exact ⟨by first | rfl | (simp; done) | (simp [*]; done), by repeat (first | exact Drawn0.refl _ | apply Drawn0.step)⟩
end Go.Proofs.Ytonmlncejikbiaa.Q
/- 'truantref02.Key': by hand. -/
namespace Go.Proofs.Ytonmlncejikbiaa.Q
open Go.RowKit Go.Proofs.YtonmlncejikbiaaW.PrintWords Go.Proofs.YtonmlncejikbiaaW.PrintLast Go.Proofs.YtonmlncejikbiaaW.PrintMore
set_option linter.unusedVariables false
set_option linter.unusedSimpArgs false
def keyList : List ByteArray := [⟨#[116, 121, 112, 101]⟩, ⟨#[115, 116, 114, 117, 99, 116]⟩, ⟨#[102, 117, 110, 99]⟩, ⟨#[118, 97, 114]⟩, ⟨#[105, 102]⟩, ⟨#[101, 108, 115, 101]⟩, ⟨#[102, 111, 114]⟩, ⟨#[114, 101, 116, 117, 114, 110]⟩, ⟨#[112, 114, 105, 110, 116]⟩, ⟨#[110, 101, 119]⟩, ⟨#[110, 105, 108]⟩, ⟨#[116, 114, 117, 101]⟩, ⟨#[102, 97, 108, 115, 101]⟩, ⟨#[105, 110, 116]⟩, ⟨#[98, 111, 111, 108]⟩, ⟨#[114, 101, 97, 100]⟩]
def keyIs (s k : ByteArray) : Bool := k.toList == s.toList
def truantref02_Key.f (a0 : ByteArray) : Option (Bool) := some (decide (0 ≤ findR (keyIs a0) keyList))
set_option maxHeartbeats 800000 in
theorem truantref02_Key.calls (a0 : ByteArray) (r : Bool) (w : World) (h : truantref02_Key.f a0 = some r) :
  Calls Try.prog 96 #[.string a0] w fun e w' => e = .returned (.bool r) ∧ Below w.heap.size w w' := by
 unfold truantref02_Key.f at h
 have hr := Option.some.inj h
 have HRR := Aside0.mk hr
 clear h hr
 go_enter Try.func96, Try.ntmps96
 go_wp2_with fail
 have HC : Aside0 (∀ k : Nat, k < 16 → (w.alloc (.cells (keyList.map Value.string).toArray 136)).cell? ⟨w.heap.size, k, none⟩ = some (.string (keyList.getD k ⟨#[]⟩))) := ⟨fun k hk => by
  rw [World.cell?_alloc_at _ _ _ _ rfl]
  have h16 : k < keyList.length := hk
  simp [List.getD, List.getElem?_eq_getElem h16]⟩
 have HW : Aside0 (Below w.heap.size w (w.alloc (.cells (keyList.map Value.string).toArray 136))) := ⟨below_alloc (Below.refl _ _) _⟩
 have he : (keyList.map Value.string).toArray = #[.string ⟨#[116, 121, 112, 101]⟩, .string ⟨#[115, 116, 114, 117, 99, 116]⟩, .string ⟨#[102, 117, 110, 99]⟩, .string ⟨#[118, 97, 114]⟩, .string ⟨#[105, 102]⟩, .string ⟨#[101, 108, 115, 101]⟩, .string ⟨#[102, 111, 114]⟩, .string ⟨#[114, 101, 116, 117, 114, 110]⟩, .string ⟨#[112, 114, 105, 110, 116]⟩, .string ⟨#[110, 101, 119]⟩, .string ⟨#[110, 105, 108]⟩, .string ⟨#[116, 114, 117, 101]⟩, .string ⟨#[102, 97, 108, 115, 101]⟩, .string ⟨#[105, 110, 116]⟩, .string ⟨#[98, 111, 111, 108]⟩, .string ⟨#[114, 101, 97, 100]⟩] := rfl
 rw [he] at HC HW
 clear he
 generalize w.alloc _ = W1 at HC HW ⊢
 go_loopw [4] (fun v wr => ∃ k : Nat, v = .int .i64 k ∧ k ≤ 16 ∧ Aside0 (∀ i : Nat, i < k → keyIs a0 (keyList.getD i ⟨#[]⟩) = false) ∧ wr = W1) (fun v _ => 16 - (intOf v).toNat)
 case atStart => exact ⟨0, rfl, by omega, ⟨fun i h => absurd h (Nat.not_lt_zero _)⟩, rfl⟩
 case round =>
  obtain ⟨k, rfl, hk, HA, rfl⟩ := hrel
  by_cases hlt : k < 16
  ·have hc := HC.out k hlt
   obtain ⟨x, ex⟩ : ∃ x, x = keyList.getD k ⟨#[]⟩ := ⟨_, rfl⟩
   rw [← ex] at hc
   have EX := Aside0.mk ex; clear ex
   rcases he : (x.toList == a0.toList) with _ | _
   ·have he2 : ¬ x.toList = a0.toList := beq_eq_false_iff_ne.mp he
    have HA1 : Aside0 (∀ i : Nat, i < k + 1 → keyIs a0 (keyList.getD i ⟨#[]⟩) = false) := ⟨all_succ (P := fun i => keyIs a0 (keyList.getD i ⟨#[]⟩) = false) HA.out (by unfold keyIs; rw [← EX.out]; exact he)⟩
    clear HA EX
    go_wp2
    go_roundw
    case rel => exact ⟨k + 1, by go_num, by omega, HA1, by first | rfl | trivial⟩
    case measure => simp [intOf]; omega
   ·have HF : Aside0 (r = true) := ⟨by rw [← HRR.out, find_last (l := keyList) (z := ⟨#[]⟩) (k := k) hlt HA.out (by unfold keyIs; rw [← EX.out]; exact he)]; exact decide_eq_true (by omega)⟩
    have he2 : x.toList = a0.toList := beq_iff_eq.mp he
    clear EX HA
    go_wp2
    go_ret
    exact ⟨by rw [HF.out]; rfl, HW.out⟩
  ·have HF : Aside0 (r = false) := ⟨by rw [← HRR.out, find_none (l := keyList) (z := ⟨#[]⟩) (fun i hi => HA.out i (by have : keyList.length = 16 := rfl; omega))]; rfl⟩
   go_wp2
   go_ret
   exact ⟨by rw [HF.out]; rfl, HW.out⟩
end Go.Proofs.Ytonmlncejikbiaa.Q
namespace Go.Proofs.Ytonmlncejikbiaa.Q
open Go.RowKit Go.Proofs.YtonmlncejikbiaaW.PrintWords Go.Proofs.YtonmlncejikbiaaW.PrintLast Go.Proofs.YtonmlncejikbiaaW.PrintMore
attribute [local go_sem] max2_int min2_int max_two min_two max_three min_three max_four min_four   -- for this text's walks alone
set_option linter.unusedVariables false
set_option linter.unusedSimpArgs false
/-! ### truantref02_Word: function 70 -/
mutual
def truantref02_Word.j0 : Nat → ByteArray → Bool → Option (Bool)
 | 0, _, _ => none
 | k + 1, x0, x21 => if x21 = true then (some false) else (truantref02_Word.l0 k x0 0)
def truantref02_Word.l0 : Nat → ByteArray → Int → Option (Bool)
 | 0, _, _ => none
 | k + 1, x0, x3 => if x3 < (x0.size : Int) then (if 0 ≤ x3 then ((truantref02_letter.f (bt x0 x3)).bind fun t105 => (if t105 = true then (truantref02_Word.l0 k x0 (wrap64 (x3 + 1))) else ((truantref02_digit.f (bt x0 x3)).bind fun t106 => (if t106 = true then (truantref02_Word.l0 k x0 (wrap64 (x3 + 1))) else (some false))))) else (none)) else (some true)
end
def truantref02_Word.f (k : Nat) (a0 : ByteArray) : Option (Bool) := if (a0.size : Int) = 0 then (truantref02_Word.j0 k a0 true) else (if (a0.size : Int) > 12 then (truantref02_Word.j0 k a0 true) else (if 0 < (a0.size : Int) then ((truantref02_letter.f (bt a0 0)).bind fun t103 => (if t103 = true then ((truantref02_Key.f a0).bind fun t104 => (truantref02_Word.j0 k a0 t104)) else (truantref02_Word.j0 k a0 true))) else (none)))
theorem truantref02_Word.mono_l : ∀ k, (∀ y0 y1, LeO (truantref02_Word.j0 k y0 y1) (truantref02_Word.j0 (k + 1) y0 y1)) ∧ (∀ y0 y1, LeO (truantref02_Word.l0 k y0 y1) (truantref02_Word.l0 (k + 1) y0 y1))
 | 0 => ⟨fun _ _ r h => by simp [truantref02_Word.j0] at h, fun _ _ r h => by simp [truantref02_Word.l0] at h⟩
 | k + 1 => by
  obtain ⟨ih0, ih1⟩ := truantref02_Word.mono_l k
  refine ⟨?_, ?_⟩
  ·intro y0 y1
   unfold truantref02_Word.j0
   repeat' first
   | (with_reducible exact ih0 _ _)
   | (with_reducible exact ih1 _ _)
   | (with_reducible exact LeO.refl _)
   | (with_reducible exact LeO.none _)
   | (with_reducible refine LeO.ite ?_ ?_)
   | (with_reducible refine LeO.bind ?_ (fun _ => ?_))
   | exact ih0 _ _
   | exact ih1 _ _
   | exact LeO.none _
   | refine LeO.ite ?_ ?_
   | refine LeO.bind ?_ (fun _ => ?_)
  ·intro y0 y1
   unfold truantref02_Word.l0
   repeat' first
   | (with_reducible exact ih0 _ _)
   | (with_reducible exact ih1 _ _)
   | (with_reducible exact LeO.refl _)
   | (with_reducible exact LeO.none _)
   | (with_reducible refine LeO.ite ?_ ?_)
   | (with_reducible refine LeO.bind ?_ (fun _ => ?_))
   | exact ih0 _ _
   | exact ih1 _ _
   | exact LeO.none _
   | refine LeO.ite ?_ ?_
   | refine LeO.bind ?_ (fun _ => ?_)
theorem truantref02_Word.mono : ∀ a0 k, LeO (truantref02_Word.f k a0) (truantref02_Word.f (k + 1) a0) := by
 intro a0 k
 obtain ⟨ih0, ih1⟩ := truantref02_Word.mono_l k
 unfold truantref02_Word.f
 repeat' first
   | (with_reducible exact ih0 _ _)
   | (with_reducible exact ih1 _ _)
   | (with_reducible exact LeO.refl _)
   | (with_reducible exact LeO.none _)
   | (with_reducible refine LeO.ite ?_ ?_)
   | (with_reducible refine LeO.bind ?_ (fun _ => ?_))
   | exact ih0 _ _
   | exact ih1 _ _
   | exact LeO.none _
   | refine LeO.ite ?_ ?_
   | refine LeO.bind ?_ (fun _ => ?_)
set_option maxHeartbeats 8000000 in
set_option maxRecDepth 100000 in
theorem truantref02_Word.calls (k : Nat) (a0 : ByteArray) (r : Bool) (w : World) (h : truantref02_Word.f k a0 = some r) :
  Calls Try.prog 70 #[.string a0] w fun e w' => e = .returned (.bool r) ∧ Below w.heap.size w w' := by
 have HB := Aside0.mk (Below.refl w.heap.size w)
 have H : (if (a0.size : Int) = 0 then (truantref02_Word.j0 k a0 true) else (if (a0.size : Int) > 12 then (truantref02_Word.j0 k a0 true) else (if 0 < (a0.size : Int) then ((truantref02_letter.f (bt a0 0)).bind fun t103 => (if t103 = true then ((truantref02_Key.f a0).bind fun t104 => (truantref02_Word.j0 k a0 t104)) else (truantref02_Word.j0 k a0 true))) else (none)))) = some r := h
 clear h
 have HC2 := Aside0.mk H
 clear H
 go_enter Try.func70, Try.ntmps70
 go_upto_region 1 with (fail)
 go_cut [21] (fun v21 wc => ∃ (kq : Nat) (x21_1 : Bool), v21 = .bool x21_1 ∧ Aside0 (truantref02_Word.j0 kq a0 x21_1 = some r) ∧ Aside0 (kq ≤ k) ∧ Aside0 (Below w.heap.size w wc))
 case first =>
  have H := HC2.out
  clear HC2
  by_cases c3 : (a0.size : Int) = 0
  ·rw [if_pos c3] at H
   have c3b0 : ((a0.size : Int) == 0) = true := beq_iff_eq.mpr c3
   have c3b1 : ((a0.size : Int) != 0) = false := bne_eq_false_iff_eq.mpr c3
   clear c3
   (first | rw [c3b0] | rw [c3b1] | rw [c3b4] | (simp only [i64_w, i32_w]; rw [c3b0]) | skip)
   have H' := Aside0.mk H
   clear H
   go_wp2
   go_meet
   case rel => exact ⟨_, (true), (by first | rfl | (simp; done) | (simp [*]; done)), H', ⟨by first | omega | exact Nat.le_refl _⟩, ⟨by repeat (first | (with_reducible first | exact HB.out | apply below_alloc | apply pw_below_drewN | apply below_drew1) | exact HB.out)⟩⟩
  ·rw [if_neg c3] at H
   have c3b0 : ((a0.size : Int) == 0) = false := beq_eq_false_iff_ne.mpr c3
   have c3b1 : ((a0.size : Int) != 0) = true := bne_iff_ne.mpr c3
   (first | rw [c3b0] | rw [c3b1] | rw [c3b4] | (simp only [i64_w, i32_w]; rw [c3b0]) | skip)
   by_cases c4 : (a0.size : Int) > 12
   ·rw [if_pos c4] at H
    have c4b0 : decide (12 < (a0.size : Int)) = true := decide_eq_true c4
    have c4b1 : decide (12 < a0.size) = true := decide_eq_true (by omega)
    clear c4
    have H' := Aside0.mk H
    clear H
    go_wp2
    go_meet
    case rel => exact ⟨_, (true), (by first | rfl | (simp; done) | (simp [*]; done)), H', ⟨by first | omega | exact Nat.le_refl _⟩, ⟨by repeat (first | (with_reducible first | exact HB.out | apply below_alloc | apply pw_below_drewN | apply below_drew1) | exact HB.out)⟩⟩
   ·rw [if_neg c4] at H
    have c4b0 : decide (12 < (a0.size : Int)) = false := decide_eq_false c4
    have c4b1 : decide (12 < a0.size) = false := decide_eq_false (by omega)
    clear c4
    by_cases c5 : 0 < (a0.size : Int)
    ·rw [if_pos c5] at H
     have c5b0 : decide (0 < (a0.size : Int)) = true := decide_eq_true c5
     have c5b1 : decide (0 < a0.size) = true := decide_eq_true (by omega)
     clear c5
     replace H := Option.bind_eq_some_iff.mp H
     obtain ⟨t103, A70, H⟩ := H
     replace H : (if t103 = true then ((truantref02_Key.f a0).bind fun t104 => (truantref02_Word.j0 k a0 t104)) else (truantref02_Word.j0 k a0 true)) = some r := H
     have A7 := Aside0.mk A70
     clear A70
     by_cases c8 : t103 = true
     ·subst c8
      have H1 : ((truantref02_Key.f a0).bind fun t104 => (truantref02_Word.j0 k a0 t104)) = some r := by rw [if_pos rfl] at H; exact H
      clear H
      have H := H1
      clear H1
      replace H := Option.bind_eq_some_iff.mp H
      obtain ⟨t104, A90, H⟩ := H
      replace H : (truantref02_Word.j0 k a0 t104) = some r := H
      have A9 := Aside0.mk A90
      clear A90
      have H' := Aside0.mk H
      clear H
      have p6 : 0 ≤ (0 : Int) := (by omega)
      have q6 : 0 < a0.size := (by have : (0 : Int) < (a0.size : Int) := of_decide_eq_true (by first | (with_reducible assumption) | assumption); omega)
      have hx6 : ∀ h : 0 < a0.size, ((a0[0]'h).toNat : Int) = bt a0 0 := bt_at a0 0
      clear p6
      have qi6 : (0 < (a0.size : Int)) = True := eq_true (of_decide_eq_true (by first | (with_reducible assumption) | assumption))
      replace q6 := eq_true q6
      go_wp2_with (first | (go_at_call 95; (with_reducible refine (truantref02_letter.calls (bt a0 0) true _ A7.out).mono ?_); rintro e w' ⟨rfl, ⟨nd, rfl⟩⟩) | (go_at_call 96; (with_reducible refine (truantref02_Key.calls a0 t104 _ A9.out).mono ?_); rintro e w10 ⟨rfl, hb⟩; have n0_ := Aside0.mk (below_step (by repeat (first | (with_reducible first | exact HB.out | apply below_alloc | apply pw_below_drewN | apply below_drew1) | exact HB.out)) hb); clear HB; have HB := n0_; clear n0_; (try clear hb); (try clear hb2); (try clear hk); (try clear hi)))
      go_meet
      case rel => exact ⟨_, (t104), (by first | rfl | (simp; done) | (simp [*]; done)), H', ⟨by first | omega | exact Nat.le_refl _⟩, ⟨by repeat (first | (with_reducible first | exact HB.out | apply below_alloc | apply pw_below_drewN | apply below_drew1) | exact HB.out)⟩⟩
     ·replace c8 := Bool.eq_false_iff.mpr c8
      subst c8
      have H1 : (truantref02_Word.j0 k a0 true) = some r := by rw [if_neg (show ¬ (false = true) by decide)] at H; exact H
      clear H
      have H := H1
      clear H1
      have H' := Aside0.mk H
      clear H
      have p6 : 0 ≤ (0 : Int) := (by omega)
      have q6 : 0 < a0.size := (by have : (0 : Int) < (a0.size : Int) := of_decide_eq_true (by first | (with_reducible assumption) | assumption); omega)
      have hx6 : ∀ h : 0 < a0.size, ((a0[0]'h).toNat : Int) = bt a0 0 := bt_at a0 0
      clear p6
      have qi6 : (0 < (a0.size : Int)) = True := eq_true (of_decide_eq_true (by first | (with_reducible assumption) | assumption))
      replace q6 := eq_true q6
      go_wp2_with (first | (go_at_call 95; (with_reducible refine (truantref02_letter.calls (bt a0 0) false _ A7.out).mono ?_); rintro e w' ⟨rfl, ⟨nd, rfl⟩⟩))
      go_meet
      case rel => exact ⟨_, (true), (by first | rfl | (simp; done) | (simp [*]; done)), H', ⟨by first | omega | exact Nat.le_refl _⟩, ⟨by repeat (first | (with_reducible first | exact HB.out | apply below_alloc | apply pw_below_drewN | apply below_drew1) | exact HB.out)⟩⟩
    ·rw [if_neg c5] at H
     exact absurd H (by simp)
 case rest =>
  clear HC2
  try clear p2
  try clear c3
  try clear c3b0
  try clear c3b1
  try clear c4
  try clear c4b0
  try clear c4b1
  try clear c5
  try clear c5b0
  try clear c5b1
  try clear p6
  try clear q6
  try clear hx6
  try clear qi6
  try clear c7
  try clear c8
  try clear p6
  try clear q6
  obtain ⟨kq, x21_1, rfl, HA, HJ1, HB⟩ := hcut
  cases kq with
  | zero => exact absurd HA.out (by simp [truantref02_Word.j0])
  | succ kj1 =>
   have H := HA.out
   clear HA
   simp only [truantref02_Word.j0] at H
   by_cases c11 : x21_1 = true
   ·subst c11
    have H1 : (some false) = some r := by rw [if_pos rfl] at H; exact H
    clear H
    have H := H1
    clear H1
    obtain rfl := Option.some.inj H
    go_wp2
    go_ret
    exact ⟨by first | rfl | (simp [errW_none, errW_some] <;> rfl) | (simp [*, errW_none, errW_some] <;> rfl), by repeat (first | (with_reducible first | exact HB.out | apply below_alloc | apply pw_below_drewN | apply below_drew1) | exact HB.out)⟩
   ·replace c11 := Bool.eq_false_iff.mpr c11
    subst c11
    have H1 : (truantref02_Word.l0 kj1 a0 0) = some r := by rw [if_neg (show ¬ (false = true) by decide)] at H; exact H
    clear H
    have H := H1
    clear H1
    have H' := Aside0.mk H
    clear H
    go_wp2
    go_loopg [3] kj1 (fun kq v3 w' => ∃ (x3_2 : Int), v3 = .int .i64 x3_2 ∧ Aside0 (truantref02_Word.l0 kq a0 x3_2 = some r) ∧ Aside0 (kq ≤ kj1) ∧ Aside0 (Below w.heap.size w w'))
    case atStart => exact ⟨(0), (by first | rfl | (simp; done) | (simp [*]; done)), H', ⟨Nat.le_refl _⟩, ⟨by repeat (first | (with_reducible first | exact HB.out | apply below_alloc | apply pw_below_drewN | apply below_drew1) | exact HB.out)⟩⟩
    case round =>
     clear H'
     try clear c1
     try clear p2
     try clear c3
     try clear c3b0
     try clear c3b1
     try clear c4
     try clear c4b0
     try clear c4b1
     try clear c5
     try clear c5b0
     try clear c5b1
     try clear p6
     try clear q6
     try clear hx6
     try clear qi6
     try clear c7
     try clear c8
     try clear c11
     try clear p2
     try clear p6
     try clear q6
     obtain ⟨x3_2, rfl, HA, HK2, HB⟩ := hrel
     cases gk with
     | zero => exact absurd HA.out (by simp [truantref02_Word.l0])
     | succ k2 =>
      have H := HA.out
      clear HA
      simp only [truantref02_Word.l0] at H
      by_cases c12 : x3_2 < (a0.size : Int)
      ·rw [if_pos c12] at H
       have c12b0 : decide (x3_2 < (a0.size : Int)) = true := decide_eq_true c12
       clear c12
       by_cases c13 : 0 ≤ x3_2
       ·rw [if_pos c13] at H
        have c13b0 : decide (0 ≤ x3_2) = true := decide_eq_true c13
        clear c13
        replace H := Option.bind_eq_some_iff.mp H
        obtain ⟨t105, A150, H⟩ := H
        replace H : (if t105 = true then (truantref02_Word.l0 k2 a0 (wrap64 (x3_2 + 1))) else ((truantref02_digit.f (bt a0 x3_2)).bind fun t106 => (if t106 = true then (truantref02_Word.l0 k2 a0 (wrap64 (x3_2 + 1))) else (some false)))) = some r := H
        have A15 := Aside0.mk A150
        clear A150
        by_cases c16 : t105 = true
        ·subst c16
         have H1 : (truantref02_Word.l0 k2 a0 (wrap64 (x3_2 + 1))) = some r := by rw [if_pos rfl] at H; exact H
         clear H
         have H := H1
         clear H1
         have H' := Aside0.mk H
         clear H
         have p14 : 0 ≤ (x3_2 : Int) := of_decide_eq_true (by first | (with_reducible assumption) | assumption)
         have q14 : x3_2 < (a0.size : Int) := of_decide_eq_true (by first | (with_reducible assumption) | assumption)
         have hx14 := bt_at a0 x3_2
         replace p14 := eq_true p14
         replace q14 := eq_true q14
         go_wp2_with (first | ((with_reducible refine gate_callee (f := 95) rfl ?_); refine goesL_ (some 31) rfl rfl Try.func95 (by kernel_rfl) rfl #[.int .u8 (bt a0 x3_2)] rfl (by (try simp only [List.map_toArray, List.map_cons, List.map_nil]); first | done | rfl | (simp only [List.length_drop, List.length_take]; rfl)) ?_; (with_reducible refine (truantref02_letter.calls (bt a0 x3_2) true _ A15.out).mono ?_); rintro e w' ⟨rfl, ⟨nd, rfl⟩⟩; refine ⟨_, rfl, ?_⟩))
         go_roundg k2
         case measure => have := HJ1.out; have := HK2.out; omega
         case rel => exact ⟨(wrap64 (x3_2 + 1)), (by first | rfl | (simp; done) | (simp [*]; done)), H', ⟨by have := HJ1.out; have := HK2.out; omega⟩, ⟨by repeat (first | (with_reducible first | exact HB.out | apply below_alloc | apply pw_below_drewN | apply below_drew1) | exact HB.out)⟩⟩
        ·replace c16 := Bool.eq_false_iff.mpr c16
         subst c16
         have H1 : ((truantref02_digit.f (bt a0 x3_2)).bind fun t106 => (if t106 = true then (truantref02_Word.l0 k2 a0 (wrap64 (x3_2 + 1))) else (some false))) = some r := by rw [if_neg (show ¬ (false = true) by decide)] at H; exact H
         clear H
         have H := H1
         clear H1
         replace H := Option.bind_eq_some_iff.mp H
         obtain ⟨t106, A180, H⟩ := H
         replace H : (if t106 = true then (truantref02_Word.l0 k2 a0 (wrap64 (x3_2 + 1))) else (some false)) = some r := H
         have A18 := Aside0.mk A180
         clear A180
         by_cases c19 : t106 = true
         ·subst c19
          have H1 : (truantref02_Word.l0 k2 a0 (wrap64 (x3_2 + 1))) = some r := by rw [if_pos rfl] at H; exact H
          clear H
          have H := H1
          clear H1
          have H' := Aside0.mk H
          clear H
          have p14 : 0 ≤ (x3_2 : Int) := of_decide_eq_true (by first | (with_reducible assumption) | assumption)
          have q14 : x3_2 < (a0.size : Int) := of_decide_eq_true (by first | (with_reducible assumption) | assumption)
          have hx14 := bt_at a0 x3_2
          replace p14 := eq_true p14
          replace q14 := eq_true q14
          go_wp2_with (first | ((with_reducible refine gate_callee (f := 95) rfl ?_); refine goesL_ (some 31) rfl rfl Try.func95 (by kernel_rfl) rfl #[.int .u8 (bt a0 x3_2)] rfl (by (try simp only [List.map_toArray, List.map_cons, List.map_nil]); first | done | rfl | (simp only [List.length_drop, List.length_take]; rfl)) ?_; (with_reducible refine (truantref02_letter.calls (bt a0 x3_2) false _ A15.out).mono ?_); rintro e w' ⟨rfl, ⟨nd, rfl⟩⟩; refine ⟨_, rfl, ?_⟩; have p17 : 0 ≤ (x3_2 : Int) := of_decide_eq_true (by first | (with_reducible assumption) | assumption); have q17 : x3_2 < (a0.size : Int) := of_decide_eq_true (by first | (with_reducible assumption) | assumption); have hx17 := bt_at a0 x3_2; replace p17 := eq_true p17; replace q17 := eq_true q17) | (go_at_call 97; (with_reducible refine (truantref02_digit.calls (bt a0 x3_2) true _ A18.out).mono ?_); rintro e w' ⟨rfl, ⟨nd, rfl⟩⟩))
          go_roundg k2
          case measure => have := HJ1.out; have := HK2.out; omega
          case rel => exact ⟨(wrap64 (x3_2 + 1)), (by first | rfl | (simp; done) | (simp [*]; done)), H', ⟨by have := HJ1.out; have := HK2.out; omega⟩, ⟨by repeat (first | (with_reducible first | exact HB.out | apply below_alloc | apply pw_below_drewN | apply below_drew1) | exact HB.out)⟩⟩
         ·replace c19 := Bool.eq_false_iff.mpr c19
          subst c19
          have H1 : (some false) = some r := by rw [if_neg (show ¬ (false = true) by decide)] at H; exact H
          clear H
          have H := H1
          clear H1
          obtain rfl := Option.some.inj H
          have p14 : 0 ≤ (x3_2 : Int) := of_decide_eq_true (by first | (with_reducible assumption) | assumption)
          have q14 : x3_2 < (a0.size : Int) := of_decide_eq_true (by first | (with_reducible assumption) | assumption)
          have hx14 := bt_at a0 x3_2
          replace p14 := eq_true p14
          replace q14 := eq_true q14
          go_wp2_with (first | ((with_reducible refine gate_callee (f := 95) rfl ?_); refine goesL_ (some 31) rfl rfl Try.func95 (by kernel_rfl) rfl #[.int .u8 (bt a0 x3_2)] rfl (by (try simp only [List.map_toArray, List.map_cons, List.map_nil]); first | done | rfl | (simp only [List.length_drop, List.length_take]; rfl)) ?_; (with_reducible refine (truantref02_letter.calls (bt a0 x3_2) false _ A15.out).mono ?_); rintro e w' ⟨rfl, ⟨nd, rfl⟩⟩; refine ⟨_, rfl, ?_⟩; have p17 : 0 ≤ (x3_2 : Int) := of_decide_eq_true (by first | (with_reducible assumption) | assumption); have q17 : x3_2 < (a0.size : Int) := of_decide_eq_true (by first | (with_reducible assumption) | assumption); have hx17 := bt_at a0 x3_2; replace p17 := eq_true p17; replace q17 := eq_true q17) | (go_at_call 97; (with_reducible refine (truantref02_digit.calls (bt a0 x3_2) false _ A18.out).mono ?_); rintro e w' ⟨rfl, ⟨nd, rfl⟩⟩))
          go_ret
          exact ⟨by first | rfl | (simp [errW_none, errW_some] <;> rfl) | (simp [*, errW_none, errW_some] <;> rfl), by repeat (first | (with_reducible first | exact HB.out | apply below_alloc | apply pw_below_drewN | apply below_drew1) | exact HB.out)⟩
       ·rw [if_neg c13] at H
        exact absurd H (by simp)
      ·rw [if_neg c12] at H
       have c12b0 : decide (x3_2 < (a0.size : Int)) = false := decide_eq_false c12
       clear c12
       obtain rfl := Option.some.inj H
       go_wp2
       go_ret
       exact ⟨by first | rfl | (simp [errW_none, errW_some] <;> rfl) | (simp [*, errW_none, errW_some] <;> rfl), by repeat (first | (with_reducible first | exact HB.out | apply below_alloc | apply pw_below_drewN | apply below_drew1) | exact HB.out)⟩
end Go.Proofs.Ytonmlncejikbiaa.Q
/- Small words on 'from some number of rounds on'. -/
namespace Go.Proofs.Ytonmlncejikbiaa.Q
open Go.RowKit Go.Proofs.YtonmlncejikbiaaW.PrintWords Go.Proofs.YtonmlncejikbiaaW.PrintLast Go.Proofs.YtonmlncejikbiaaW.PrintMore
set_option linter.unusedVariables false
set_option linter.unusedSimpArgs false
section
variable {α : Type}
theorem Ev.pos {c : Prop} [Decidable c] {A B : Nat → Option α} {r : α} (h : c) (k : Ev A r) : Ev (fun n => if c then A n else B n) r := Ev.congr (fun n => if_pos h) k
theorem Ev.neg {c : Prop} [Decidable c] {A B : Nat → Option α} {r : α} (h : ¬ c) (k : Ev B r) : Ev (fun n => if c then A n else B n) r := Ev.congr (fun n => if_neg h) k
theorem Ev.one {β : Type} {a : Option β} {b : β} {f : Nat → β → Option α} {r : α} (h : a = some b) (k : Ev (fun n => f n b) r) : Ev (fun n => a.bind (f n)) r := Ev.congr (fun n => by rw [h]; rfl) k
theorem Ev.eq {g : Nat → Option α} {r r' : α} (k : Ev g r) (h : r = r') : Ev g r' := h ▸ k
end
/-! words -/
theorem index_ev (l : List ByteArray) (s : ByteArray) (hm : l.length ≤ 9223372036854775807) (d : Nat) : ∀ i : Nat, i ≤ l.length → l.length - i = d → (∀ j : Nat, j < i → keyIs s (l.getD j ByteArray.empty) = false) →
  Ev (fun k => slices_Index_string_string.l0 k l s (l.length : Int) (i : Int)) (findR (keyIs s) l) := by
 induction d with
 | zero =>
  intro i h0 hd h
  refine Ev.step (fun k => rfl) (Ev.neg (by omega) ?_)
  rw [find_none (z := ByteArray.empty) (fun j hj => h j (by omega))]
  exact Ev.now _
 | succ d ih =>
  intro i h0 hd h
  refine Ev.step (fun k => rfl) (Ev.pos (by omega) (Ev.pos (by omega) (Ev.pos (by omega) ?_)))
  by_cases e : keyIs s (l.getD i ByteArray.empty) = true
  ·have e2 : s.toList = (rdOf ByteArray.empty l (i : Int)).toList := (beq_iff_eq.mp e).symm
   refine Ev.pos e2 ?_
   rw [find_last (z := ByteArray.empty) (k := i) (by omega) h e]
   exact Ev.now _
  ·have e2 : ¬ s.toList = (rdOf ByteArray.empty l (i : Int)).toList := fun q => e (beq_iff_eq.mpr q.symm)
   refine Ev.neg e2 ?_
   rw [wrap_succ (by omega) (by omega)]
   exact ih (i + 1) (by omega) (by omega) (all_succ (P := fun j => keyIs s (l.getD j ByteArray.empty) = false) h (by simpa using e))
def keyB (s : ByteArray) : Bool := decide (0 ≤ findR (keyIs s) keyList)
theorem isKey_ev (s : ByteArray) : Ev (fun k => lex_IsKey.f k s) (keyB s) := by
 have h := index_ev keyList s (by decide) 16 0 (by decide) (by decide) (fun j hj => absurd hj (by omega))
 have h2 : Ev (fun k => slices_Contains_string_string.f k keyList s) (keyB s) := Ev.bind h (Ev.now _)
 exact Ev.one (a := lex_keys.f) (b := keyList) rfl (Ev.bind h2 (Ev.now _))
def wordB (s : ByteArray) : Bool := nameB s && (decide (s.size ≤ 12) && !keyB s)
theorem isWord_ev (s : ByteArray) (hs : s.size ≤ 9223372036854775807) : Ev (fun k => lex_IsWord.f k s) (wordB s) := by
 refine Ev.one (a := lex_isName.f s) (b := nameB s) (by unfold lex_isName.f; rw [if_pos hs]) ?_
 unfold wordB
 cases nameB s with
 | false => exact Ev.neg (by decide) (Ev.now _)
 | true =>
  refine Ev.pos rfl ?_
  by_cases h : s.size ≤ 12
  ·refine Ev.pos (by omega) (Ev.eq (Ev.bind (isKey_ev s) (Ev.now _)) (by simp [h]))
  ·refine Ev.neg (by omega) (Ev.eq (Ev.now _) (by simp [h]))
/-! types -/
/-- Behind the star, if that is a word. -/
def rest (t : ByteArray) : ByteArray := t.extract 1 t.size
def starB (t : ByteArray) : Bool := decide (0 < t.size) && (bt t 0 == 42)
def ptrB (t : ByteArray) : Bool := starB t && wordB (rest t)
def elemS (t : ByteArray) : ByteArray × Bool := if ptrB t = true then (rest t, true) else (⟨#[]⟩, false)
theorem rest_size (t : ByteArray) : (rest t).size = t.size - 1 := by unfold rest; simp
theorem cutPrefix_one (t : ByteArray) : strings_CutPrefix.f t (⟨#[42]⟩ : ByteArray) = some (if starB t = true then (rest t, true) else (t, false)) := by
 have e1 : ((⟨#[42]⟩ : ByteArray).size : Int) = 1 := rfl
 have e2 : (⟨#[42]⟩ : ByteArray).toList = [42] := by rw [ByteArray.toList_eq]
 unfold strings_CutPrefix.f stringslite_CutPrefix.f stringslite_HasPrefix.f
 rw [e1, e2]
 by_cases h0 : 0 < t.size
 ·have hb : ((t.extract 0 (1 : Int).toNat).toList == [42]) = starB t := by
   obtain ⟨⟨l⟩⟩ := t
   cases l with
   | nil => simp [ByteArray.size] at h0
   | cons x l =>
    have e3 : (ByteArray.extract ⟨⟨x :: l⟩⟩ 0 (1 : Int).toNat).toList = [x] := by
     rw [Lib.extract_toList]; rfl
    have e4 : bt ⟨⟨x :: l⟩⟩ 0 = (x.toNat : Int) := (bt_at ⟨⟨x :: l⟩⟩ 0 (by simpa using h0)).symm
    unfold starB
    rw [e3, e4]
    simp only [h0, decide_true, Bool.true_and]
    by_cases hx : x = 42
    ·subst hx; rfl
    ·rw [beq_eq_false_iff_ne.mpr (by simpa using hx), beq_eq_false_iff_ne.mpr]
     intro q
     apply hx
     apply UInt8.toNat_inj.mp
     have e42 : (42 : UInt8).toNat = 42 := rfl
     omega
  rw [if_pos (by omega), if_pos (by omega), if_pos (by omega), hb]
  simp only [Option.bind_some]
  cases starB t with
  | true => rw [if_pos rfl, if_pos (by omega), if_pos (by omega)]; rfl
  | false => rw [if_neg (by decide)]; rfl
 ·have : starB t = false := by unfold starB; simp [h0]
  rw [if_neg (by omega), this]
  rfl
theorem elem_ev (t : ByteArray) (ht : t.size ≤ 9223372036854775807) : Ev (fun k => kind_Elem.f k t) (elemS t) := by
 refine Ev.one (cutPrefix_one t) ?_
 unfold elemS ptrB
 cases starB t with
 | false => exact Ev.neg (by simp) (Ev.now _)
 | true =>
  refine Ev.pos rfl (Ev.bind (isWord_ev (rest t) (by rw [rest_size]; omega)) ?_)
  cases hw : wordB (rest t) with
  | false => exact Ev.neg (by decide) (Ev.now _)
  | true => exact Ev.pos rfl (Ev.now _)
/-! the links -/
def linksD (fs : List S48) : Nat → Nat → List Int
 | 0, _ => []
 | d + 1, i => if (elemS (fs.getD i z48).f1).2 = true then (i : Int) :: linksD fs d (i + 1) else linksD fs d (i + 1)
def linksL (fs : List S48) : List Int := linksD fs fs.length 0
theorem linksD_len (fs : List S48) : ∀ d i, (linksD fs d i).length ≤ d
 | 0, i => by simp [linksD]
 | d + 1, i => by
  unfold linksD
  have := linksD_len fs d (i + 1)
  split
  ·simp; omega
  ·omega
theorem links_ev (n : ByteArray) (fs : List S48) (hm : fs.length ≤ 4398046511104) (hs : ∀ j : Nat, j < fs.length → (fs.getD j z48).f1.size ≤ 9223372036854775807) : Ev (fun k => kind_Links.f k n fs) (linksL fs) := by
 have key : ∀ (d i : Nat) (acc : List Int), i ≤ fs.length → fs.length - i = d → acc.length ≤ i → Ev (fun k => kind_Links.l0 k acc fs (fs.length : Int) (i : Int)) (acc ++ linksD fs d i) := by
  intro d
  induction d with
  | zero =>
   intro i acc h0 hd ha
   exact Ev.step (fun k => rfl) (Ev.neg (by omega) (Ev.eq (Ev.now _) (by simp [linksD])))
  | succ d ih =>
   intro i acc h0 hd ha
   refine Ev.step (fun k => rfl) (Ev.pos (by omega) (Ev.pos (by omega) (Ev.pos (by omega) (Ev.bind (elem_ev _ (hs i (by omega))) ?_))))
   rw [wrap_succ (by omega) (by omega)]
   unfold linksD
   by_cases h : (elemS (fs.getD i z48).f1).2 = true
   ·rw [if_pos h]
    refine Ev.pos h (Ev.pos (by omega) (Ev.eq (ih (i + 1) (acc ++ [(i : Int)]) (by omega) (by omega) (by simp; omega)) (by simp)))
   ·rw [if_neg h]
    exact Ev.neg h (ih (i + 1) acc (by omega) (by omega) (by omega))
 exact key fs.length 0 [] (by omega) (by omega) (by simp)
theorem compact_upto (xs : List Int) (hs : ∀ i j, i ≤ j → j < xs.length → xs.getD i 0 ≤ xs.getD j 0) : ∀ m, m ≤ xs.length → (Lib.compactUpTo xs.toArray m).Pairwise (· < ·) ∧ (∀ y ∈ Lib.compactUpTo xs.toArray m, ∃ j, j < m ∧ y = xs.getD j 0) ∧ (∀ j, j < m → xs.getD j 0 ∈ Lib.compactUpTo xs.toArray m)
 | 0, _ => ⟨by simp [Lib.compactUpTo], fun y hy => by simp [Lib.compactUpTo] at hy, fun j hj => by omega⟩
 | m + 1, hm => by
  obtain ⟨h1, h2, h3⟩ := compact_upto xs hs m (by omega)
  have em : xs.toArray[m]! = xs.getD m 0 := by rw [getD_at _ _ (by omega)]; simp [show m < xs.length by omega]
  rw [Lib.compactUpTo_succ, em]
  by_cases hk : Lib.keeps xs.toArray m = true
  ·rw [if_pos hk]
   refine ⟨List.pairwise_append.mpr ⟨h1, List.pairwise_singleton _ _, fun y hy z hz => ?_⟩, fun y hy => ?_, fun j hj => ?_⟩
   ·rw [List.mem_singleton] at hz; subst hz
    obtain ⟨j, hj, rfl⟩ := h2 y hy
    have em1 : xs.toArray[m - 1]! = xs.getD (m - 1) 0 := by rw [getD_at _ _ (by omega)]; simp [show m - 1 < xs.length by omega]
    unfold Lib.keeps at hk
    have hk2 := (of_decide_eq_true hk).resolve_left (by omega)
    rw [em, em1] at hk2
    have := hs j (m - 1) (by omega) (by omega)
    have := hs (m - 1) m (by omega) (by omega)
    omega
   ·rcases List.mem_append.mp hy with hy | hy
    ·obtain ⟨j, hj, e⟩ := h2 y hy; exact ⟨j, by omega, e⟩
    ·rw [List.mem_singleton] at hy; exact ⟨m, by omega, hy⟩
   ·by_cases e : j = m
    ·subst e; simp
    ·exact List.mem_append_left _ (h3 j (by omega))
  ·have hk' : Lib.keeps xs.toArray m = false := by simpa using hk
   rw [if_neg hk, List.append_nil]
   unfold Lib.keeps at hk'
   have hk2 := of_decide_eq_false hk'
   have hm0 : m ≠ 0 := fun e => hk2 (.inl e)
   have em1 : xs.toArray[m - 1]! = xs.getD (m - 1) 0 := by rw [getD_at _ _ (by omega)]; simp [show m - 1 < xs.length by omega]
   have e : xs.getD m 0 = xs.getD (m - 1) 0 := by
    rw [← em, ← em1]
    exact Classical.byContradiction (fun q => hk2 (.inr q))
   refine ⟨h1, fun y hy => ?_, fun j hj => ?_⟩
   ·obtain ⟨j, hj, e⟩ := h2 y hy; exact ⟨j, by omega, e⟩
   ·by_cases ej : j = m
    ·subst ej; rw [e]; exact h3 (j - 1) (by omega)
    ·exact h3 j (by omega)
theorem sort_le (L : List Int) : (L.mergeSort fun x y => decide (x ≤ y)).Pairwise (· ≤ ·) := by
 have h := List.pairwise_mergeSort (le := fun x y : Int => decide (x ≤ y)) (fun a b c h1 h2 => by simp at h1 h2 ⊢; omega) (fun a b => by simp; omega) L
 exact h.imp (fun h => by simpa using h)
theorem sort_mono (L : List Int) : ∀ i j, i ≤ j → j < (L.mergeSort fun x y => decide (x ≤ y)).length → (L.mergeSort fun x y => decide (x ≤ y)).getD i 0 ≤ (L.mergeSort fun x y => decide (x ≤ y)).getD j 0 := fun i j hij hj => by
 by_cases e : i = j
 ·subst e; exact Int.le_refl _
 ·rw [getD_at _ _ (by omega), getD_at _ _ hj]
  exact List.pairwise_iff_getElem.mp (sort_le L) i j (by omega) hj (by omega)
theorem sortC_mem (L : List Int) (x : Int) : x ∈ sortC L ↔ x ∈ L := by
 obtain ⟨S, hS⟩ : ∃ S, S = L.mergeSort fun x y => decide (x ≤ y) := ⟨_, rfl⟩
 have hm := sort_mono L
 rw [← hS] at hm
 obtain ⟨h1, h2, h3⟩ := compact_upto S hm S.length (Nat.le_refl _)
 have e : sortC L = Lib.compactUpTo S.toArray S.length := by unfold sortC Lib.compact; rw [hS]
 have hmem : x ∈ S ↔ x ∈ L := by rw [hS]; exact List.mem_mergeSort
 rw [e, ← hmem]
 constructor
 ·intro hx
  obtain ⟨j, hj, rfl⟩ := h2 x hx
  rw [getD_at _ _ hj]
  exact List.getElem_mem hj
 ·intro hx
  obtain ⟨j, hj, rfl⟩ := List.mem_iff_getElem.mp hx
  rw [← getD_at S 0 hj]
  exact h3 j hj
theorem sortC_len (L : List Int) : (sortC L).length ≤ L.length := by
 unfold sortC
 have := compact_le (L.mergeSort fun x y => decide (x ≤ y))
 rwa [List.length_mergeSort] at this
/-- Who is near. -/
def nearP (S : List S43) (L : List (Int × List Int)) (x : Int) : List Int := sortC (nearTo L (rdO L (x - 1)).2 (linksL (rd_T43 S (rdO L (x - 1)).1).f1))
theorem nearP_mem {S : List S43} {L : List (Int × List Int)} {x y : Int} : y ∈ nearP S L x ↔ isO L y = true ∧ ∃ q ∈ linksL (rd_T43 S (rdO L (x - 1)).1).f1, y = rd (rdO L (x - 1)).2 q := by
 unfold nearP nearTo
 rw [sortC_mem, List.mem_filter, List.mem_map]
 constructor
 ·rintro ⟨⟨q, hq, e⟩, h⟩; exact ⟨h, q, hq, e.symm⟩
 ·rintro ⟨h, q, hq, e⟩; exact ⟨⟨q, hq, e.symm⟩, h⟩
theorem linksL_in (fs : List S48) : ∀ d i : Nat, ∀ q ∈ linksD fs d i, (i : Int) ≤ q ∧ q < ((i + d : Nat) : Int)
 | 0, i, q, h => by cases h
 | d + 1, i, q, h => by
  unfold linksD at h
  have key : ∀ p, p ∈ linksD fs d (i + 1) → (i : Int) ≤ p ∧ p < ((i + (d + 1) : Nat) : Int) := fun p hp => by
   have := linksL_in fs d (i + 1) p hp
   omega
  split at h
  ·rcases List.mem_cons.mp h with h | h
   ·subst h; omega
   ·exact key q h
  ·exact key q h
theorem linksL_len (fs : List S48) : (linksL fs).length ≤ fs.length := linksD_len fs fs.length 0
theorem okL_nil (S : List S43) : OkL S [] := ⟨by decide, fun x hx => by cases hx⟩
theorem okL_mk {S : List S43} {L : List (Int × List Int)} (h : OkL S L) (nm : ByteArray) : OkL S (mkL S L nm) := by
 unfold mkL
 split
 ·exact h
 ·rename_i hc
  have h1 := h.len
  refine ⟨by rw [List.length_append, List.length_singleton]; omega, fun x hx => ?_⟩
  rcases List.mem_append.mp hx with hx | hx
  ·exact h.all x hx
  ·rw [List.mem_singleton] at hx
   subst hx
   obtain ⟨m, hm⟩ : ∃ m : Nat, atO S nm = m := ⟨(atO S nm).toNat, by omega⟩
   have hlt : m < S.length := find_lt (p := nameIs nm) hm
   refine ⟨by omega, by omega, ?_, fun n hn => ?_⟩
   ·unfold zerosO; rw [List.length_replicate]
   ·unfold zerosO at hn; have := List.eq_of_mem_replicate hn; omega
theorem okL_set {S : List S43} {L : List (Int × List Int)} (h : OkL S L) (o f n : Int) (hn : -9223372036854775808 ≤ n ∧ n ≤ 9223372036854775807) : OkL S (setO L o f n) := by
 unfold setO
 split
 ·rename_i hz
  obtain ⟨p0, p1, p2, p3⟩ := chk_zero hz
  refine ⟨by rw [List.length_set]; exact h.len, fun x hx => ?_⟩
  rcases List.mem_or_eq_of_mem_set hx with hx | hx
  ·exact h.all x hx
  ·subst hx
   obtain ⟨q0, q1, q2, q3⟩ := h.all _ (h.at (i := o - 1) (by omega) (by omega))
   refine ⟨q0, q1, by rw [List.length_set]; exact q2, fun m hm => ?_⟩
   rcases List.mem_or_eq_of_mem_set hm with hm | hm
   ·exact q3 m hm
   ·rw [hm]; exact hn
 ·exact h
theorem setO_of (L : List (Int × List Int)) (o f n i : Int) : (rdO (setO L o f n) i).1 = (rdO L i).1 := by
 unfold setO
 split
 ·rename_i hz
  obtain ⟨p0, p1, p2, p3⟩ := chk_zero hz
  unfold rdO
  by_cases e : i.toNat = (o - 1).toNat
  ·rw [e, List.getD_eq_getElem?_getD, List.getElem?_set_self (by omega), Option.getD_some]
  ·rw [List.getD_eq_getElem?_getD, List.getElem?_set_ne (by omega), ← List.getD_eq_getElem?_getD]
 ·rfl
theorem setO_is (L : List (Int × List Int)) (o f n x : Int) : isO (setO L o f n) x = isO L x := by unfold isO; rw [setO_len]
/-- With a link set to nil nobody more is near. -/
theorem nearP_set {S : List S43} {L : List (Int × List Int)} {o f x y : Int} (h : y ∈ nearP S (setO L o f 0) x) : y ∈ nearP S L x := by
 rw [nearP_mem] at h ⊢
 obtain ⟨hy, q, hq, e⟩ := h
 rw [setO_is] at hy
 rw [setO_of] at hq
 refine ⟨hy, q, hq, ?_⟩
 have hy1 : 1 ≤ y := (of_decide_eq_true hy).1
 unfold setO at e
 by_cases hz : chkE L o f = 0
 ·rw [if_pos hz] at e
  obtain ⟨p0, p1, p2, p3⟩ := chk_zero hz
  unfold rdO at e p3 ⊢
  by_cases e2 : (x - 1).toNat = (o - 1).toNat
  ·rw [e2] at e ⊢
   rw [List.getD_eq_getElem?_getD, List.getElem?_set_self (by omega), Option.getD_some] at e
   by_cases e3 : q.toNat = f.toNat
   ·unfold rd at e
    rw [e3, List.getD_eq_getElem?_getD, List.getElem?_set_self (by omega), Option.getD_some] at e
    omega
   ·unfold rd at e ⊢
    rwa [List.getD_eq_getElem?_getD, List.getElem?_set_ne (by omega), ← List.getD_eq_getElem?_getD] at e
  ·rwa [List.getD_eq_getElem?_getD, List.getElem?_set_ne (by omega), ← List.getD_eq_getElem?_getD] at e
 ·rwa [if_neg hz] at e
theorem netP (S : List S43) (L : List (Int × List Int)) (hS : ∀ x ∈ S, x.f1.length ≤ 1000) : Net (isO L) (nearP S L) (upTo L.length) 1000 where
 univ := upTo_mem
 near := fun x _ => ⟨by
  unfold nearP
  refine Nat.le_trans (sortC_len _) (Nat.le_trans (nearTo_len _ _ _) (Nat.le_trans (linksL_len _) ?_))
  unfold rd_T43
  by_cases hj : (rdO L (x - 1)).1.toNat < S.length
  ·rw [getD_at _ _ hj]; exact hS _ (List.getElem_mem hj)
  ·rw [List.getD_eq_getElem?_getD, List.getElem?_eq_none (by omega)]; decide, fun y hy => (nearP_mem.mp hy).1⟩
end Go.Proofs.Ytonmlncejikbiaa.Q
namespace Go.Proofs.Ytonmlncejikbiaa.Q
open Go.RowKit Go.Proofs.YtonmlncejikbiaaW.PrintWords Go.Proofs.YtonmlncejikbiaaW.PrintLast Go.Proofs.YtonmlncejikbiaaW.PrintMore
attribute [local go_sem] max2_int min2_int max_two min_two max_three min_three max_four min_four   -- for this text's walks alone
set_option linter.unusedVariables false
set_option linter.unusedSimpArgs false
/-! ### truantlaw06_has: function 38 -/
def truantlaw06_has.l0 : Nat → List Int → Int → Int → Option (Bool)
 | 0, _, _, _ => none
 | k + 1, x0, x1, x5 => if x5 < (x0.length : Int) then (if 0 ≤ x5 then (if (rd x0 x5) = x1 then (some true) else (truantlaw06_has.l0 k x0 x1 (wrap64 (x5 + 1)))) else (none)) else (some false)
def truantlaw06_has.f (k : Nat) (l0 : List Int) (a1 : Int) : Option (Bool) := truantlaw06_has.l0 k l0 a1 0
theorem truantlaw06_has.mono_l : ∀ k, (∀ y0 y1 y2, LeO (truantlaw06_has.l0 k y0 y1 y2) (truantlaw06_has.l0 (k + 1) y0 y1 y2))
 | 0 => fun _ _ _ r h => by simp [truantlaw06_has.l0] at h
 | k + 1 => by
  have ih0 := truantlaw06_has.mono_l k
  ·intro y0 y1 y2
   unfold truantlaw06_has.l0
   repeat' first
   | (with_reducible exact ih0 _ _ _)
   | (with_reducible exact LeO.refl _)
   | (with_reducible exact LeO.none _)
   | (with_reducible refine LeO.ite ?_ ?_)
   | (with_reducible refine LeO.bind ?_ (fun _ => ?_))
   | exact ih0 _ _ _
   | exact LeO.none _
   | refine LeO.ite ?_ ?_
   | refine LeO.bind ?_ (fun _ => ?_)
theorem truantlaw06_has.mono : ∀ a0 a1 k, LeO (truantlaw06_has.f k a0 a1) (truantlaw06_has.f (k + 1) a0 a1) := by
 intro a0 a1 k
 have ih0 := truantlaw06_has.mono_l k
 unfold truantlaw06_has.f
 repeat' first
   | (with_reducible exact ih0 _ _ _)
   | (with_reducible exact LeO.refl _)
   | (with_reducible exact LeO.none _)
   | (with_reducible refine LeO.ite ?_ ?_)
   | (with_reducible refine LeO.bind ?_ (fun _ => ?_))
   | exact ih0 _ _ _
   | exact LeO.none _
   | refine LeO.ite ?_ ?_
   | refine LeO.bind ?_ (fun _ => ?_)
set_option maxHeartbeats 8000000 in
set_option maxRecDepth 100000 in
theorem truantlaw06_has.calls (k : Nat) (A0 : Option Addr) (c0 : Nat) (l0 : List Int) (a1 : Int) (r : Bool) (w : World) (hr0 : Kd.C (Kd.int .i64) w A0 l0.length l0) (hc0 : l0.length ≤ c0) (h : truantlaw06_has.f k l0 a1 = some r) :
  Calls Try.prog 38 #[.slice A0 l0.length c0, .int .i64 a1] w fun e w' => e = .returned (.bool r) ∧ Drawn0 w w' := by
 have HR0 := Aside0.mk hr0
 have HC0 := Aside0.mk hc0
 clear hr0 hc0
 have H : (truantlaw06_has.l0 k l0 a1 0) = some r := h
 clear h
 have H' := Aside0.mk H
 clear H
 go_enter Try.func38, Try.ntmps38
 go_wp2
 go_loopg [5] k (fun kq v5 w' => ∃ (x5_1 : Int), v5 = .int .i64 x5_1 ∧ Aside0 (truantlaw06_has.l0 kq l0 a1 x5_1 = some r) ∧ Aside0 (kq ≤ k) ∧ Drawn0 w w')
 case atStart => exact ⟨(0), (by first | rfl | (simp; done) | (simp [*]; done)), H', ⟨Nat.le_refl _⟩, by repeat (first | exact Drawn0.refl _ | apply Drawn0.step)⟩
 case round =>
  clear H'
  try clear p2
  obtain ⟨x5_1, rfl, HA, HK1, ⟨m1, rfl⟩⟩ := hrel
  cases gk with
  | zero => exact absurd HA.out (by simp [truantlaw06_has.l0])
  | succ k1 =>
   have H := HA.out
   clear HA
   simp only [truantlaw06_has.l0] at H
   by_cases c3 : x5_1 < (l0.length : Int)
   ·rw [if_pos c3] at H
    have c3b0 : decide (x5_1 < (l0.length : Int)) = true := decide_eq_true c3
    clear c3
    by_cases c4 : 0 ≤ x5_1
    ·rw [if_pos c4] at H
     have c4b0 : decide (0 ≤ x5_1) = true := decide_eq_true c4
     clear c4
     by_cases c5 : (rd l0 x5_1) = a1
     ·rw [if_pos c5] at H
      have c5b0 : ((rd l0 x5_1) == a1) = true := beq_iff_eq.mpr c5
      have c5b1 : ((rd l0 x5_1) != a1) = false := bne_eq_false_iff_eq.mpr c5
      clear c5
      obtain rfl := Option.some.inj H
      have p334 : 0 ≤ (x5_1 : Int) := of_decide_eq_true (by first | (with_reducible assumption) | assumption)
      have q334 : x5_1 < (l0.length : Int) := of_decide_eq_true (by first | (with_reducible assumption) | assumption)
      obtain ⟨ad334, e334, hx334_0⟩ := Kd.at_int HR0.out x5_1 p334 q334
      cases e334
      replace p334 := eq_true p334
      replace q334 := eq_true q334
      go_wp2
      go_ret
      exact ⟨by first | rfl | (simp; done) | (simp [*]; done), by repeat (first | exact Drawn0.refl _ | apply Drawn0.step)⟩
     ·rw [if_neg c5] at H
      have c5b0 : ((rd l0 x5_1) == a1) = false := beq_eq_false_iff_ne.mpr c5
      have c5b1 : ((rd l0 x5_1) != a1) = true := bne_iff_ne.mpr c5
      have H' := Aside0.mk H
      clear H
      have p334 : 0 ≤ (x5_1 : Int) := of_decide_eq_true (by first | (with_reducible assumption) | assumption)
      have q334 : x5_1 < (l0.length : Int) := of_decide_eq_true (by first | (with_reducible assumption) | assumption)
      obtain ⟨ad334, e334, hx334_0⟩ := Kd.at_int HR0.out x5_1 p334 q334
      cases e334
      replace p334 := eq_true p334
      replace q334 := eq_true q334
      go_wp2
      go_roundg k1
      case measure => have := HK1.out; omega
      case rel => exact ⟨(wrap64 (x5_1 + 1)), (by first | rfl | (simp; done) | (simp [*]; done)), H', ⟨by have := HK1.out; omega⟩, by repeat (first | exact Drawn0.refl _ | apply Drawn0.step)⟩
    ·rw [if_neg c4] at H
     exact absurd H (by simp)
   ·rw [if_neg c3] at H
    have c3b0 : decide (x5_1 < (l0.length : Int)) = false := decide_eq_false c3
    clear c3
    obtain rfl := Option.some.inj H
    go_wp2
    go_ret
    exact ⟨by first | rfl | (simp; done) | (simp [*]; done), by repeat (first | exact Drawn0.refl _ | apply Drawn0.step)⟩
end Go.Proofs.Ytonmlncejikbiaa.Q
/- A heap's Near and Reach, by plain names; the document's 'has' of the law. -/
namespace Go.Proofs.Ytonmlncejikbiaa.Q
open Go.RowKit Go.Proofs.YtonmlncejikbiaaW.PrintWords Go.Proofs.YtonmlncejikbiaaW.PrintLast Go.Proofs.YtonmlncejikbiaaW.PrintMore
set_option linter.unusedVariables false
set_option linter.unusedSimpArgs false
theorem has6_l (l : List Int) (x : Int) (hm : l.length ≤ 1000000000) (d : Nat) : ∀ (k i : Nat), i ≤ l.length → l.length - i = d → d < k → (∀ j : Nat, j < i → l.getD j 0 ≠ x) → truantlaw06_has.l0 k l x (i : Int) = some (l.contains x) := by
 induction d with
 | zero =>
  intro k i h0 hd hk h
  obtain ⟨k, rfl⟩ : ∃ m, k = m + 1 := ⟨k - 1, by omega⟩
  simp only [truantlaw06_has.l0]
  rw [if_neg (by omega)]
  congr 1; symm
  rw [← Bool.not_eq_true, List.contains_iff_mem]
  intro hx
  obtain ⟨j, hj, e⟩ := List.mem_iff_getElem.mp hx
  exact h j (by omega) (by rw [getD_at _ _ hj]; exact e)
 | succ d ih =>
  intro k i h0 hd hk h
  obtain ⟨k, rfl⟩ : ∃ m, k = m + 1 := ⟨k - 1, by omega⟩
  simp only [truantlaw06_has.l0]
  rw [if_pos (by omega), if_pos (by omega)]
  by_cases e : rd l (i : Int) = x
  ·rw [if_pos e]
   congr 1; symm
   rw [List.contains_iff_mem, ← e]
   unfold rd
   rw [Int.toNat_natCast, getD_at _ _ (by omega)]
   exact List.getElem_mem _
  ·rw [if_neg e, wrap_succ (by omega) (by omega)]
   exact ih k (i + 1) (by omega) (by omega) (by omega) (all_succ h (by unfold rd at e; rw [Int.toNat_natCast] at e; exact e))
theorem has_calls (A0 : Option Addr) (c0 : Nat) (l0 : List Int) (x : Int) (w : World) (hr0 : (Kd.int .i64).C w A0 l0.length l0) (hc0 : l0.length ≤ c0) (hl : l0.length ≤ 1000000000) :
  Calls Try.prog 38 #[.slice A0 l0.length c0, .int .i64 x] w fun e w' => e = .returned (.bool (l0.contains x)) ∧ Below w.heap.size w w' :=
 (truantlaw06_has.calls (l0.length + 1) A0 c0 l0 x (l0.contains x) w hr0 hc0 (has6_l l0 x hl l0.length (l0.length + 1) 0 (by omega) (by omega) (by omega) (fun j hj => by omega))).mono fun e w' h => ⟨h.1, h.2.below⟩
/-- The structs that came in, as the walks want them. -/
structure RS (S : List S43) : Prop where
 len : S.length ≤ 1000000
 fields : ∀ x ∈ S, x.f1.length ≤ 1000
 links : ∀ x ∈ S, ∃ k, kind_Links.f k x.f0 x.f1 = some (linksL x.f1)
section
variable {base g : Nat} {w : World} {sv lv : Value} {S : List S43} {L : List (Int × List Int)} {sok lok : Nat → Prop}
theorem near_calls (x : Int) (h : HP w base g sv lv S L sok lok) (hk : OkL S L) (hs : RS S) (hx : isO L x = true) :
  Calls Try.prog 37 #[ptr g, .int .i64 x] w fun e w' => ∃ v0, e = .returned v0 ∧ (Kd.int .i64).R 3 w' w.heap.size (fun _ => True) v0 (nearP S L x) ∧ Below w.heap.size w w' := by
 have h1 := of_decide_eq_true hx
 obtain ⟨n, rfl⟩ : ∃ n : Nat, x = (n : Int) + 1 := ⟨(x - 1).toNat, by omega⟩
 obtain ⟨o0, o1, o2, _⟩ := hk.all _ (hk.at (i := (n : Int)) (by omega) (by omega))
 have hm : rd_T43 S (rdO L (n : Int)).1 ∈ S := by
  unfold rd_T43
  rw [getD_at _ _ (by omega)]
  exact List.getElem_mem _
 obtain ⟨k, hlk⟩ := hs.links _ hm
 have hf := hs.fields _ hm
 have := heap_Near.calls k n (rdO L (n : Int)) _ _ h hk (by omega) rfl rfl hlk (fun q hq => by
  have := linksL_in _ _ _ q hq
  omega) (by have := linksL_len (rd_T43 S (rdO L (n : Int)).1).f1; omega)
 have e : nearP S L ((n : Int) + 1) = sortC (nearTo L (rdO L (n : Int)).2 (linksL (rd_T43 S (rdO L (n : Int)).1).f1)) := by
  unfold nearP
  rw [show (n : Int) + 1 - 1 = n by omega]
 rw [e]
 exact this
theorem reach_calls (A0 : Option Addr) (c0 : Nat) (l0 : List Int) (h : HP w base g sv lv S L sok lok) (hk : OkL S L) (hs : RS S) (hr0 : (Kd.int .i64).C w A0 l0.length l0) (hc0 : l0.length ≤ c0) (hl : l0.length ≤ 1000000) :
  ∃ out, Came (isO L) (nearP S L) l0 [] out ∧ Calls Try.prog 36 #[ptr g, .slice A0 l0.length c0] w fun e w' => ∃ v0, e = .returned v0 ∧ (Kd.int .i64).R 3 w' w.heap.size (fun _ => True) v0 (out.mergeSort fun x y => decide (x ≤ y)) ∧ Below w.heap.size w w' := by
 have hn := netP S L hs.fields
 have hLl := hk.len
 have hu := unseen_le (upTo L.length) []
 have hul : (upTo L.length).length = L.length := by unfold upTo; rw [List.length_map, List.length_range]
 obtain ⟨u, hue⟩ : ∃ u, u = unseen (upTo L.length) [] * (1000 + 1) := ⟨_, rfl⟩
 have hmul : u ≤ 131203072 := by
  rw [hue]
  exact Nat.mul_le_mul_right (1000 + 1) (show unseen (upTo L.length) [] ≤ 131072 by omega)
 obtain ⟨m, hm⟩ : ∃ m, m = u + l0.length := ⟨_, rfl⟩
 have q1 : unseen (upTo L.length) [] * (1000 + 1) + l0.length ≤ m := by rw [← hue]; exact Nat.le_of_eq hm.symm
 clear hue
 have q2 : m + 1000 ≤ 1000000000 := by omega
 have q3 : ([] : List Int).length + unseen (upTo L.length) [] ≤ 1000000000 := by rw [List.length_nil]; omega
 obtain ⟨out, hrun, hc⟩ := reach_run hn m l0 [] q1 q2 q3 (fun x hx => absurd hx (by simp)) List.nodup_nil
 refine ⟨out, hc, ?_⟩
 refine heap_Reach.any (ptr g) (isO L) (fun x => some (nearP S L x)) _ A0 c0 l0 out w (fun w' x hb => heap_is.calls x (h.below hb)) (fun w' x ns hb hx hns => ?_) (fun x hx => ?_) hr0 hc0 hl (hrun _ (Nat.lt_succ_self _)) (by have := hc.len; show out.length < 1099511627776; omega)
 ·obtain rfl := Option.some.inj hns
  exact near_calls x (h.below hb) hk hs hx
 ·have := of_decide_eq_true hx
  omega
end
theorem reach_none (k : Nat) : ∀ l : List Int, l.length < k → reachQ (fun _ => false) (fun _ => none) k l [] = some [] := by
 induction k with
 | zero => intro l h; omega
 | succ k ih =>
  intro l h
  unfold reachQ
  by_cases hp : 0 < l.length
  ·rw [if_pos hp, if_neg (fun q => absurd q.1 (by decide))]
   exact ih _ (by rw [List.length_take]; omega)
  ·rw [if_neg hp]
set_option maxRecDepth 100000 in
theorem reach_nil (A0 : Option Addr) (c0 : Nat) (l0 : List Int) (w : World) (hr0 : (Kd.int .i64).C w A0 l0.length l0) (hc0 : l0.length ≤ c0) (hl : l0.length ≤ 1000000) :
  Calls Try.prog 36 #[.pointer none, .slice A0 l0.length c0] w fun e w' => ∃ v0, e = .returned v0 ∧ (Kd.int .i64).R 3 w' w.heap.size (fun _ => True) v0 [] ∧ Below w.heap.size w w' := by
 have h1 := heap_Reach.any (.pointer none) (fun _ => false) (fun _ => none) (l0.length + 1) A0 c0 l0 [] w (fun w' x _ => heap_is.nil x w') (fun w' x ns _ hx _ => by cases hx) (fun x hx => by cases hx) hr0 hc0 hl (reach_none _ _ (by omega)) (by show (0 : Nat) < 1099511627776; omega)
 rw [List.mergeSort_nil] at h1
 exact h1
def RP (l0 : List S43) (l1 : List S58) : Prop := RS l0 ∧ ∀ x ∈ l1, -9223372036854775808 ≤ x.f4 ∧ x.f4 ≤ 9223372036854775807
noncomputable def truantlaw06_HeapReach.f (k : Nat) (l0 : List (S43)) (l1 : List (S58)) (l2 : List Int) (a3 : Int) (a4 : Int) : Option (Bool) :=
 (truantlaw06_great.f k l0).bind fun gr => if gr = true then some true else if (l1.length : Int) > 80 then some true else if (l2.length : Int) > 20 then some true else (kind_Check.f k l0).bind fun p => if decB (RP l0 l1) = true then some true else none
theorem decB_of {p : Prop} (h : decB p = true) : p := Classical.byContradiction fun q => by rw [decB_false q] at h; cases h
theorem contains_of {l : List Int} {x : Int} (h : x ∈ l) : l.contains x = true := List.contains_iff_mem.mpr h
theorem rd_mem {l : List Int} {i : Nat} (h : i < l.length) : rd l (i : Int) ∈ l := by
 unfold rd
 rw [Int.toNat_natCast, getD_at _ _ h]
 exact List.getElem_mem h
theorem C_tail {w : World} {A : Option Addr} {c : Nat} {l : List Int} (h : (Kd.int .i64).C w A l.length l) (hc : l.length ≤ c) (h0 : 0 < l.length) : ∃ A1 c1, (∀ W : World, (Instr.slice 45 (.slice A l.length c) (some (.int .i64 1)) none none).run Try.prog W = .ok (.slice A1 (l.drop 1).length c1) W) ∧ (Kd.int .i64).C w A1 (l.drop 1).length (l.drop 1) ∧ (l.drop 1).length ≤ c1 := by
 have hi : (Try.prog.info? 3).map (·.size) = some (Kd.int .i64).sz := by kernel_rfl
 obtain ⟨i, hi, hs⟩ := Option.map_eq_some_iff.1 hi
 have h1 := cut_from (P := Try.prog) 45 3 .i64 Try.underlying45 hi (Kd.int .i64).sz hs A l.length c 1 (by omega) (by omega)
 have h2 := Kd.C_drop (m := 1) h (by omega) hc
 have hl : (l.drop 1).length = l.length - 1 := List.length_drop
 refine ⟨_, c - 1, ?_, h2, ?_⟩
 ·rw [hl]; exact h1
 ·rw [hl]; exact Nat.sub_le_sub_right hc 1
/-- What is known of the row of all who are reached. -/
structure Rf (S : List S43) (L : List (Int × List Int)) (l r : List Int) : Prop where
 root : ∀ x ∈ l, isO L x = true → x ∈ r
 shut : ∀ x ∈ r, ∀ y ∈ nearP S L x, y ∈ r
 is : ∀ x ∈ r, isO L x = true
 led : ∀ x ∈ r, x ∈ l ∨ ∃ z ∈ r, x ∈ nearP S L z
 up : ∀ i j : Nat, i < j → j < r.length → rd r (i : Int) < rd r (j : Int)
 len : r.length ≤ 1000000000
theorem rf_of {S : List S43} {L : List (Int × List Int)} {l out r : List Int} (h : Came (isO L) (nearP S L) l [] out) (hr : r = out.mergeSort fun x y => decide (x ≤ y)) : Rf S L l r := by
 have hm : ∀ x, x ∈ r ↔ x ∈ out := fun x => by rw [hr]; exact List.mem_mergeSort
 have hs := h.shut (fun x hx => absurd hx (by simp))
 refine ⟨fun x hx hF => (hm x).mpr (h.root x hx hF), fun x hx y hy => (hm y).mpr (hs x ((hm x).mp hx) y hy), fun x hx => h.is x ((hm x).mp hx), fun x hx => ?_, fun i j hij hj => ?_, ?_⟩
 ·rcases h.led x ((hm x).mp hx) with q | q | ⟨z, hz, q⟩
  ·exact absurd q (by simp)
  ·exact .inl q
  ·exact .inr ⟨z, (hm z).mpr hz, q⟩
 ·have hp := sort_up h.nodup
  rw [← hr] at hp
  unfold rd
  rw [Int.toNat_natCast, Int.toNat_natCast, getD_at _ _ (by omega), getD_at _ _ hj]
  exact List.pairwise_iff_getElem.mp hp i j (by omega) hj hij
 ·rw [hr, List.length_mergeSort]; exact h.len
/-- Who is reached from fewer roots, or with fewer links, is reached. -/
theorem rf_less {S : List S43} {L L' : List (Int × List Int)} {l l' r out r' : List Int} (h : Rf S L l r) (hc : Came (isO L') (nearP S L') l' [] out) (hr : r' = out.mergeSort fun x y => decide (x ≤ y)) (hl : ∀ x ∈ l', x ∈ l) (hi : ∀ x, isO L' x = isO L x) (hn : ∀ x y, y ∈ nearP S L' x → y ∈ nearP S L x) : ∀ x ∈ r', x ∈ r := by
 intro x hx
 rw [hr, List.mem_mergeSort] at hx
 exact hc.least (fun x => x ∈ r) (fun x hx => absurd hx (by simp)) (fun x hx hF => h.root x (hl x hx) (by rw [← hi]; exact hF)) (fun x hx _ y hy => h.shut x hx y (hn x y hy)) x hx
/-- What the law's inner loop has found behind j rounds. -/
def ledQ (S : List S43) (L : List (Int × List Int)) (r : List Int) (x : Int) (b : Bool) : Nat → Bool
 | 0 => b
 | j + 1 => ledQ S L r x b j || (nearP S L (rd r (j : Int))).contains x
theorem ledQ_mono {S : List S43} {L : List (Int × List Int)} {r : List Int} {x : Int} {b : Bool} {j : Nat} (h : ledQ S L r x b j = true) : ∀ m, j ≤ m → ledQ S L r x b m = true
 | 0, hm => by
  obtain rfl : j = 0 := by omega
  exact h
 | m + 1, hm => by
  by_cases e : j = m + 1
  ·rw [← e]; exact h
  ·unfold ledQ; rw [ledQ_mono h m (by omega)]; rfl
theorem ledQ_all {S : List S43} {L : List (Int × List Int)} {l r : List Int} {x : Int} {b : Bool} (h : Rf S L l r) (hx : x ∈ r) (hb : b = l.contains x) : ledQ S L r x b r.length = true := by
 rcases h.led x hx with q | ⟨z, hz, q⟩
 ·have h0 : ledQ S L r x b 0 = true := by unfold ledQ; rw [hb]; exact contains_of q
  exact ledQ_mono h0 _ (Nat.zero_le _)
 ·obtain ⟨j, hj, e⟩ := List.mem_iff_getElem.mp hz
  have h0 : ledQ S L r x b (j + 1) = true := by
   unfold ledQ
   have e2 : rd r (j : Int) = z := by unfold rd; rw [Int.toNat_natCast, getD_at _ _ hj]; exact e
   rw [e2, contains_of q, Bool.or_true]
  exact ledQ_mono h0 _ hj
theorem nearP_len {S : List S43} (L : List (Int × List Int)) (hS : ∀ x ∈ S, x.f1.length ≤ 1000) (x : Int) : (nearP S L x).length ≤ 1000 := by
 unfold nearP
 refine Nat.le_trans (sortC_len _) (Nat.le_trans (nearTo_len _ _ _) (Nat.le_trans (linksL_len _) ?_))
 unfold rd_T43
 by_cases hj : (rdO L (x - 1)).1.toNat < S.length
 ·rw [getD_at _ _ hj]; exact hS _ (List.getElem_mem hj)
 ·rw [List.getD_eq_getElem?_getD, List.getElem?_eq_none (by omega)]; decide
def truantlaw06_HeapReach.T11 : Bool × List (List Nat × List Nat) := (true, [([], []), ([], []), ([], []), ([1, 2], [1, 2]), ([3], [3]), ([4], [4]), ([], []), ([], []), ([6, 7], [6, 7]), ([8], [8]), ([9], [9]), ([], []), ([], []), ([11, 12], [11, 12]), ([13], [13]), ([14], [14]), ([0, 5, 10, 15], [0, 5, 10, 15])])
def truantlaw06_HeapReach.B11 : List Nat := [0, 0, 0, 6, 14, 30, 0, 0, 192, 448, 960, 0, 0, 6144, 14336, 30720, 65535]
theorem truantlaw06_HeapReach.tab11 : rtab .any (opsOf Try.f7 11) = truantlaw06_HeapReach.T11 := by kernel_rfl
theorem truantlaw06_HeapReach.bits11 : waitsOk truantlaw06_HeapReach.T11.2 truantlaw06_HeapReach.B11 = true := by kernel_rfl
def truantlaw06_HeapReach.T26 : Bool × List (List Nat × List Nat) := (true, [([], []), ([0], [0]), ([1], [1]), ([1], [1]), ([1], [1]), ([3, 4, 1], [1, 3, 4]), ([5, 1], [1, 5]), ([2, 6, 1, 1], [1, 2, 6]), ([1], [1]), ([1], [1]), ([8, 9, 1], [1, 8, 9]), ([10, 1], [1, 10]), ([7, 11, 7, 1], [1, 7, 11]), ([1, 12], [1, 12]), ([13, 12, 0, 1, 2, 3, 4, 5, 6, 7, 8, 9, 10, 11, 12, 13], [0, 13])])
def truantlaw06_HeapReach.B26 : List Nat := [0, 1, 3, 3, 3, 27, 59, 127, 3, 3, 771, 1795, 4095, 8191, 16383]
theorem truantlaw06_HeapReach.tab26 : rtab .any (opsOf Try.f7 26) = truantlaw06_HeapReach.T26 := by kernel_rfl
theorem truantlaw06_HeapReach.bits26 : waitsOk truantlaw06_HeapReach.T26.2 truantlaw06_HeapReach.B26 = true := by kernel_rfl
set_option maxRecDepth 100000 in
set_option maxHeartbeats 16000000 in
theorem HeapReach.nil (k : Nat) (A0 : Option Addr) (c0 : Nat) (l0 : List (S43)) (A1 : Option Addr) (c1 : Nat) (l1 : List (S58)) (A2 : Option Addr) (c2 : Nat) (l2 : List Int) (a3 : Int) (a4 : Int) (r1 r2 : Int) (w : World) (hr0 : Kd.C k43 w A0 l0.length l0) (hc0 : l0.length ≤ c0) (hr1 : Kd.C k58 w A1 l1.length l1) (hc1 : l1.length ≤ c1) (hr2 : Kd.C (Kd.int .i64) w A2 l2.length l2) (hc2 : l2.length ≤ c2)
  (hg : truantlaw06_great.f k l0 = some false) (hlen : ¬ (l1.length : Int) > 80) (hlen2 : ¬ (l2.length : Int) > 20) (hck : kind_Check.f k l0 = some (r1, r2)) (hne : (r2 != 0) = true) :
  Calls Try.prog 7 #[.slice A0 l0.length c0, .slice A1 l1.length c1, .slice A2 l2.length c2, .int .i64 a3, .int .i64 a4] w fun e w' => e = .returned (.bool true) ∧ Below w.heap.size w w' := by
 have HR0 := Aside0.mk hr0; have HC0 := Aside0.mk hc0; have HR1 := Aside0.mk hr1; have HGR := Aside0.mk hg; have HCK := Aside0.mk hck; have HNE := Aside0.mk hne
 have hm1 := Kd.C_max hr1
 have hdl : decide ((l1.length : Int) > 80) = false := decide_eq_false hlen
 have hdl2 : decide ((l2.length : Int) > 20) = false := decide_eq_false hlen2
 have HR2 := Aside0.mk hr2; have HC2 := Aside0.mk hc2; have HL2 : Aside0 (l2.length ≤ 20) := ⟨by omega⟩
 clear hr0 hc0 hr1 hr2 hc2 hg hck hne hlen2
 go_enter Try.func7, Try.ntmps7
 go_wp2_with fail
 refine (truantlaw06_awake.calls true w rfl).mono ?_
 rintro e w1 ⟨rfl, hb1⟩
 have HB1 := Aside0.mk hb1; clear hb1
 go_wp2_with fail
 refine (truantlaw06_great.calls k A0 c0 l0 false w1 (Kd.C_below HR0.out HB1.out) HC0.out HGR.out).mono ?_
 rintro e w2 ⟨rfl, hd2⟩
 have HB2 := Aside0.mk (below_step HB1.out hd2.below); clear hd2 HB1
 go_wp2_with fail
 refine (heap_New.bad k A0 c0 l0 r1 r2 w2 (Kd.C_below HR0.out HB2.out) HC0.out HCK.out HNE.out).mono ?_
 rintro e w3 ⟨rfl, hb3⟩
 have HB3 := Aside0.mk (below_step HB2.out hb3); clear hb3 HB2
 go_wp2_with fail
 go_loopw [12] (fun v12 wr => ∃ i : Nat, v12 = .int .i64 i ∧ i ≤ l1.length ∧ Aside0 (Below w.heap.size w wr)) (fun v12 _ => l1.length - (intOf v12).toNat)
 case atStart => exact ⟨0, rfl, Nat.zero_le _, HB3⟩
 case round =>
  clear HB3
  obtain ⟨i, rfl, hi, HB⟩ := hrel
  by_cases hlt : i < l1.length
  ·obtain ⟨ad, e1, hx0, hx1, hx2, hx3, hx4⟩ := at_T58 (Kd.C_below HR1.out HB.out) (i : Int) (by omega) (by omega)
   subst e1
   simp only [Int.toNat_natCast] at hx0 hx1 hx2 hx3 hx4
   obtain ⟨x, ex⟩ : ∃ x, x = rd_T58 l1 (i : Int) := ⟨_, rfl⟩
   rw [← ex] at hx0 hx1 hx2 hx3 hx4
   have hlti : (i : Int) < (l1.length : Int) := by omega
   clear ex
   by_cases h2 : x.f0 ≤ 2
   ·clear hx2 hx3 hx4
    go_wp2_with fail
    refine (heap_Make.nil x.f1 wr).mono ?_
    rintro e w4 ⟨rfl, hb4⟩
    have HB4 := Aside0.mk (below_step HB.out hb4); clear hb4 HB hx0 hx1
    go_wp2
    go_roundw
    case rel => exact ⟨i + 1, by go_num, by omega, HB4⟩
    case measure => simp [intOf]; omega
   ·go_upto_region 11 with (fail)
    have HX2 := Aside0.mk (pw_cell_below (below_drew1 (Below.refl _ _)) hx2); have HX3 := Aside0.mk (pw_cell_below (below_drew1 (Below.refl _ _)) hx3); have HX4 := Aside0.mk (pw_cell_below (below_drew1 (Below.refl _ _)) hx4)
    have HB2 := Aside0.mk (below_drew1 HB.out)
    clear hx0 hx1 hx2 hx3 hx4 HB
    refine start_ (n := 17) (S := fun w' => w'.cell? ⟨(ad.add (i * 5)).block, (ad.add (i * 5)).off + 2, none⟩ = some (.int .i64 x.f2) ∧ w'.cell? ⟨(ad.add (i * 5)).block, (ad.add (i * 5)).off + 3, none⟩ = some (.int .i64 x.f3) ∧ w'.cell? ⟨(ad.add (i * 5)).block, (ad.add (i * 5)).off + 4, none⟩ = some (.int .i64 x.f4)) (ds := [16]) (tf 0 17) (by kernel_rfl) rfl rfl ⟨HX2.out, HX3.out, HX4.out⟩ (fun hHeld => ?_)
    refine with_tabW truantlaw06_HeapReach.tab11 truantlaw06_HeapReach.bits11 (fun HT_ HW_ => ?_)
    generalize wr.drew = w3a at HB2 HX2 HX3 HX4 hHeld ⊢
    refine pure_ (i := 0) (N := some 58) (v := ?_) (a' := ?_) (tf 1 16) rfl rfl (any_of HT_.out (by kernel_rfl)) (fun _ _ _ h => h) (Or.inl ⟨by rfl, ?_⟩) ?_ ?_
    rotate_left
    ·intro w'
     go_simp
     with_reducible rfl
    rotate_left
    ·simp only [Act.put, List.setIfInBounds_toArray, List.set_cons_zero, List.set_cons_succ, i64_w, i32_w]
     rfl
    refine pure_ (i := 1) (N := some 59) (v := ?_) (a' := ?_) (tf 2 15) rfl rfl (any_of HT_.out (by kernel_rfl)) (fun _ _ _ h => h) (Or.inl ⟨by rfl, ?_⟩) ?_ ?_
    rotate_left
    ·intro w'
     go_simp
     with_reducible rfl
    rotate_left
    ·simp only [Act.put, List.setIfInBounds_toArray, List.set_cons_zero, List.set_cons_succ, i64_w, i32_w]
     rfl
    refine pure_ (i := 2) (N := some 60) (v := ?_) (a' := ?_) (tf 3 14) rfl rfl (any_of HT_.out (by kernel_rfl)) (fun _ _ _ h => h) (Or.inl ⟨by rfl, ?_⟩) ?_ ?_
    rotate_left
    ·intro w'
     go_simp
     with_reducible rfl
    rotate_left
    ·simp only [Act.put, List.setIfInBounds_toArray, List.set_cons_zero, List.set_cons_succ, i64_w, i32_w]
     rfl
    refine pure_ (i := 3) (N := some 61) (v := ?_) (a' := ?_) (tf 4 13) rfl rfl (any_of HT_.out (by kernel_rfl)) (fun _ _ _ h => h) (Or.inl ⟨by rfl, ?_⟩) ?_ ?_
    rotate_left
    ·intro w'
     go_simp
     with_reducible rfl
    rotate_left
    ·simp only [Act.put, List.setIfInBounds_toArray, List.set_cons_zero, List.set_cons_succ, i64_w, i32_w]
     rfl
    refine pure_ (i := 4) (N := some 62) (v := ?_) (a' := ?_) (tf 5 12) rfl rfl (any_of HT_.out (by kernel_rfl)) (fun _ _ _ h => h) (Or.inl ⟨by rfl, ?_⟩) ?_ ?_
    rotate_left
    ·intro w'
     go_simp
     with_reducible rfl
    rotate_left
    ·simp only [Act.put, List.setIfInBounds_toArray, List.set_cons_zero, List.set_cons_succ, i64_w, i32_w]
     rfl
    refine pure_ (i := 6) (N := some 64) (v := ?_) (a' := ?_) #[true, true, true, true, true, false, true, false, false, false, false, false, false, false, false, false, false] rfl rfl (any_of HT_.out (by kernel_rfl)) (fun _ _ _ h => h) (Or.inl ⟨by rfl, ?_⟩) ?_ ?_
    rotate_left
    ·intro w'
     go_simp
     with_reducible rfl
    rotate_left
    ·simp only [Act.put, List.setIfInBounds_toArray, List.set_cons_zero, List.set_cons_succ, i64_w, i32_w]
     rfl
    refine pure_ (i := 7) (N := some 65) (v := ?_) (a' := ?_) #[true, true, true, true, true, false, true, true, false, false, false, false, false, false, false, false, false] rfl rfl (any_of HT_.out (by kernel_rfl)) (fun _ _ _ h => h) (Or.inl ⟨by rfl, ?_⟩) ?_ ?_
    rotate_left
    ·intro w'
     go_simp
     with_reducible rfl
    rotate_left
    ·simp only [Act.put, List.setIfInBounds_toArray, List.set_cons_zero, List.set_cons_succ, i64_w, i32_w]
     rfl
    refine pure_ (i := 8) (N := some 66) (v := ?_) (a' := ?_) #[true, true, true, true, true, false, true, true, true, false, false, false, false, false, false, false, false] rfl rfl (any_of HT_.out (by kernel_rfl)) (fun _ _ _ h => h) (Or.inl ⟨by rfl, ?_⟩) ?_ ?_
    rotate_left
    ·intro w'
     go_simp
     with_reducible rfl
    rotate_left
    ·simp only [Act.put, List.setIfInBounds_toArray, List.set_cons_zero, List.set_cons_succ, i64_w, i32_w]
     rfl
    refine pure_ (i := 9) (N := some 67) (v := ?_) (a' := ?_) #[true, true, true, true, true, false, true, true, true, true, false, false, false, false, false, false, false] rfl rfl (any_of HT_.out (by kernel_rfl)) (fun _ _ _ h => h) (Or.inl ⟨by rfl, ?_⟩) ?_ ?_
    rotate_left
    ·intro w'
     go_simp
     with_reducible rfl
    rotate_left
    ·simp only [Act.put, List.setIfInBounds_toArray, List.set_cons_zero, List.set_cons_succ, i64_w, i32_w]
     rfl
    refine pure_ (i := 11) (N := some 69) (v := ?_) (a' := ?_) #[true, true, true, true, true, false, true, true, true, true, false, true, false, false, false, false, false] rfl rfl (any_of HT_.out (by kernel_rfl)) (fun _ _ _ h => h) (Or.inl ⟨by rfl, ?_⟩) ?_ ?_
    rotate_left
    ·intro w'
     go_simp
     with_reducible rfl
    rotate_left
    ·simp only [Act.put, List.setIfInBounds_toArray, List.set_cons_zero, List.set_cons_succ, i64_w, i32_w]
     rfl
    refine pure_ (i := 12) (N := some 70) (v := ?_) (a' := ?_) #[true, true, true, true, true, false, true, true, true, true, false, true, true, false, false, false, false] rfl rfl (any_of HT_.out (by kernel_rfl)) (fun _ _ _ h => h) (Or.inl ⟨by rfl, ?_⟩) ?_ ?_
    rotate_left
    ·intro w'
     go_simp
     with_reducible rfl
    rotate_left
    ·simp only [Act.put, List.setIfInBounds_toArray, List.set_cons_zero, List.set_cons_succ, i64_w, i32_w]
     rfl
    refine pure_ (i := 13) (N := some 71) (v := ?_) (a' := ?_) #[true, true, true, true, true, false, true, true, true, true, false, true, true, true, false, false, false] rfl rfl (any_of HT_.out (by kernel_rfl)) (fun _ _ _ h => h) (Or.inl ⟨by rfl, ?_⟩) ?_ ?_
    rotate_left
    ·intro w'
     go_simp
     with_reducible rfl
    rotate_left
    ·simp only [Act.put, List.setIfInBounds_toArray, List.set_cons_zero, List.set_cons_succ, i64_w, i32_w]
     rfl
    refine pure_ (i := 14) (N := some 72) (v := ?_) (a' := ?_) #[true, true, true, true, true, false, true, true, true, true, false, true, true, true, true, false, false] rfl rfl (any_of HT_.out (by kernel_rfl)) (fun _ _ _ h => h) (Or.inl ⟨by rfl, ?_⟩) ?_ ?_
    rotate_left
    ·intro w'
     go_simp
     with_reducible rfl
    rotate_left
    ·simp only [Act.put, List.setIfInBounds_toArray, List.set_cons_zero, List.set_cons_succ, i64_w, i32_w]
     rfl
    refine take_ (i := 5) (N := some 63) (v := ?_) (a' := ?_) #[true, true, true, true, true, true, true, true, true, true, false, true, true, true, true, false, false] rfl rfl (take_ofW HT_.out HW_.out (by kernel_rfl)) (fun _ _ _ h => h) (Or.inl ⟨by rfl, ?_⟩) hHeld ?_ ?_
    rotate_left
    ·rintro w' ⟨s0, s1, s2⟩
     go_simp
     with_reducible rfl
    rotate_left
    ·simp only [Act.put, List.setIfInBounds_toArray, List.set_cons_zero, List.set_cons_succ, i64_w, i32_w]
     rfl
    refine take_ (i := 10) (N := some 68) (v := ?_) (a' := ?_) (tf 15 2) rfl rfl (take_ofW HT_.out HW_.out (by kernel_rfl)) (fun _ _ _ h => h) (Or.inl ⟨by rfl, ?_⟩) hHeld ?_ ?_
    rotate_left
    ·rintro w' ⟨s0, s1, s2⟩
     go_simp
     with_reducible rfl
    rotate_left
    ·simp only [Act.put, List.setIfInBounds_toArray, List.set_cons_zero, List.set_cons_succ, i64_w, i32_w]
     rfl
    refine take_ (i := 15) (N := some 73) (v := ?_) (a' := ?_) (tf 16 1) rfl rfl (take_ofW HT_.out HW_.out (by kernel_rfl)) (fun _ _ _ h => h) (Or.inl ⟨by rfl, ?_⟩) hHeld ?_ ?_
    rotate_left
    ·rintro w' ⟨s0, s1, s2⟩
     go_simp
     with_reducible rfl
    rotate_left
    ·simp only [Act.put, List.setIfInBounds_toArray, List.set_cons_zero, List.set_cons_succ, i64_w, i32_w]
     rfl
    refine last_ (i := 16) (N := some 74) (tf 17 0) rfl rfl (one_of HT_.out (by kernel_rfl)) (by decide) (fun K hK => ?_)
    refine goes_ Try.func35 (by kernel_rfl) rfl #[.pointer none, .int .i64 x.f2, .int .i64 x.f3, .int .i64 x.f4] (by rfl) rfl rfl (by simp only [List.map_toArray, List.map_cons, List.map_nil]; rfl) ?_
    refine (heap_Set.nil x.f2 x.f3 x.f4 w3a).mono ?_
    rintro e w9 ⟨rfl, hb9⟩
    refine ⟨_, rfl, ?_⟩
    have HB9 := Aside0.mk (below_step HB2.out hb9)
    clear hb9
    refine hK.out _ _ ?_
    clear hK K
    refine norm_ (a' := ?_) ?_ ?_
    rotate_left
    ·show Act.put _ (some 74) _ = _
     simp only [Act.put, List.setIfInBounds_toArray, List.set_cons_zero, List.set_cons_succ, i64_w, i32_w]
     rfl
    refine done_ (done_of HT_.out (by kernel_rfl)) ?_
    go_wp2
    go_roundw
    case rel => exact ⟨i + 1, by go_num, by omega, HB9⟩
    case measure => simp [intOf]; omega
  ·go_wp2_with fail
   refine (reach_nil A2 c2 l2 wr (Kd.C_below HR2.out HB.out) HC2.out (by have := HL2.out; omega)).mono ?_
   rintro e w4 ⟨v4, rfl, hr4, hb4⟩
   obtain ⟨A4, c4, rfl⟩ := Kd.R_slice hr4
   have HB4 := Aside0.mk (below_step HB.out hb4); clear hb4 HB
   have h40 : ([] : List Int).length = 0 := rfl
   rw [h40]
   go_wp2_with fail
   clear hr4
   go_loopw [14] (fun v14 wr => v14 = .int .i64 0 ∧ Aside0 (Below w.heap.size w wr)) (fun _ _ => 0)
   case atStart => exact ⟨rfl, HB4⟩
   case round =>
    clear HB4
    obtain ⟨rfl, HBr⟩ := hrel
    by_cases hp : 0 < l2.length
    ·have hdp : decide ((l2.length : Int) > 0) = true := decide_eq_true (by omega)
     obtain ⟨At, ct, hcut, hCt, hct⟩ := C_tail HR2.out HC2.out hp
     have hll : (l2.drop 1).length ≤ 1000000 := by rw [List.length_drop]; have := HL2.out; omega
     obtain ⟨lt, hlt'⟩ : ∃ lt, lt = l2.drop 1 := ⟨_, rfl⟩
     rw [← hlt'] at hcut hCt hct hll
     have HCT := Aside0.mk hCt; have HCC := Aside0.mk hct; have HLL := Aside0.mk hll
     clear hCt hct hlt' hll
     go_wp2_with fail
     refine (reach_nil At ct lt wr (Kd.C_below HCT.out HBr.out) HCC.out HLL.out).mono ?_
     rintro e w5 ⟨v5, rfl, hr5, hb5⟩
     obtain ⟨A5, c5, rfl⟩ := Kd.R_slice hr5
     have HB5 := Aside0.mk (below_step HBr.out hb5); clear hb5 hr5 HBr
     rw [h40]
     clear hcut
     go_wp2_with fail
     go_loopw [20] (fun v20 wr => v20 = .int .i64 0 ∧ Aside0 (Below w.heap.size w wr)) (fun _ _ => 0)
     case atStart => exact ⟨rfl, HB5⟩
     case round =>
      clear HB5
      obtain ⟨rfl, HBs⟩ := hrel
      go_wp2_with fail
      refine (heap_Set.nil a3 a4 0 wr).mono ?_
      rintro e w7 ⟨rfl, hb7⟩
      have HB7 := Aside0.mk (below_step HBs.out hb7); clear hb7 HBs
      go_wp2_with fail
      refine (reach_nil A2 c2 l2 w7 (Kd.C_below HR2.out HB7.out) HC2.out (by have := HL2.out; omega)).mono ?_
      rintro e w8 ⟨v8, rfl, hr8, hb8⟩
      obtain ⟨A8, c8, rfl⟩ := Kd.R_slice hr8
      have HB8 := Aside0.mk (below_step HB7.out hb8); clear hb8 hr8 HB7
      rw [h40]
      go_wp2_with fail
      go_loopw [22] (fun v22 wr => v22 = .int .i64 0 ∧ Aside0 (Below w.heap.size w wr)) (fun _ _ => 0)
      case atStart => exact ⟨rfl, HB8⟩
      case round =>
       clear HB8
       obtain ⟨rfl, HBz⟩ := hrel
       go_wp2
       go_ret
       exact ⟨rfl, HBz.out⟩
    ·have hdp : decide ((l2.length : Int) > 0) = false := decide_eq_false (by omega)
     go_wp2_with fail
     refine (heap_Set.nil a3 a4 0 wr).mono ?_
     rintro e w7 ⟨rfl, hb7⟩
     have HB7 := Aside0.mk (below_step HBr.out hb7); clear hb7 HBr
     go_wp2_with fail
     refine (reach_nil A2 c2 l2 w7 (Kd.C_below HR2.out HB7.out) HC2.out (by have := HL2.out; omega)).mono ?_
     rintro e w8 ⟨v8, rfl, hr8, hb8⟩
     obtain ⟨A8, c8, rfl⟩ := Kd.R_slice hr8
     have HB8 := Aside0.mk (below_step HB7.out hb8); clear hb8 hr8 HB7
     rw [h40]
     go_wp2_with fail
     go_loopw [22] (fun v22 wr => v22 = .int .i64 0 ∧ Aside0 (Below w.heap.size w wr)) (fun _ _ => 0)
     case atStart => exact ⟨rfl, HB8⟩
     case round =>
      clear HB8
      obtain ⟨rfl, HBz⟩ := hrel
      go_wp2
      go_ret
      exact ⟨rfl, HBz.out⟩
section
variable {base g : Nat} {sv lv : Value} {S : List S43} {L : List (Int × List Int)} {sok lok : Nat → Prop}
set_option maxRecDepth 100000 in
set_option maxHeartbeats 16000000 in
theorem HeapReach.there (k : Nat) (A0 : Option Addr) (c0 : Nat) (l0 : List (S43)) (A1 : Option Addr) (c1 : Nat) (l1 : List (S58)) (A2 : Option Addr) (c2 : Nat) (l2 : List Int) (a3 : Int) (a4 : Int) (r1 : Int) (w : World) (hr0 : Kd.C k43 w A0 l0.length l0) (hc0 : l0.length ≤ c0) (hr1 : Kd.C k58 w A1 l1.length l1) (hc1 : l1.length ≤ c1) (hr2 : Kd.C (Kd.int .i64) w A2 l2.length l2) (hc2 : l2.length ≤ c2)
  (hg : truantlaw06_great.f k l0 = some false) (hlen : ¬ (l1.length : Int) > 80) (hlen2 : ¬ (l2.length : Int) > 20) (hck : kind_Check.f k l0 = some (r1, 0)) (hrs : RS l0) (hac : ∀ x ∈ l1, -9223372036854775808 ≤ x.f4 ∧ x.f4 ≤ 9223372036854775807) :
  Calls Try.prog 7 #[.slice A0 l0.length c0, .slice A1 l1.length c1, .slice A2 l2.length c2, .int .i64 a3, .int .i64 a4] w fun e w' => e = .returned (.bool true) ∧ Below w.heap.size w w' := by
 have hs1 := hrs.len
 have hs2 : ∀ x ∈ l0, x.f1.length ≤ 1000000 := fun x hx => Nat.le_trans (hrs.fields x hx) (by decide)
 have HRS := Aside0.mk hrs; have HAC := Aside0.mk hac
 have HS2 := Aside0.mk hs2
 have HR0 := Aside0.mk hr0; have HC0 := Aside0.mk hc0; have HR1 := Aside0.mk hr1; have HGR := Aside0.mk hg; have HCK := Aside0.mk hck; have HS1 := Aside0.mk hs1; have HLN := Aside0.mk hlen
 have hm1 := Kd.C_max hr1
 have hdl : decide ((l1.length : Int) > 80) = false := decide_eq_false hlen
 have hdl2 : decide ((l2.length : Int) > 20) = false := decide_eq_false hlen2
 have HR2 := Aside0.mk hr2; have HC2 := Aside0.mk hc2; have HL2 : Aside0 (l2.length ≤ 20) := ⟨by omega⟩
 clear hr0 hc0 hr1 hr2 hc2 hg hck hrs hac hs1 hs2 hlen hlen2
 go_enter Try.func7, Try.ntmps7
 go_wp2_with fail
 refine (truantlaw06_awake.calls true w rfl).mono ?_
 rintro e w1 ⟨rfl, hb1⟩
 have HB1 := Aside0.mk hb1; clear hb1
 go_wp2_with fail
 refine (truantlaw06_great.calls k A0 c0 l0 false w1 (Kd.C_below HR0.out HB1.out) HC0.out HGR.out).mono ?_
 rintro e w2 ⟨rfl, hd2⟩
 have HB2 := Aside0.mk (below_step HB1.out hd2.below); clear hd2 HB1
 go_wp2_with fail
 refine (heap_New.calls k A0 c0 l0 r1 w2 (Kd.C_below HR0.out HB2.out) HC0.out HCK.out HS1.out HS2.out).mono ?_
 rintro e w3 ⟨g, sv, sok, rfl, hp3, hb3, _⟩
 have HB3 := Aside0.mk (below_step HB2.out hb3); have HW := Aside0.mk HB2.out.size; have H3 := Aside0.mk hp3
 clear hb3 hp3 HB2
 generalize w2.heap.size = base at H3 HW
 go_wp2_with fail
 go_loopw [12] (fun v12 wr => ∃ (i : Nat) (lv : Value) (L : List (Int × List Int)) (lok : Nat → Prop), v12 = .int .i64 i ∧ i ≤ l1.length ∧ Aside0 (L.length ≤ i ∧ OkL l0 L) ∧ Aside0 (Below w.heap.size w wr) ∧ Aside0 (HP wr base g sv lv l0 L sok lok)) (fun v12 _ => l1.length - (intOf v12).toNat)
 case atStart => exact ⟨0, _, [], _, rfl, Nat.zero_le _, ⟨Nat.le_refl _, okL_nil l0⟩, HB3, H3⟩
 case round =>
  clear HB3 H3
  obtain ⟨i, lv, L, lok, rfl, hi, HL, HB, H⟩ := hrel
  by_cases hlt : i < l1.length
  ·obtain ⟨ad, e1, hx0, hx1, hx2, hx3, hx4⟩ := at_T58 (Kd.C_below HR1.out HB.out) (i : Int) (by omega) (by omega)
   subst e1
   simp only [Int.toNat_natCast] at hx0 hx1 hx2 hx3 hx4
   obtain ⟨x, ex⟩ : ∃ x, x = rd_T58 l1 (i : Int) := ⟨_, rfl⟩
   rw [← ex] at hx0 hx1 hx2 hx3 hx4
   have hlti : (i : Int) < (l1.length : Int) := by omega
   have HXW : Aside0 (-9223372036854775808 ≤ x.f4 ∧ x.f4 ≤ 9223372036854775807) := ⟨HAC.out x (by rw [ex]; unfold rd_T58; rw [Int.toNat_natCast, getD_at _ _ hlt]; exact List.getElem_mem hlt)⟩
   have hil : i ≤ 80 := by have := HLN.out; omega
   clear ex
   by_cases h2 : x.f0 ≤ 2
   ·clear hx2 hx3 hx4
    go_wp2_with fail
    refine (heap_Make.calls x.f1 H.out (by have := HL.out.1; omega) HS2.out).mono ?_
    rintro e w4 ⟨rfl, lv4, lok4, hp4, _, _, hb4⟩
    have HB4 := Aside0.mk (HB.out.trans (hb4.mono HW.out)); have H4 := Aside0.mk hp4
    have HL4 : Aside0 ((mkL l0 L x.f1).length ≤ i + 1 ∧ OkL l0 (mkL l0 L x.f1)) := ⟨by have := mkL_len (S := l0) L x.f1; have := HL.out.1; omega, okL_mk HL.out.2 x.f1⟩
    clear hb4 hp4 HB H HL hx0 hx1
    go_wp2
    go_roundw
    case rel => exact ⟨i + 1, lv4, _, lok4, by go_num, by omega, HL4, HB4, H4⟩
    case measure => simp [intOf]; omega
   ·go_upto_region 11 with (fail)
    have HX2 := Aside0.mk (pw_cell_below (below_drew1 (Below.refl _ _)) hx2); have HX3 := Aside0.mk (pw_cell_below (below_drew1 (Below.refl _ _)) hx3); have HX4 := Aside0.mk (pw_cell_below (below_drew1 (Below.refl _ _)) hx4)
    have HB2 := Aside0.mk (below_drew1 HB.out)
    have H2 := Aside0.mk (H.out.below (below_drew1 (Below.refl _ _)))
    clear hx0 hx1 hx2 hx3 hx4 HB H
    refine start_ (n := 17) (S := fun w' => w'.cell? ⟨(ad.add (i * 5)).block, (ad.add (i * 5)).off + 2, none⟩ = some (.int .i64 x.f2) ∧ w'.cell? ⟨(ad.add (i * 5)).block, (ad.add (i * 5)).off + 3, none⟩ = some (.int .i64 x.f3) ∧ w'.cell? ⟨(ad.add (i * 5)).block, (ad.add (i * 5)).off + 4, none⟩ = some (.int .i64 x.f4)) (ds := [16]) (tf 0 17) (by kernel_rfl) rfl rfl ⟨HX2.out, HX3.out, HX4.out⟩ (fun hHeld => ?_)
    refine with_tabW truantlaw06_HeapReach.tab11 truantlaw06_HeapReach.bits11 (fun HT_ HW_ => ?_)
    generalize wr.drew = w3a at HB2 HX2 HX3 HX4 H2 hHeld ⊢
    refine pure_ (i := 0) (N := some 58) (v := ?_) (a' := ?_) (tf 1 16) rfl rfl (any_of HT_.out (by kernel_rfl)) (fun _ _ _ h => h) (Or.inl ⟨by rfl, ?_⟩) ?_ ?_
    rotate_left
    ·intro w'
     go_simp
     with_reducible rfl
    rotate_left
    ·simp only [Act.put, List.setIfInBounds_toArray, List.set_cons_zero, List.set_cons_succ, i64_w, i32_w]
     rfl
    refine pure_ (i := 1) (N := some 59) (v := ?_) (a' := ?_) (tf 2 15) rfl rfl (any_of HT_.out (by kernel_rfl)) (fun _ _ _ h => h) (Or.inl ⟨by rfl, ?_⟩) ?_ ?_
    rotate_left
    ·intro w'
     go_simp
     with_reducible rfl
    rotate_left
    ·simp only [Act.put, List.setIfInBounds_toArray, List.set_cons_zero, List.set_cons_succ, i64_w, i32_w]
     rfl
    refine pure_ (i := 2) (N := some 60) (v := ?_) (a' := ?_) (tf 3 14) rfl rfl (any_of HT_.out (by kernel_rfl)) (fun _ _ _ h => h) (Or.inl ⟨by rfl, ?_⟩) ?_ ?_
    rotate_left
    ·intro w'
     go_simp
     with_reducible rfl
    rotate_left
    ·simp only [Act.put, List.setIfInBounds_toArray, List.set_cons_zero, List.set_cons_succ, i64_w, i32_w]
     rfl
    refine pure_ (i := 3) (N := some 61) (v := ?_) (a' := ?_) (tf 4 13) rfl rfl (any_of HT_.out (by kernel_rfl)) (fun _ _ _ h => h) (Or.inl ⟨by rfl, ?_⟩) ?_ ?_
    rotate_left
    ·intro w'
     go_simp
     with_reducible rfl
    rotate_left
    ·simp only [Act.put, List.setIfInBounds_toArray, List.set_cons_zero, List.set_cons_succ, i64_w, i32_w]
     rfl
    refine pure_ (i := 4) (N := some 62) (v := ?_) (a' := ?_) (tf 5 12) rfl rfl (any_of HT_.out (by kernel_rfl)) (fun _ _ _ h => h) (Or.inl ⟨by rfl, ?_⟩) ?_ ?_
    rotate_left
    ·intro w'
     go_simp
     with_reducible rfl
    rotate_left
    ·simp only [Act.put, List.setIfInBounds_toArray, List.set_cons_zero, List.set_cons_succ, i64_w, i32_w]
     rfl
    refine pure_ (i := 6) (N := some 64) (v := ?_) (a' := ?_) #[true, true, true, true, true, false, true, false, false, false, false, false, false, false, false, false, false] rfl rfl (any_of HT_.out (by kernel_rfl)) (fun _ _ _ h => h) (Or.inl ⟨by rfl, ?_⟩) ?_ ?_
    rotate_left
    ·intro w'
     go_simp
     with_reducible rfl
    rotate_left
    ·simp only [Act.put, List.setIfInBounds_toArray, List.set_cons_zero, List.set_cons_succ, i64_w, i32_w]
     rfl
    refine pure_ (i := 7) (N := some 65) (v := ?_) (a' := ?_) #[true, true, true, true, true, false, true, true, false, false, false, false, false, false, false, false, false] rfl rfl (any_of HT_.out (by kernel_rfl)) (fun _ _ _ h => h) (Or.inl ⟨by rfl, ?_⟩) ?_ ?_
    rotate_left
    ·intro w'
     go_simp
     with_reducible rfl
    rotate_left
    ·simp only [Act.put, List.setIfInBounds_toArray, List.set_cons_zero, List.set_cons_succ, i64_w, i32_w]
     rfl
    refine pure_ (i := 8) (N := some 66) (v := ?_) (a' := ?_) #[true, true, true, true, true, false, true, true, true, false, false, false, false, false, false, false, false] rfl rfl (any_of HT_.out (by kernel_rfl)) (fun _ _ _ h => h) (Or.inl ⟨by rfl, ?_⟩) ?_ ?_
    rotate_left
    ·intro w'
     go_simp
     with_reducible rfl
    rotate_left
    ·simp only [Act.put, List.setIfInBounds_toArray, List.set_cons_zero, List.set_cons_succ, i64_w, i32_w]
     rfl
    refine pure_ (i := 9) (N := some 67) (v := ?_) (a' := ?_) #[true, true, true, true, true, false, true, true, true, true, false, false, false, false, false, false, false] rfl rfl (any_of HT_.out (by kernel_rfl)) (fun _ _ _ h => h) (Or.inl ⟨by rfl, ?_⟩) ?_ ?_
    rotate_left
    ·intro w'
     go_simp
     with_reducible rfl
    rotate_left
    ·simp only [Act.put, List.setIfInBounds_toArray, List.set_cons_zero, List.set_cons_succ, i64_w, i32_w]
     rfl
    refine pure_ (i := 11) (N := some 69) (v := ?_) (a' := ?_) #[true, true, true, true, true, false, true, true, true, true, false, true, false, false, false, false, false] rfl rfl (any_of HT_.out (by kernel_rfl)) (fun _ _ _ h => h) (Or.inl ⟨by rfl, ?_⟩) ?_ ?_
    rotate_left
    ·intro w'
     go_simp
     with_reducible rfl
    rotate_left
    ·simp only [Act.put, List.setIfInBounds_toArray, List.set_cons_zero, List.set_cons_succ, i64_w, i32_w]
     rfl
    refine pure_ (i := 12) (N := some 70) (v := ?_) (a' := ?_) #[true, true, true, true, true, false, true, true, true, true, false, true, true, false, false, false, false] rfl rfl (any_of HT_.out (by kernel_rfl)) (fun _ _ _ h => h) (Or.inl ⟨by rfl, ?_⟩) ?_ ?_
    rotate_left
    ·intro w'
     go_simp
     with_reducible rfl
    rotate_left
    ·simp only [Act.put, List.setIfInBounds_toArray, List.set_cons_zero, List.set_cons_succ, i64_w, i32_w]
     rfl
    refine pure_ (i := 13) (N := some 71) (v := ?_) (a' := ?_) #[true, true, true, true, true, false, true, true, true, true, false, true, true, true, false, false, false] rfl rfl (any_of HT_.out (by kernel_rfl)) (fun _ _ _ h => h) (Or.inl ⟨by rfl, ?_⟩) ?_ ?_
    rotate_left
    ·intro w'
     go_simp
     with_reducible rfl
    rotate_left
    ·simp only [Act.put, List.setIfInBounds_toArray, List.set_cons_zero, List.set_cons_succ, i64_w, i32_w]
     rfl
    refine pure_ (i := 14) (N := some 72) (v := ?_) (a' := ?_) #[true, true, true, true, true, false, true, true, true, true, false, true, true, true, true, false, false] rfl rfl (any_of HT_.out (by kernel_rfl)) (fun _ _ _ h => h) (Or.inl ⟨by rfl, ?_⟩) ?_ ?_
    rotate_left
    ·intro w'
     go_simp
     with_reducible rfl
    rotate_left
    ·simp only [Act.put, List.setIfInBounds_toArray, List.set_cons_zero, List.set_cons_succ, i64_w, i32_w]
     rfl
    refine take_ (i := 5) (N := some 63) (v := ?_) (a' := ?_) #[true, true, true, true, true, true, true, true, true, true, false, true, true, true, true, false, false] rfl rfl (take_ofW HT_.out HW_.out (by kernel_rfl)) (fun _ _ _ h => h) (Or.inl ⟨by rfl, ?_⟩) hHeld ?_ ?_
    rotate_left
    ·rintro w' ⟨s0, s1, s2⟩
     go_simp
     with_reducible rfl
    rotate_left
    ·simp only [Act.put, List.setIfInBounds_toArray, List.set_cons_zero, List.set_cons_succ, i64_w, i32_w]
     rfl
    refine take_ (i := 10) (N := some 68) (v := ?_) (a' := ?_) (tf 15 2) rfl rfl (take_ofW HT_.out HW_.out (by kernel_rfl)) (fun _ _ _ h => h) (Or.inl ⟨by rfl, ?_⟩) hHeld ?_ ?_
    rotate_left
    ·rintro w' ⟨s0, s1, s2⟩
     go_simp
     with_reducible rfl
    rotate_left
    ·simp only [Act.put, List.setIfInBounds_toArray, List.set_cons_zero, List.set_cons_succ, i64_w, i32_w]
     rfl
    refine take_ (i := 15) (N := some 73) (v := ?_) (a' := ?_) (tf 16 1) rfl rfl (take_ofW HT_.out HW_.out (by kernel_rfl)) (fun _ _ _ h => h) (Or.inl ⟨by rfl, ?_⟩) hHeld ?_ ?_
    rotate_left
    ·rintro w' ⟨s0, s1, s2⟩
     go_simp
     with_reducible rfl
    rotate_left
    ·simp only [Act.put, List.setIfInBounds_toArray, List.set_cons_zero, List.set_cons_succ, i64_w, i32_w]
     rfl
    refine last_ (i := 16) (N := some 74) (tf 17 0) rfl rfl (one_of HT_.out (by kernel_rfl)) (by decide) (fun K hK => ?_)
    refine goes_ Try.func35 (by kernel_rfl) rfl #[ptr g, .int .i64 x.f2, .int .i64 x.f3, .int .i64 x.f4] (by rfl) rfl rfl (by simp only [List.map_toArray, List.map_cons, List.map_nil]; rfl) ?_
    refine (heap_Set.calls x.f2 x.f3 x.f4 H2.out).mono ?_
    rintro e w9 ⟨rfl, hp9, _, hb9⟩
    refine ⟨_, rfl, ?_⟩
    have HB9 := Aside0.mk (HB2.out.trans (hb9.mono HW.out))
    have H9 := Aside0.mk hp9
    clear hb9 hp9
    refine hK.out _ _ ?_
    clear hK K
    refine norm_ (a' := ?_) ?_ ?_
    rotate_left
    ·show Act.put _ (some 74) _ = _
     simp only [Act.put, List.setIfInBounds_toArray, List.set_cons_zero, List.set_cons_succ, i64_w, i32_w]
     rfl
    refine done_ (done_of HT_.out (by kernel_rfl)) ?_
    have HL4 : Aside0 ((setO L x.f2 x.f3 x.f4).length ≤ i + 1 ∧ OkL l0 (setO L x.f2 x.f3 x.f4)) := ⟨by rw [setO_len]; have := HL.out.1; omega, okL_set HL.out.2 _ _ _ HXW.out⟩
    go_wp2
    go_roundw
    case rel => exact ⟨i + 1, lv, _, lok, by go_num, by omega, HL4, HB9, H9⟩
    case measure => simp [intOf]; omega
  ·have HOK := Aside0.mk HL.out.2
   obtain ⟨out, hcame, hcalls⟩ := reach_calls A2 c2 l2 H.out HOK.out HRS.out (Kd.C_below HR2.out HB.out) HC2.out (by have := HL2.out; omega)
   obtain ⟨r, hr⟩ : ∃ r, r = out.mergeSort fun x y => decide (x ≤ y) := ⟨_, rfl⟩
   have HRF := Aside0.mk (rf_of hcame hr)
   rw [← hr] at hcalls
   have HCALL := Aside0.mk hcalls
   clear hcalls hcame hr
   go_wp2_with fail
   refine HCALL.out.mono ?_
   rintro e w4 ⟨v4, rfl, hr4, hb4⟩
   obtain ⟨A4, c4, rfl, hc4, hC4⟩ := Kd.R_reads hr4
   have HB4 := Aside0.mk (below_step HB.out hb4); have H4 := Aside0.mk (H.out.below hb4); have Hc4 := Aside0.mk hc4
   have HLK : Aside0 (∀ k, lok k → ¬ wr.heap.size ≤ k) := ⟨fun k hk => by have := (H.out.lap k hk).2.2; omega⟩
   have HBL : Aside0 (base ≤ wr.heap.size) := ⟨Nat.le_trans H.out.low (Nat.le_of_lt (blk_lt H.out.blk))⟩
   have HC4 : Aside0 ((Kd.int .i64).R 3 w4 wr.heap.size (fun k => wr.heap.size ≤ k) (.slice A4 r.length c4) r) := ⟨Kd.R_mono (Kd.R_bound hr4) (fun k hk => hk.2.1)⟩
   clear hr4 hb4 hc4 hC4 HCALL HB H HL
   generalize wr.heap.size = b4 at HLK HBL HC4
   have hrl : r.length ≤ 1000000000 := HRF.out.len
   go_wp2_with fail
   go_loopw [14, 15, 16, 17, 18] (fun v14 _ _ _ _ wr => ∃ i : Nat, v14 = .int .i64 i ∧ i ≤ r.length ∧ Aside0 (Below w.heap.size w wr) ∧ Aside0 (HP wr base g sv lv l0 L sok lok) ∧ Aside0 ((Kd.int .i64).R 3 wr b4 (fun k => b4 ≤ k) (.slice A4 r.length c4) r)) (fun v14 _ _ _ _ _ => r.length - (intOf v14).toNat)
   case atStart => exact ⟨0, rfl, Nat.zero_le _, HB4, H4, HC4⟩
   case round =>
    clear HB4 H4 HC4
    obtain ⟨i, rfl, hi', HBr, Hr, HCr⟩ := hrel
    by_cases hlt' : i < r.length
    ·have hlti : (i : Int) < (r.length : Int) := by omega
     obtain ⟨ad4, e4, hx4⟩ := Kd.at_int (Kd.R_reads' HCr.out).2.2 (i : Int) (by omega) (by omega)
     subst e4
     simp only [Int.toNat_natCast] at hx4
     obtain ⟨x, hx⟩ : ∃ x, x = rd r (i : Int) := ⟨_, rfl⟩
     have HXR : Aside0 (x ∈ r) := ⟨by rw [hx]; exact rd_mem hlt'⟩
     rw [← hx] at hx4
     have HX := Aside0.mk hx; clear hx
     obtain ⟨ns, hns⟩ : ∃ ns, ns = nearP l0 L x := ⟨_, rfl⟩
     have hnc := near_calls x Hr.out HOK.out HRS.out (HRF.out.is x HXR.out)
     rw [← hns] at hnc
     have HNC := Aside0.mk hnc
     have HNM : Aside0 (∀ y ∈ ns, y ∈ r) := ⟨fun y hy => HRF.out.shut x HXR.out y (by rw [← hns]; exact hy)⟩
     have hnl : ns.length ≤ 1000 := by rw [hns]; exact nearP_len L HRS.out.fields x
     clear hnc hns
     go_wp2_with fail
     refine HNC.out.mono ?_
     rintro e w5 ⟨v5, rfl, hr5, hb5⟩
     obtain ⟨A5, c5, rfl, hc5, hC5⟩ := Kd.R_reads hr5
     have HB5 := Aside0.mk (below_step HBr.out hb5); have H5 := Aside0.mk (Hr.out.below hb5); have HCr5 := Aside0.mk (Kd.R_below HCr.out hb5); have HC5 := Aside0.mk hC5; have Hc5 := Aside0.mk hc5
     replace hx4 := pw_cell_below hb5 hx4
     clear hr5 hb5 hc5 hC5 HNC HBr Hr HCr
     obtain ⟨b0, hb0⟩ : ∃ b0, b0 = l2.contains x := ⟨_, rfl⟩
     have hhc := has_calls A2 c2 l2 x w5 (Kd.C_below HR2.out HB5.out) HC2.out (by have := HL2.out; omega)
     rw [← hb0] at hhc
     have HHC := Aside0.mk hhc; have HB0 := Aside0.mk hb0
     clear hhc hb0
     go_wp2_with fail
     refine HHC.out.mono ?_
     rintro e w6 ⟨rfl, hb6⟩
     have HB6 := Aside0.mk (below_step HB5.out hb6); have H6 := Aside0.mk (H5.out.below hb6); have HCr6 := Aside0.mk (Kd.R_below HCr5.out hb6); have HC6 := Aside0.mk (Kd.C_below HC5.out hb6)
     clear hb6 hx4 HHC HB5 H5 HCr5 HC5
     go_wp2_with fail
     go_loopw [17] (fun v17 wr => ∃ j : Nat, v17 = .int .i64 j ∧ j ≤ ns.length ∧ Aside0 (Below w.heap.size w wr) ∧ Aside0 (HP wr base g sv lv l0 L sok lok) ∧ Aside0 ((Kd.int .i64).R 3 wr b4 (fun k => b4 ≤ k) (.slice (some ad4) r.length c4) r) ∧ Aside0 ((Kd.int .i64).C wr A5 ns.length ns)) (fun v17 _ => ns.length - (intOf v17).toNat)
     case atStart => exact ⟨0, rfl, Nat.zero_le _, HB6, H6, HCr6, HC6⟩
     case round =>
      clear HB6 H6 HCr6 HC6
      obtain ⟨j, rfl, hj, HBj, Hj, HCrj, HCj⟩ := hrel
      by_cases hjn : j < ns.length
      ·have hjni : (j : Int) < (ns.length : Int) := by omega
       obtain ⟨ad5, e5, hx5⟩ := Kd.at_int HCj.out (j : Int) (by omega) (by omega)
       subst e5
       simp only [Int.toNat_natCast] at hx5
       obtain ⟨y, hy⟩ : ∃ y, y = rd ns (j : Int) := ⟨_, rfl⟩
       have hym : y ∈ r := HNM.out y (by rw [hy]; exact rd_mem hjn)
       rw [← hy] at hx5
       have hhc := has_calls (some ad4) c4 r y wr (Kd.R_reads' HCrj.out).2.2 Hc4.out hrl
       rw [contains_of hym] at hhc
       have HHC := Aside0.mk hhc
       clear hhc hym hy
       go_wp2_with fail
       refine HHC.out.mono ?_
       rintro e w7 ⟨rfl, hb7⟩
       have HB7 := Aside0.mk (below_step HBj.out hb7); have H7 := Aside0.mk (Hj.out.below hb7); have HCr7 := Aside0.mk (Kd.R_below HCrj.out hb7); have HC7 := Aside0.mk (Kd.C_below HCj.out hb7)
       clear hb7 hx5 HHC HBj Hj HCrj HCj
       go_wp2
       go_roundw
       case rel => exact ⟨j + 1, by go_num, by omega, HB7, H7, HCr7, HC7⟩
       case measure => simp [intOf]; omega
      ·clear HCj
       go_wp2_with fail
       go_loopw [16, 18] (fun v16 v18 wr => ∃ j : Nat, v18 = .int .i64 j ∧ j ≤ r.length ∧ v16 = .bool (ledQ l0 L r x b0 j) ∧ Aside0 (Below w.heap.size w wr) ∧ Aside0 (HP wr base g sv lv l0 L sok lok) ∧ Aside0 ((Kd.int .i64).R 3 wr b4 (fun k => b4 ≤ k) (.slice (some ad4) r.length c4) r)) (fun _ v18 _ => r.length - (intOf v18).toNat)
       case atStart => exact ⟨0, rfl, Nat.zero_le _, rfl, HBj, Hj, HCrj⟩
       case round =>
        clear HBj Hj HCrj
        obtain ⟨m, rfl, hm, rfl, HBm, Hm, HCm⟩ := hrel
        by_cases hmr : m < r.length
        ·have hmri : (m : Int) < (r.length : Int) := by omega
         obtain ⟨ad4', e4', hxm⟩ := Kd.at_int (Kd.R_reads' HCm.out).2.2 (m : Int) (by omega) (by omega)
         obtain rfl := Option.some.inj e4'
         obtain ⟨ad4', e4'', hxi⟩ := Kd.at_int (Kd.R_reads' HCm.out).2.2 (i : Int) (by omega) (by omega)
         obtain rfl := Option.some.inj e4''
         simp only [Int.toNat_natCast] at hxm hxi
         rw [← HX.out] at hxi
         obtain ⟨z, hz⟩ : ∃ z, z = rd r (m : Int) := ⟨_, rfl⟩
         rw [← hz] at hxm
         have hzr : z ∈ r := by rw [hz]; exact rd_mem hmr
         have HLQ : Aside0 (ledQ l0 L r x b0 (m + 1) = (ledQ l0 L r x b0 m || (nearP l0 L z).contains x)) := ⟨by rw [hz]; rfl⟩
         clear hz
         cases hb : ledQ l0 L r x b0 m with
         | true =>
          have HLT : Aside0 (ledQ l0 L r x b0 (m + 1) = true) := ⟨by rw [HLQ.out, hb]; rfl⟩
          clear hb hzr
          go_upto_region 26 with (fail)
          have HB2 := Aside0.mk (below_drew1 HBm.out)
          have H2 := Aside0.mk (Hm.out.below (below_drew1 (Below.refl _ _)))
          have HC2x := Aside0.mk (Kd.R_below HCm.out (below_drew1 (Below.refl _ _)))
          clear HBm Hm HCm hxm hxi
          refine start_ (n := 15) (S := fun w' => True) (ds := []) (tf 0 15) (by kernel_rfl) rfl rfl trivial (fun hHeld => ?_)
          refine with_tabW truantlaw06_HeapReach.tab26 truantlaw06_HeapReach.bits26 (fun HT_ HW_ => ?_)
          generalize wr.drew = w3a at HB2 H2 HC2x ⊢
          refine pure_ (i := 0) (N := some 115) (v := ?_) (a' := ?_) (tf 1 14) rfl rfl (any_of HT_.out (by kernel_rfl)) (fun _ _ _ h => h) (Or.inl ⟨by rfl, ?_⟩) ?_ ?_
          rotate_left
          ·intro w'
           go_simp
           with_reducible rfl
          rotate_left
          ·simp only [Act.put, List.setIfInBounds_toArray, List.set_cons_zero, List.set_cons_succ, i64_w, i32_w]
           rfl
          refine pure_ (i := 1) (N := some 116) (v := ?_) (a' := ?_) (tf 2 13) rfl rfl (any_of HT_.out (by kernel_rfl)) (fun _ _ _ h => h) (Or.inl ⟨by rfl, ?_⟩) ?_ ?_
          rotate_left
          ·intro w'
           go_simp
           with_reducible rfl
          rotate_left
          ·simp only [Act.put, List.setIfInBounds_toArray, List.set_cons_zero, List.set_cons_succ, i64_w, i32_w]
           rfl
          refine pure_ (i := 2) (N := some 117) (v := undef) (a' := ?_) (tf 3 12) rfl rfl (any_of HT_.out (by kernel_rfl)) (fun _ _ _ h => h) (Or.inr ⟨by rfl, rfl⟩) ?_ ?_
          rotate_left
          ·simp only [Act.put, List.setIfInBounds_toArray, List.set_cons_zero, List.set_cons_succ, i64_w, i32_w]
           rfl
          refine pure_ (i := 3) (N := some 118) (v := undef) (a' := ?_) (tf 4 11) rfl rfl (any_of HT_.out (by kernel_rfl)) (fun _ _ _ h => h) (Or.inr ⟨by rfl, rfl⟩) ?_ ?_
          rotate_left
          ·simp only [Act.put, List.setIfInBounds_toArray, List.set_cons_zero, List.set_cons_succ, i64_w, i32_w]
           rfl
          refine pure_ (i := 4) (N := some 119) (v := undef) (a' := ?_) (tf 5 10) rfl rfl (any_of HT_.out (by kernel_rfl)) (fun _ _ _ h => h) (Or.inr ⟨by rfl, rfl⟩) ?_ ?_
          rotate_left
          ·simp only [Act.put, List.setIfInBounds_toArray, List.set_cons_zero, List.set_cons_succ, i64_w, i32_w]
           rfl
          refine pure_ (i := 5) (N := some 120) (v := undef) (a' := ?_) (tf 6 9) rfl rfl (any_of HT_.out (by kernel_rfl)) (fun _ _ _ h => h) (Or.inr ⟨by rfl, rfl⟩) ?_ ?_
          rotate_left
          ·simp only [Act.put, List.setIfInBounds_toArray, List.set_cons_zero, List.set_cons_succ, i64_w, i32_w]
           rfl
          refine pure_ (i := 6) (N := some 121) (v := undef) (a' := ?_) (tf 7 8) rfl rfl (any_of HT_.out (by kernel_rfl)) (fun _ _ _ h => h) (Or.inr ⟨by rfl, rfl⟩) ?_ ?_
          rotate_left
          ·simp only [Act.put, List.setIfInBounds_toArray, List.set_cons_zero, List.set_cons_succ, i64_w, i32_w]
           rfl
          refine pure_ (i := 7) (N := some 122) (v := undef) (a' := ?_) (tf 8 7) rfl rfl (any_of HT_.out (by kernel_rfl)) (fun _ _ _ h => h) (Or.inr ⟨by rfl, rfl⟩) ?_ ?_
          rotate_left
          ·simp only [Act.put, List.setIfInBounds_toArray, List.set_cons_zero, List.set_cons_succ, i64_w, i32_w]
           rfl
          refine pure_ (i := 8) (N := some 123) (v := undef) (a' := ?_) (tf 9 6) rfl rfl (any_of HT_.out (by kernel_rfl)) (fun _ _ _ h => h) (Or.inr ⟨by rfl, rfl⟩) ?_ ?_
          rotate_left
          ·simp only [Act.put, List.setIfInBounds_toArray, List.set_cons_zero, List.set_cons_succ, i64_w, i32_w]
           rfl
          refine pure_ (i := 9) (N := some 124) (v := undef) (a' := ?_) (tf 10 5) rfl rfl (any_of HT_.out (by kernel_rfl)) (fun _ _ _ h => h) (Or.inr ⟨by rfl, rfl⟩) ?_ ?_
          rotate_left
          ·simp only [Act.put, List.setIfInBounds_toArray, List.set_cons_zero, List.set_cons_succ, i64_w, i32_w]
           rfl
          refine pure_ (i := 10) (N := some 125) (v := undef) (a' := ?_) (tf 11 4) rfl rfl (any_of HT_.out (by kernel_rfl)) (fun _ _ _ h => h) (Or.inr ⟨by rfl, rfl⟩) ?_ ?_
          rotate_left
          ·simp only [Act.put, List.setIfInBounds_toArray, List.set_cons_zero, List.set_cons_succ, i64_w, i32_w]
           rfl
          refine pure_ (i := 11) (N := some 126) (v := undef) (a' := ?_) (tf 12 3) rfl rfl (any_of HT_.out (by kernel_rfl)) (fun _ _ _ h => h) (Or.inr ⟨by rfl, rfl⟩) ?_ ?_
          rotate_left
          ·simp only [Act.put, List.setIfInBounds_toArray, List.set_cons_zero, List.set_cons_succ, i64_w, i32_w]
           rfl
          refine pure_ (i := 12) (N := some 127) (v := undef) (a' := ?_) (tf 13 2) rfl rfl (any_of HT_.out (by kernel_rfl)) (fun _ _ _ h => h) (Or.inr ⟨by rfl, rfl⟩) ?_ ?_
          rotate_left
          ·simp only [Act.put, List.setIfInBounds_toArray, List.set_cons_zero, List.set_cons_succ, i64_w, i32_w]
           rfl
          refine pure_ (i := 13) (N := some 128) (v := ?_) (a' := ?_) (tf 14 1) rfl rfl (any_of HT_.out (by kernel_rfl)) (fun _ _ _ h => h) (Or.inl ⟨by rfl, ?_⟩) ?_ ?_
          rotate_left
          ·intro w'
           go_simp
           with_reducible rfl
          rotate_left
          ·simp only [Act.put, List.setIfInBounds_toArray, List.set_cons_zero, List.set_cons_succ, i64_w, i32_w]
           rfl
          refine pure_ (i := 14) (N := some 16) (v := ?_) (a' := ?_) (tf 15 0) rfl rfl (any_of HT_.out (by kernel_rfl)) (fun _ _ _ h => h) (Or.inl ⟨by rfl, ?_⟩) ?_ ?_
          rotate_left
          ·intro w'
           go_simp
           with_reducible rfl
          rotate_left
          ·simp only [Act.put, List.setIfInBounds_toArray, List.set_cons_zero, List.set_cons_succ, i64_w, i32_w]
           rfl
          refine done_ (done_of HT_.out (by kernel_rfl)) ?_
          go_wp2
          go_roundw
          case rel => exact ⟨m + 1, by go_num, by omega, by rw [HLT.out], HB2, H2, HC2x⟩
          case measure => simp [intOf]; omega
         | false =>
          obtain ⟨nz, hnz⟩ : ∃ nz, nz = nearP l0 L z := ⟨_, rfl⟩
          obtain ⟨bz, hbz⟩ : ∃ bz, bz = nz.contains x := ⟨_, rfl⟩
          have HLT : Aside0 (ledQ l0 L r x b0 (m + 1) = bz) := ⟨by rw [HLQ.out, hb, ← hnz, ← hbz]; rfl⟩
          have HNL : Aside0 (nz.length ≤ 1000) := ⟨by rw [hnz]; exact nearP_len L HRS.out.fields z⟩
          clear hb
          go_upto_region 26 with (fail)
          have HB2 := Aside0.mk (below_drew1 HBm.out)
          have H2 := Aside0.mk (Hm.out.below (below_drew1 (Below.refl _ _)))
          have HC2x := Aside0.mk (Kd.R_below HCm.out (below_drew1 (Below.refl _ _)))
          have HXM := Aside0.mk (pw_cell_below (below_drew1 (Below.refl _ _)) hxm)
          have HXI := Aside0.mk (pw_cell_below (below_drew1 (Below.refl _ _)) hxi)
          have hnc := near_calls z H2.out HOK.out HRS.out (HRF.out.is z hzr)
          rw [← hnz] at hnc
          have HNC := Aside0.mk hnc
          have HBZ := Aside0.mk hbz
          clear HBm Hm HCm hxm hxi hnc hnz hbz hzr
          refine start_ (n := 15) (S := fun w' => w'.cell? (ad4.add m) = some (.int .i64 z) ∧ w'.cell? (ad4.add i) = some (.int .i64 x)) (ds := []) (tf 0 15) (by kernel_rfl) rfl rfl ⟨HXM.out, HXI.out⟩ (fun hHeld => ?_)
          refine with_tabW truantlaw06_HeapReach.tab26 truantlaw06_HeapReach.bits26 (fun HT_ HW_ => ?_)
          generalize wr.drew = w3a at HB2 H2 HC2x HXM HXI HNC hHeld ⊢
          refine pure_ (i := 0) (N := some 115) (v := ?_) (a' := ?_) (tf 1 14) rfl rfl (any_of HT_.out (by kernel_rfl)) (fun _ _ _ h => h) (Or.inl ⟨by rfl, ?_⟩) ?_ ?_
          rotate_left
          ·intro w'
           go_simp
           with_reducible rfl
          rotate_left
          ·simp only [Act.put, List.setIfInBounds_toArray, List.set_cons_zero, List.set_cons_succ, i64_w, i32_w]
           rfl
          refine pure_ (i := 1) (N := some 116) (v := ?_) (a' := ?_) (tf 2 13) rfl rfl (any_of HT_.out (by kernel_rfl)) (fun _ _ _ h => h) (Or.inl ⟨by rfl, ?_⟩) ?_ ?_
          rotate_left
          ·intro w'
           go_simp
           with_reducible rfl
          rotate_left
          ·simp only [Act.put, List.setIfInBounds_toArray, List.set_cons_zero, List.set_cons_succ, i64_w, i32_w]
           rfl
          refine pure_ (i := 2) (N := some 117) (v := ?_) (a' := ?_) (tf 3 12) rfl rfl (any_of HT_.out (by kernel_rfl)) (fun _ _ _ h => h) (Or.inl ⟨by rfl, ?_⟩) ?_ ?_
          rotate_left
          ·intro w'
           go_simp
           with_reducible rfl
          rotate_left
          ·simp only [Act.put, List.setIfInBounds_toArray, List.set_cons_zero, List.set_cons_succ, i64_w, i32_w]
           rfl
          refine pure_ (i := 3) (N := some 118) (v := ?_) (a' := ?_) (tf 4 11) rfl rfl (any_of HT_.out (by kernel_rfl)) (fun _ _ _ h => h) (Or.inl ⟨by rfl, ?_⟩) ?_ ?_
          rotate_left
          ·intro w'
           go_simp
           with_reducible rfl
          rotate_left
          ·simp only [Act.put, List.setIfInBounds_toArray, List.set_cons_zero, List.set_cons_succ, i64_w, i32_w]
           rfl
          refine pure_ (i := 4) (N := some 119) (v := ?_) (a' := ?_) (tf 5 10) rfl rfl (any_of HT_.out (by kernel_rfl)) (fun _ _ _ h => h) (Or.inl ⟨by rfl, ?_⟩) ?_ ?_
          rotate_left
          ·intro w'
           go_simp
           with_reducible rfl
          rotate_left
          ·simp only [Act.put, List.setIfInBounds_toArray, List.set_cons_zero, List.set_cons_succ, i64_w, i32_w]
           rfl
          refine pure_ (i := 5) (N := some 120) (v := ?_) (a' := ?_) (tf 6 9) rfl rfl (any_of HT_.out (by kernel_rfl)) (fun _ _ _ h => h) (Or.inl ⟨by rfl, ?_⟩) ?_ ?_
          rotate_left
          ·intro w'
           go_simp
           with_reducible rfl
          rotate_left
          ·simp only [Act.put, List.setIfInBounds_toArray, List.set_cons_zero, List.set_cons_succ, i64_w, i32_w]
           rfl
          refine pure_ (i := 8) (N := some 123) (v := ?_) (a' := ?_) #[true, true, true, true, true, true, false, false, true, false, false, false, false, false, false] rfl rfl (any_of HT_.out (by kernel_rfl)) (fun _ _ _ h => h) (Or.inl ⟨by rfl, ?_⟩) ?_ ?_
          rotate_left
          ·intro w'
           go_simp
           with_reducible rfl
          rotate_left
          ·simp only [Act.put, List.setIfInBounds_toArray, List.set_cons_zero, List.set_cons_succ, i64_w, i32_w]
           rfl
          refine pure_ (i := 9) (N := some 124) (v := ?_) (a' := ?_) #[true, true, true, true, true, true, false, false, true, true, false, false, false, false, false] rfl rfl (any_of HT_.out (by kernel_rfl)) (fun _ _ _ h => h) (Or.inl ⟨by rfl, ?_⟩) ?_ ?_
          rotate_left
          ·intro w'
           go_simp
           with_reducible rfl
          rotate_left
          ·simp only [Act.put, List.setIfInBounds_toArray, List.set_cons_zero, List.set_cons_succ, i64_w, i32_w]
           rfl
          refine pure_ (i := 10) (N := some 125) (v := ?_) (a' := ?_) #[true, true, true, true, true, true, false, false, true, true, true, false, false, false, false] rfl rfl (any_of HT_.out (by kernel_rfl)) (fun _ _ _ h => h) (Or.inl ⟨by rfl, ?_⟩) ?_ ?_
          rotate_left
          ·intro w'
           go_simp
           with_reducible rfl
          rotate_left
          ·simp only [Act.put, List.setIfInBounds_toArray, List.set_cons_zero, List.set_cons_succ, i64_w, i32_w]
           rfl
          refine take_ (i := 6) (N := some 121) (v := ?_) (a' := ?_) #[true, true, true, true, true, true, true, false, true, true, true, false, false, false, false] rfl rfl (take_ofW HT_.out HW_.out (by kernel_rfl)) (fun _ _ _ h => h) (Or.inl ⟨by rfl, ?_⟩) hHeld ?_ ?_
          rotate_left
          ·rintro w' ⟨s0, s1⟩
           go_simp
           with_reducible rfl
          rotate_left
          ·simp only [Act.put, List.setIfInBounds_toArray, List.set_cons_zero, List.set_cons_succ, i64_w, i32_w]
           rfl
          refine take_ (i := 11) (N := some 126) (v := ?_) (a' := ?_) #[true, true, true, true, true, true, true, false, true, true, true, true, false, false, false] rfl rfl (take_ofW HT_.out HW_.out (by kernel_rfl)) (fun _ _ _ h => h) (Or.inl ⟨by rfl, ?_⟩) hHeld ?_ ?_
          rotate_left
          ·rintro w' ⟨s0, s1⟩
           go_simp
           with_reducible rfl
          rotate_left
          ·simp only [Act.put, List.setIfInBounds_toArray, List.set_cons_zero, List.set_cons_succ, i64_w, i32_w]
           rfl
          refine one_ (i := 7) (N := some 122) (tf 12 3) rfl rfl (one_of HT_.out (by kernel_rfl)) (by decide) (fun K hK => ?_)
          refine goes_ Try.func37 (by kernel_rfl) rfl #[ptr g, .int .i64 z] (by rfl) rfl rfl (by simp only [List.map_toArray, List.map_cons, List.map_nil]; rfl) ?_
          refine HNC.out.mono ?_
          rintro e w5a ⟨v5a, rfl, hr5a, hb5a⟩
          refine ⟨_, rfl, ?_⟩
          obtain ⟨A6, c6, e6, hc6, hC6⟩ := Kd.R_reads hr5a
          subst e6
          have HB5a := Aside0.mk (below_step HB2.out hb5a)
          have H5a := Aside0.mk (H2.out.below hb5a)
          have HC5a := Aside0.mk (Kd.R_below HC2x.out hb5a)
          have HC6 := Aside0.mk hC6
          have Hc6 := Aside0.mk hc6
          clear hr5a hc6 hC6
          refine hK.out _ _ ⟨(pw_cell_below hb5a hHeld.1), (pw_cell_below hb5a hHeld.2)⟩ (fun hHeld => ?_)
          clear hK K
          refine norm_ (a' := ?_) ?_ ?_
          rotate_left
          ·show Act.put _ (some 122) _ = _
           simp only [Act.put, List.setIfInBounds_toArray, List.set_cons_zero, List.set_cons_succ, i64_w, i32_w]
           rfl
          refine one_ (i := 12) (N := some 127) (tf 13 2) rfl rfl (one_of HT_.out (by kernel_rfl)) (by decide) (fun K hK => ?_)
          refine goes_ Try.func38 (by kernel_rfl) rfl #[.slice A6 nz.length c6, .int .i64 x] (by rfl) rfl rfl (by simp only [List.map_toArray, List.map_cons, List.map_nil]; rfl) ?_
          refine (has_calls A6 c6 nz x w5a HC6.out Hc6.out (by have := HNL.out; omega)).mono ?_
          rintro e w9 ⟨e9, hb9⟩
          rw [← HBZ.out] at e9
          subst e9
          refine ⟨_, rfl, ?_⟩
          have HB9 := Aside0.mk (below_step HB5a.out hb9)
          have H9 := Aside0.mk (H5a.out.below hb9)
          have HC9 := Aside0.mk (Kd.R_below HC5a.out hb9)
          refine hK.out _ _ ⟨(pw_cell_below hb9 hHeld.1), (pw_cell_below hb9 hHeld.2)⟩ (fun hHeld => ?_)
          clear hK K
          refine norm_ (a' := ?_) ?_ ?_
          rotate_left
          ·show Act.put _ (some 127) _ = _
           simp only [Act.put, List.setIfInBounds_toArray, List.set_cons_zero, List.set_cons_succ, i64_w, i32_w]
           rfl
          refine pure_ (i := 13) (N := some 128) (v := ?_) (a' := ?_) (tf 14 1) rfl rfl (any_of HT_.out (by kernel_rfl)) (fun _ _ _ h => h) (Or.inl ⟨by rfl, ?_⟩) ?_ ?_
          rotate_left
          ·intro w'
           go_simp
           with_reducible rfl
          rotate_left
          ·simp only [Act.put, List.setIfInBounds_toArray, List.set_cons_zero, List.set_cons_succ, i64_w, i32_w]
           rfl
          refine pure_ (i := 14) (N := some 16) (v := ?_) (a' := ?_) (tf 15 0) rfl rfl (any_of HT_.out (by kernel_rfl)) (fun _ _ _ h => h) (Or.inl ⟨by rfl, ?_⟩) ?_ ?_
          rotate_left
          ·intro w'
           go_simp
           with_reducible rfl
          rotate_left
          ·simp only [Act.put, List.setIfInBounds_toArray, List.set_cons_zero, List.set_cons_succ, i64_w, i32_w]
           rfl
          refine done_ (done_of HT_.out (by kernel_rfl)) ?_
          go_wp2
          go_roundw
          case rel => exact ⟨m + 1, by go_num, by omega, by rw [HLT.out], HB9, H9, HC9⟩
          case measure => simp [intOf]; omega
        ·obtain rfl : m = r.length := by omega
         have hled : ledQ l0 L r x b0 r.length = true := ledQ_all HRF.out HXR.out HB0.out
         rw [hled]
         clear hled
         by_cases hi0 : i = 0
         ·subst hi0
          have hdi : decide (((0 : Nat) : Int) > 0) = false := rfl
          go_wp2_with fail
          go_quiet (fail)
          go_wp2
          go_roundw
          case rel => exact ⟨0 + 1, by go_num, by omega, ⟨by first | exact HBm.out | exact pw_below_drewN HBm.out _⟩, ⟨by first | exact Hm.out | exact Hm.out.below (pw_below_drewN (Below.refl _ _) _)⟩, ⟨by first | exact HCm.out | exact Kd.R_below HCm.out (pw_below_drewN (Below.refl _ _) _)⟩⟩
          case measure => simp [intOf]; omega
         ·obtain ⟨p, hpi⟩ : ∃ p, i = p + 1 := ⟨i - 1, by omega⟩
          have hdi : decide ((i : Int) > 0) = true := decide_eq_true (by omega)
          have hdi2 : decide (0 < i) = true := decide_eq_true (by omega)
          have hip : 0 < i := by omega
          obtain ⟨ad4', e4', hxp⟩ := Kd.at_int (Kd.R_reads' HCm.out).2.2 (p : Int) (by omega) (by omega)
          obtain rfl := Option.some.inj e4'
          obtain ⟨ad4', e4'', hxi⟩ := Kd.at_int (Kd.R_reads' HCm.out).2.2 (i : Int) (by omega) (by omega)
          obtain rfl := Option.some.inj e4''
          have hup := HRF.out.up p i (by omega) hlt'
          simp only [Int.toNat_natCast] at hxp hxi
          obtain ⟨y0, hy0⟩ : ∃ y0, y0 = rd r (p : Int) := ⟨_, rfl⟩
          rw [← HX.out] at hxi hup
          rw [← hy0] at hxp hup
          have hge : decide (y0 ≥ x) = false := decide_eq_false (by omega)
          have hwp : IntKind.i64.wrap ((i : Int) - 1) = p := by rw [show (i : Int) - 1 = p by omega, IntKind.wrap_i64]; omega
          have hpl : (p : Int) < (r.length : Int) := by omega
          clear hup hy0 hpi
          go_wp2_with fail
          go_quiet (fail)
          go_wp2
          go_roundw
          case rel => exact ⟨i + 1, by go_num, by omega, ⟨by first | exact HBm.out | exact pw_below_drewN HBm.out _⟩, ⟨by first | exact Hm.out | exact Hm.out.below (pw_below_drewN (Below.refl _ _) _)⟩, ⟨by first | exact HCm.out | exact Kd.R_below HCm.out (pw_below_drewN (Below.refl _ _) _)⟩⟩
          case measure => simp [intOf]; omega
    ·by_cases hp : 0 < l2.length
     ·have hdp : decide ((l2.length : Int) > 0) = true := decide_eq_true (by omega)
      obtain ⟨At, ct, hcut, hCt, hct⟩ := C_tail (Kd.C_below HR2.out HBr.out) HC2.out hp
      have hll : (l2.drop 1).length ≤ 1000000 := by rw [List.length_drop]; have := HL2.out; omega
      obtain ⟨lt, hlt'⟩ : ∃ lt, lt = l2.drop 1 := ⟨_, rfl⟩
      rw [← hlt'] at hcut hCt hct hll
      obtain ⟨out, hcame, hcalls⟩ := reach_calls At ct lt Hr.out HOK.out HRS.out hCt hct hll
      obtain ⟨ls, hr⟩ : ∃ r, r = out.mergeSort fun x y => decide (x ≤ y) := ⟨_, rfl⟩
      have HLS : Aside0 (∀ x ∈ ls, x ∈ r) := ⟨rf_less HRF.out hcame hr (fun x hx => by rw [hlt'] at hx; exact List.mem_of_mem_drop hx) (fun x => rfl) (fun x y h_ => h_)⟩
      have hsl : ls.length ≤ 1000000000 := by rw [hr, List.length_mergeSort]; exact hcame.len
      rw [← hr] at hcalls
      have HCALL := Aside0.mk hcalls
      clear hcalls hcame hr hCt hct hlt' hll
      go_wp2_with fail
      refine HCALL.out.mono ?_
      rintro e w5 ⟨v5, rfl, hr5, hb5⟩
      obtain ⟨A5, c5, rfl, hc5, hC5⟩ := Kd.R_reads hr5
      have HB5 := Aside0.mk (below_step HBr.out hb5); have H5 := Aside0.mk (Hr.out.below hb5); have HCr5 := Aside0.mk (Kd.R_below HCr.out hb5); have HC5 := Aside0.mk hC5
      clear hr5 hb5 hc5 hC5 HCALL HBr Hr HCr hcut
      go_wp2_with fail
      go_loopw [20] (fun v20 wr => ∃ j : Nat, v20 = .int .i64 j ∧ j ≤ ls.length ∧ Aside0 (Below w.heap.size w wr) ∧ Aside0 (HP wr base g sv lv l0 L sok lok) ∧ Aside0 ((Kd.int .i64).R 3 wr b4 (fun k => b4 ≤ k) (.slice A4 r.length c4) r) ∧ Aside0 ((Kd.int .i64).C wr A5 ls.length ls)) (fun v20 _ => ls.length - (intOf v20).toNat)
      case atStart => exact ⟨0, rfl, Nat.zero_le _, HB5, H5, HCr5, HC5⟩
      case round =>
       clear HB5 H5 HCr5 HC5
       obtain ⟨j, rfl, hj, HBj, Hj, HCrj, HCj⟩ := hrel
       by_cases hjn : j < ls.length
       ·have hjni : (j : Int) < (ls.length : Int) := by omega
        obtain ⟨ad5, e5, hx5⟩ := Kd.at_int HCj.out (j : Int) (by omega) (by omega)
        subst e5
        simp only [Int.toNat_natCast] at hx5
        obtain ⟨y, hy⟩ : ∃ y, y = rd ls (j : Int) := ⟨_, rfl⟩
        have hym : y ∈ r := HLS.out y (by rw [hy]; exact rd_mem hjn)
        rw [← hy] at hx5
        have hhc := has_calls A4 c4 r y wr (Kd.R_reads' HCrj.out).2.2 Hc4.out hrl
        rw [contains_of hym] at hhc
        have HHC := Aside0.mk hhc
        clear hhc hym hy
        go_wp2_with fail
        refine HHC.out.mono ?_
        rintro e w7 ⟨rfl, hb7⟩
        have HB7 := Aside0.mk (below_step HBj.out hb7); have H7 := Aside0.mk (Hj.out.below hb7); have HCr7 := Aside0.mk (Kd.R_below HCrj.out hb7); have HC7 := Aside0.mk (Kd.C_below HCj.out hb7)
        clear hb7 hx5 HHC HBj Hj HCrj HCj
        go_wp2
        go_roundw
        case rel => exact ⟨j + 1, by go_num, by omega, HB7, H7, HCr7, HC7⟩
        case measure => simp [intOf]; omega
       ·clear HCj
        go_wp2_with fail
        refine (heap_Set.calls a3 a4 0 Hj.out).mono ?_
        rintro e w7 ⟨rfl, hp7, hk7, hb7⟩
        have HB7 := Aside0.mk (HBj.out.trans (hb7.mono HW.out)); have H7 := Aside0.mk hp7; have HCr7 := Aside0.mk (Kd.R_kept HCrj.out hk7 (fun k hk h_ => HLK.out k h_ hk))
        clear hb7 hp7 hk7 HBj Hj HCrj
        have HO7 : Aside0 (OkL l0 (setO L a3 a4 0)) := ⟨okL_set HOK.out _ _ _ ⟨by decide, by decide⟩⟩
        obtain ⟨out2, hcame2, hcalls2⟩ := reach_calls A2 c2 l2 H7.out HO7.out HRS.out (Kd.C_below HR2.out HB7.out) HC2.out (by have := HL2.out; omega)
        obtain ⟨la, hr2⟩ : ∃ r, r = out2.mergeSort fun x y => decide (x ≤ y) := ⟨_, rfl⟩
        have HLA : Aside0 (∀ x ∈ la, x ∈ r) := ⟨rf_less HRF.out hcame2 hr2 (fun x hx => hx) (fun x => setO_is _ _ _ _ _) (fun x y h_ => nearP_set h_)⟩
        have hal : la.length ≤ 1000000000 := by rw [hr2, List.length_mergeSort]; exact hcame2.len
        rw [← hr2] at hcalls2
        have HCALL2 := Aside0.mk hcalls2
        clear hcalls2 hcame2 hr2
        go_wp2_with fail
        refine HCALL2.out.mono ?_
        rintro e w8 ⟨v8, rfl, hr8, hb8⟩
        obtain ⟨A8, c8, rfl, hc8, hC8⟩ := Kd.R_reads hr8
        have HB8 := Aside0.mk (below_step HB7.out hb8); have HCr8 := Aside0.mk (Kd.R_below HCr7.out hb8); have HC8 := Aside0.mk hC8
        clear hr8 hb8 hc8 hC8 HCALL2 HB7 H7 HCr7
        go_wp2_with fail
        go_loopw [22] (fun v22 wr => ∃ j : Nat, v22 = .int .i64 j ∧ j ≤ la.length ∧ Aside0 (Below w.heap.size w wr) ∧ Aside0 ((Kd.int .i64).R 3 wr b4 (fun k => b4 ≤ k) (.slice A4 r.length c4) r) ∧ Aside0 ((Kd.int .i64).C wr A8 la.length la)) (fun v22 _ => la.length - (intOf v22).toNat)
        case atStart => exact ⟨0, rfl, Nat.zero_le _, HB8, HCr8, HC8⟩
        case round =>
         clear HB8 HCr8 HC8
         obtain ⟨j, rfl, hj, HBj, HCrj, HCj⟩ := hrel
         by_cases hjn : j < la.length
         ·have hjni : (j : Int) < (la.length : Int) := by omega
          obtain ⟨ad5, e5, hx5⟩ := Kd.at_int HCj.out (j : Int) (by omega) (by omega)
          subst e5
          simp only [Int.toNat_natCast] at hx5
          obtain ⟨y, hy⟩ : ∃ y, y = rd la (j : Int) := ⟨_, rfl⟩
          have hym : y ∈ r := HLA.out y (by rw [hy]; exact rd_mem hjn)
          rw [← hy] at hx5
          have hhc := has_calls A4 c4 r y wr (Kd.R_reads' HCrj.out).2.2 Hc4.out hrl
          rw [contains_of hym] at hhc
          have HHC := Aside0.mk hhc
          clear hhc hym hy
          go_wp2_with fail
          refine HHC.out.mono ?_
          rintro e w7 ⟨rfl, hb7⟩
          have HB7 := Aside0.mk (below_step HBj.out hb7); have HCr7 := Aside0.mk (Kd.R_below HCrj.out hb7); have HC7 := Aside0.mk (Kd.C_below HCj.out hb7)
          clear hb7 hx5 HHC HBj HCrj HCj
          go_wp2
          go_roundw
          case rel => exact ⟨j + 1, by go_num, by omega, HB7, HCr7, HC7⟩
          case measure => simp [intOf]; omega
         ·go_wp2
          go_ret
          exact ⟨rfl, HBj.out⟩
     ·have hdp : decide ((l2.length : Int) > 0) = false := decide_eq_false (by omega)
      go_wp2_with fail
      refine (heap_Set.calls a3 a4 0 Hr.out).mono ?_
      rintro e w7 ⟨rfl, hp7, hk7, hb7⟩
      have HB7 := Aside0.mk (HBr.out.trans (hb7.mono HW.out)); have H7 := Aside0.mk hp7; have HCr7 := Aside0.mk (Kd.R_kept HCr.out hk7 (fun k hk h_ => HLK.out k h_ hk))
      clear hb7 hp7 hk7 HBr Hr HCr
      have HO7 : Aside0 (OkL l0 (setO L a3 a4 0)) := ⟨okL_set HOK.out _ _ _ ⟨by decide, by decide⟩⟩
      obtain ⟨out2, hcame2, hcalls2⟩ := reach_calls A2 c2 l2 H7.out HO7.out HRS.out (Kd.C_below HR2.out HB7.out) HC2.out (by have := HL2.out; omega)
      obtain ⟨la, hr2⟩ : ∃ r, r = out2.mergeSort fun x y => decide (x ≤ y) := ⟨_, rfl⟩
      have HLA : Aside0 (∀ x ∈ la, x ∈ r) := ⟨rf_less HRF.out hcame2 hr2 (fun x hx => hx) (fun x => setO_is _ _ _ _ _) (fun x y h_ => nearP_set h_)⟩
      have hal : la.length ≤ 1000000000 := by rw [hr2, List.length_mergeSort]; exact hcame2.len
      rw [← hr2] at hcalls2
      have HCALL2 := Aside0.mk hcalls2
      clear hcalls2 hcame2 hr2
      go_wp2_with fail
      refine HCALL2.out.mono ?_
      rintro e w8 ⟨v8, rfl, hr8, hb8⟩
      obtain ⟨A8, c8, rfl, hc8, hC8⟩ := Kd.R_reads hr8
      have HB8 := Aside0.mk (below_step HB7.out hb8); have HCr8 := Aside0.mk (Kd.R_below HCr7.out hb8); have HC8 := Aside0.mk hC8
      clear hr8 hb8 hc8 hC8 HCALL2 HB7 H7 HCr7
      go_wp2_with fail
      go_loopw [22] (fun v22 wr => ∃ j : Nat, v22 = .int .i64 j ∧ j ≤ la.length ∧ Aside0 (Below w.heap.size w wr) ∧ Aside0 ((Kd.int .i64).R 3 wr b4 (fun k => b4 ≤ k) (.slice A4 r.length c4) r) ∧ Aside0 ((Kd.int .i64).C wr A8 la.length la)) (fun v22 _ => la.length - (intOf v22).toNat)
      case atStart => exact ⟨0, rfl, Nat.zero_le _, HB8, HCr8, HC8⟩
      case round =>
       clear HB8 HCr8 HC8
       obtain ⟨j, rfl, hj, HBj, HCrj, HCj⟩ := hrel
       by_cases hjn : j < la.length
       ·have hjni : (j : Int) < (la.length : Int) := by omega
        obtain ⟨ad5, e5, hx5⟩ := Kd.at_int HCj.out (j : Int) (by omega) (by omega)
        subst e5
        simp only [Int.toNat_natCast] at hx5
        obtain ⟨y, hy⟩ : ∃ y, y = rd la (j : Int) := ⟨_, rfl⟩
        have hym : y ∈ r := HLA.out y (by rw [hy]; exact rd_mem hjn)
        rw [← hy] at hx5
        have hhc := has_calls A4 c4 r y wr (Kd.R_reads' HCrj.out).2.2 Hc4.out hrl
        rw [contains_of hym] at hhc
        have HHC := Aside0.mk hhc
        clear hhc hym hy
        go_wp2_with fail
        refine HHC.out.mono ?_
        rintro e w7 ⟨rfl, hb7⟩
        have HB7 := Aside0.mk (below_step HBj.out hb7); have HCr7 := Aside0.mk (Kd.R_below HCrj.out hb7); have HC7 := Aside0.mk (Kd.C_below HCj.out hb7)
        clear hb7 hx5 HHC HBj HCrj HCj
        go_wp2
        go_roundw
        case rel => exact ⟨j + 1, by go_num, by omega, HB7, HCr7, HC7⟩
        case measure => simp [intOf]; omega
       ·go_wp2
        go_ret
        exact ⟨rfl, HBj.out⟩
end
set_option maxRecDepth 100000 in
set_option maxHeartbeats 4000000 in
theorem truantlaw06_HeapReach.calls (k : Nat) (A0 : Option Addr) (c0 : Nat) (l0 : List (S43)) (A1 : Option Addr) (c1 : Nat) (l1 : List (S58)) (A2 : Option Addr) (c2 : Nat) (l2 : List Int) (a3 : Int) (a4 : Int) (r : Bool) (w : World) (hr0 : Kd.C k43 w A0 l0.length l0) (hc0 : l0.length ≤ c0) (hr1 : Kd.C k58 w A1 l1.length l1) (hc1 : l1.length ≤ c1) (hr2 : Kd.C (Kd.int .i64) w A2 l2.length l2) (hc2 : l2.length ≤ c2) (h : truantlaw06_HeapReach.f k l0 l1 l2 a3 a4 = some r) :
  Calls Try.prog 7 #[.slice A0 l0.length c0, .slice A1 l1.length c1, .slice A2 l2.length c2, .int .i64 a3, .int .i64 a4] w fun e w' => e = .returned (.bool r) ∧ Below w.heap.size w w' := by
 unfold truantlaw06_HeapReach.f at h
 obtain ⟨gr, hgr, h⟩ := Option.bind_eq_some_iff.mp h
 have HR0 := Aside0.mk hr0; have HC0 := Aside0.mk hc0
 cases gr with
 | true =>
  rw [if_pos rfl] at h
  obtain rfl := Option.some.inj h
  have HGR := Aside0.mk hgr
  clear h hgr hr0 hc0 hr1 hr2 hc2
  go_enter Try.func7, Try.ntmps7
  go_wp2_with fail
  refine (truantlaw06_awake.calls true w rfl).mono ?_
  rintro e w1 ⟨rfl, hb1⟩
  have HB1 := Aside0.mk hb1; clear hb1
  go_wp2_with fail
  refine (truantlaw06_great.calls k A0 c0 l0 true w1 (Kd.C_below HR0.out HB1.out) HC0.out HGR.out).mono ?_
  rintro e w2 ⟨rfl, hd2⟩
  have HB2 := Aside0.mk (below_step HB1.out hd2.below); clear hd2 HB1
  go_wp2
  go_ret
  exact ⟨rfl, HB2.out⟩
 | false =>
  rw [if_neg (by decide)] at h
  by_cases hl : (l1.length : Int) > 80
  ·rw [if_pos hl] at h
   obtain rfl := Option.some.inj h
   have HGR := Aside0.mk hgr
   have hdl : decide ((l1.length : Int) > 80) = true := decide_eq_true hl
   clear h hgr hr0 hc0 hr1 hr2 hc2
   go_enter Try.func7, Try.ntmps7
   go_wp2_with fail
   refine (truantlaw06_awake.calls true w rfl).mono ?_
   rintro e w1 ⟨rfl, hb1⟩
   have HB1 := Aside0.mk hb1; clear hb1
   go_wp2_with fail
   refine (truantlaw06_great.calls k A0 c0 l0 false w1 (Kd.C_below HR0.out HB1.out) HC0.out HGR.out).mono ?_
   rintro e w2 ⟨rfl, hd2⟩
   have HB2 := Aside0.mk (below_step HB1.out hd2.below); clear hd2 HB1
   go_wp2
   go_ret
   exact ⟨rfl, HB2.out⟩
  ·rw [if_neg hl] at h
   by_cases hl2 : (l2.length : Int) > 20
   ·rw [if_pos hl2] at h
    obtain rfl := Option.some.inj h
    have HGR := Aside0.mk hgr
    have hdl : decide ((l1.length : Int) > 80) = false := decide_eq_false hl
    have hdl2 : decide ((l2.length : Int) > 20) = true := decide_eq_true hl2
    clear h hgr hr0 hc0 hr1 hr2 hc2
    go_enter Try.func7, Try.ntmps7
    go_wp2_with fail
    refine (truantlaw06_awake.calls true w rfl).mono ?_
    rintro e w1 ⟨rfl, hb1⟩
    have HB1 := Aside0.mk hb1; clear hb1
    go_wp2_with fail
    refine (truantlaw06_great.calls k A0 c0 l0 false w1 (Kd.C_below HR0.out HB1.out) HC0.out HGR.out).mono ?_
    rintro e w2 ⟨rfl, hd2⟩
    have HB2 := Aside0.mk (below_step HB1.out hd2.below); clear hd2 HB1
    go_wp2
    go_ret
    exact ⟨rfl, HB2.out⟩
   ·rw [if_neg hl2] at h
    obtain ⟨⟨r1, r2⟩, hck, h⟩ := Option.bind_eq_some_iff.mp h
    by_cases hok : decB (RP l0 l1) = true
    case neg => rw [if_neg hok] at h; cases h
    rw [if_pos hok] at h
    obtain rfl := Option.some.inj h
    by_cases hz : r2 = 0
    ·subst hz
     have hrp := decB_of hok
     exact HeapReach.there k A0 c0 l0 A1 c1 l1 A2 c2 l2 a3 a4 r1 w hr0 hc0 hr1 hc1 hr2 hc2 hgr hl hl2 hck hrp.1 hrp.2
    ·exact HeapReach.nil k A0 c0 l0 A1 c1 l1 A2 c2 l2 a3 a4 r1 r2 w hr0 hc0 hr1 hc1 hr2 hc2 hgr hl hl2 hck (bne_iff_ne.mpr hz)
/-- What reads at type t reads as a value of kind K, of which Q holds. -/
structure Opens {α : Type} (P : Program) (t : TypeId) (K : Kd α) (Q : α → Prop) : Prop where
 out : ∀ {H : Type} {enc : TypeId × Value → H} {W : World} {base : Nat} {sp : Nat → Bool} {held : Bool} {fuel : Nat} {cs : List Value} {x : DataW H × List MemPlace},
  (∀ n ∈ x.1.weights P t, n ≤ reachBytes) → DataW.trod enc P W base sp held fuel t cs = some x → ∃ y, K.K W y cs ∧ Q y
section
variable {P : Program}
theorem opens_string {t : TypeId} (ht : P.underlying t = some .string) : Opens P t Kd.string (fun s => s.size ≤ 140737488351232) := by
 constructor
 intro H enc W base sp held fuel cs x hw h
 obtain ⟨s, rfl, rfl, hs⟩ : ∃ s : ByteArray, cs = [.string s] ∧ x = (.lit (.string s.data.toList), []) ∧ s.size ≤ maxLen := by
  cases fuel with
  | zero => simp [DataW.trod] at h
  | succ n =>
   unfold DataW.trod at h
   rw [ht] at h
   split at h <;> simp_all
 refine ⟨s, rfl, ?_⟩
 have := hw s.data.toList.length (by simp [DataW.weights])
 rw [Array.length_toList] at this
 exact this
theorem opens_int {t : TypeId} {q : IntKind} (ht : P.underlying t = some (.int q)) : Opens P t (Kd.int q) (fun n => (Lit.int q n).wf = true) := by
 constructor
 intro H enc W base sp held fuel cs x hw h
 obtain ⟨n, rfl, hs⟩ : ∃ n : Int, cs = [.int q n] ∧ (Lit.int q n).wf = true := by
  cases fuel with
  | zero => simp [DataW.trod] at h
  | succ n =>
   unfold DataW.trod at h
   rw [ht] at h
   split at h <;> simp_all
 exact ⟨n, rfl, hs⟩
theorem weights_all {H : Type} {e : TypeId} : ∀ {ds : List (DataW H)} {d : DataW H}, d ∈ ds → ∀ n ∈ d.weights P e, n ∈ DataW.weightsAll P e ds
 | d0 :: ds, d, hd, n, hn => by
  simp only [DataW.weightsAll, List.mem_append]
  rcases List.mem_cons.mp hd with rfl | h
  ·exact .inl hn
  ·exact .inr (weights_all h n hn)
theorem choose_list {α : Type} {p : Nat → α → Prop} : ∀ {n : Nat}, (∀ i, i < n → ∃ y, p i y) → ∃ ys : List α, ys.length = n ∧ ∀ i y, ys[i]? = some y → p i y
 | 0, _ => ⟨[], rfl, fun i y h => by simp at h⟩
 | n + 1, h => by
  obtain ⟨ys, hl, hy⟩ := choose_list (n := n) (fun i hi => h i (by omega))
  obtain ⟨y, hp⟩ := h n (by omega)
  refine ⟨ys ++ [y], by simp [hl], fun i z hz => ?_⟩
  by_cases hi : i < n
  ·rw [List.getElem?_append_left (by omega)] at hz
   exact hy i z hz
  ·have := (List.getElem?_eq_some_iff.mp hz).1
   simp at this
   have e : i = n := by omega
   subst e
   rw [List.getElem?_append_right (by omega)] at hz
   simp [hl] at hz
   subst hz
   exact hp
theorem opens_slice {α : Type} {t e : TypeId} {K : Kd α} {Q : α → Prop} (he : Opens P e K Q) (ht : P.underlying t = some (.slice e)) (hc : P.cellsOf e = K.sz) (bytes : Nat) (hb : P.bytesOf e = bytes) :
  Opens P t (Kd.slice e K) (fun l => l.length * bytes ≤ 140737488351232 ∧ ∀ x ∈ l, Q x) := by
 constructor
 intro H enc W base sp held fuel cs x hw h
 rcases Deep.open_slice ht h with ⟨rfl, rfl⟩ | ⟨a, len, cap, m, n, D, Pl, rfl, _, hl, hm, hmm, rfl, hel⟩
 ·exact ⟨[], ⟨none, 0, rfl, Nat.le_refl _, Kd.C_nil K W⟩, by simp, by simp⟩
 ·have hlm : len ≤ m := by rw [hmm]; split <;> omega
  have hw' : ∀ i, i < len → ∀ k ∈ (D i).weights P e, k ≤ reachBytes := fun i hi k hk => hw k (by
   simp only [DataW.weights, ht, List.mem_cons, List.mem_append]
   exact .inr (.inl (weights_all (List.mem_map.mpr ⟨i, by simpa using hi, rfl⟩) k hk)))
  obtain ⟨ys, hys, hY⟩ := choose_list (n := len) (p := fun i y => (∃ c, c.length = K.sz ∧ K.K W y c ∧ ∀ j u, c[j]? = some u → W.cell? (a.add (i * K.sz + j)) = some u) ∧ Q y) (fun i hi => by
   obtain ⟨c, h1, h2⟩ := hel i (by omega)
   obtain ⟨y, hy, hq⟩ := he.out (hw' i hi) h2
   obtain ⟨_, h3, h4⟩ := World.cells?_some h1
   rw [hc] at h3 h4
   refine ⟨y, ⟨c, h3, hy, fun j u hu => ?_⟩, hq⟩
   have hj : j < K.sz := by
    have := (List.getElem?_eq_some_iff.mp hu).1
    omega
   have h5 := h4 j hj
   rw [Addr.add_add] at h5
   rw [h5, hu])
  have hlen : len ≤ maxLen := by omega
  refine ⟨ys, ⟨some a, cap, by rw [hys], by omega, rfl, by rw [hys]; unfold maxLen at hlen; omega, fun _ => ⟨a, rfl, fun j p hj => (hY j p hj).1⟩⟩, ?_, ?_⟩
  ·have := hw ((((List.range len).map D).length + ((List.range (m - len)).map fun j => D (len + j)).length) * P.bytesOf e) (by simp [DataW.weights, ht])
   rw [hb] at this
   simp only [List.length_map, List.length_range] at this
   have h2 : len * bytes ≤ (len + (m - len)) * bytes := Nat.mul_le_mul_right _ (by omega)
   rw [hys]
   unfold reachBytes at this
   omega
  ·intro x hx
   obtain ⟨i, hi, rfl⟩ := List.mem_iff_getElem.mp hx
   exact (hY i _ (List.getElem?_eq_getElem hi)).2
/-- The fields from one on. -/
structure OpensF {α : Type} (P : Program) (fs : List Field) (off : Nat) (K : Kd α) (Q : α → Prop) : Prop where
 out : ∀ {H : Type} {enc : TypeId × Value → H} {W : World} {base : Nat} {sp : Nat → Bool} {held : Bool} {fuel : Nat} {cs : List Value} {xs : List (DataW H × List MemPlace)},
  cs.length = off + K.sz → (∀ n ∈ DataW.weightsEach P (fs.map (·.type)) (xs.map (·.1)), n ≤ reachBytes) → (fs.mapM fun f => DataW.trod enc P W base sp held fuel f.type ((cs.drop f.offset).take (P.cellsOf f.type))) = some xs → ∃ y, K.K W y (cs.drop off) ∧ Q y
theorem opensF_last {α : Type} {f : Field} {off t : Nat} {K : Kd α} {Q : α → Prop} (h : Opens P t K Q) (h0 : f.type = t) (hc : P.cellsOf t = K.sz) (ho : f.offset = off) : OpensF P [f] off K Q := by
 constructor
 intro H enc W base sp held fuel cs xs hl hw hm
 subst h0
 simp only [List.mapM_cons, List.mapM_nil, Option.pure_def, Option.bind_eq_bind, Option.bind_some] at hm
 obtain ⟨x, hx, hm⟩ := Option.bind_eq_some_iff.mp hm
 obtain rfl := Option.some.inj hm
 rw [hc, ho, List.take_of_length_le (by rw [List.length_drop]; omega)] at hx
 exact h.out (fun n hn => hw n (by simp [DataW.weightsEach, hn])) hx
theorem opensF_cons {α β : Type} {f : Field} {fs : List Field} {off t : Nat} {K : Kd α} {K1 : Kd β} {Q : α → Prop} {Q1 : β → Prop} (h : Opens P t K Q) (h0 : f.type = t) (hc : P.cellsOf t = K.sz) (ho : f.offset = off) (h1 : OpensF P fs (off + K.sz) K1 Q1) :
  OpensF P (f :: fs) off (Kd.pair K K1) (fun p => Q p.1 ∧ Q1 p.2) := by
 constructor
 intro H enc W base sp held fuel cs xs hl hw hm
 subst h0
 have hl : cs.length = off + (K.sz + K1.sz) := hl
 rw [List.mapM_cons] at hm
 simp only [Option.pure_def, Option.bind_eq_bind] at hm
 obtain ⟨x, hx, hm⟩ := Option.bind_eq_some_iff.mp hm
 obtain ⟨xs', hxs, hm⟩ := Option.bind_eq_some_iff.mp hm
 obtain rfl := Option.some.inj hm
 rw [hc, ho] at hx
 obtain ⟨y, hy, hq⟩ := h.out (fun n hn => hw n (by simp only [List.map_cons, DataW.weightsEach, List.mem_append]; exact .inl hn)) hx
 obtain ⟨z, hz, hq1⟩ := h1.out (by omega) (fun n hn => hw n (by simp only [List.map_cons, DataW.weightsEach, List.mem_append]; exact .inr hn)) hxs
 refine ⟨(y, z), ⟨(cs.drop off).take K.sz, cs.drop (off + K.sz), ?_, hy, hz⟩, hq, hq1⟩
 rw [← List.drop_drop, List.take_append_drop]
theorem opens_struct {α β : Type} {t : TypeId} {fs : Array Field} {K : Kd α} {Q : α → Prop} (ht : P.underlying t = some (.struct fs)) (h : OpensF P fs.toList 0 K Q) (hc : P.cellsOf t = K.sz) (g : β → α) (g' : α → β) (hg : ∀ y, g (g' y) = y) : Opens P t (Kd.iso K g) (fun x => Q (g x)) := by
 constructor
 intro H enc W base sp held fuel cs x hw hm
 cases fuel with
 | zero => simp [DataW.trod] at hm
 | succ n =>
  unfold DataW.trod at hm
  rw [ht] at hm
  simp only at hm
  split at hm
  ·rename_i hl
   obtain ⟨xs, hxs, rfl⟩ := Option.map_eq_some_iff.mp hm
   obtain ⟨y, hy, hq⟩ := h.out (cs := cs) (xs := xs) (by rw [hl, hc]; omega) (fun n hn => hw n (by simp only [DataW.weights, ht]; exact hn)) hxs
   exact ⟨g' y, by show K.K W (g (g' y)) cs; rw [hg]; simpa using hy, by show Q (g (g' y)); rw [hg]; exact hq⟩
  ·cases hm
theorem opens_struct' {α β : Type} {t : TypeId} {fs : Array Field} {K : Kd α} {Q : α → Prop} {k : Kd β} {WF : β → Prop} (g' : α → β) (g : β → α) (ht : P.underlying t = some (.struct fs)) (h : OpensF P fs.toList 0 K Q) (hc : P.cellsOf t = K.sz) (hk : k = Kd.iso K g) (hg : ∀ y, g (g' y) = y) (hQ : ∀ x, Q (g x) → WF x) : Opens P t k WF := by
 subst hk
 constructor
 intro H enc W base sp held fuel cs x hw hm
 obtain ⟨y, h1, h2⟩ := (opens_struct ht h hc g g' hg).out hw hm
 exact ⟨y, h1, hQ y h2⟩
end
def WF48 (x : S48) : Prop := ((fun s : ByteArray => s.size ≤ 140737488351232) x.f0) ∧ ((fun s : ByteArray => s.size ≤ 140737488351232) x.f1)
theorem opens48 : Opens Try.prog 48 k48 WF48 :=
 opens_struct' (fun p : (ByteArray) × (ByteArray) => (⟨p.1, p.2⟩ : S48)) (fun x : S48 => (x.f0, x.f1)) Try.underlying48 (opensF_cons (opens_string Try.underlying9) rfl (by kernel_rfl) rfl (opensF_last (opens_string Try.underlying9) rfl (by kernel_rfl) rfl)) (by kernel_rfl) rfl (fun _ => rfl) (fun _ h => h)
def WF43 (x : S43) : Prop := ((fun s : ByteArray => s.size ≤ 140737488351232) x.f0) ∧ ((fun l : List (S48) => l.length * 32 ≤ 140737488351232 ∧ ∀ x ∈ l, WF48 x) x.f1)
theorem opens43 : Opens Try.prog 43 k43 WF43 :=
 opens_struct' (fun p : (ByteArray) × (List (S48)) => (⟨p.1, p.2⟩ : S43)) (fun x : S43 => (x.f0, x.f1)) Try.underlying43 (opensF_cons (opens_string Try.underlying9) rfl (by kernel_rfl) rfl (opensF_last (opens_slice opens48 Try.underlying41 (by kernel_rfl) 32 (by kernel_rfl)) rfl (by kernel_rfl) rfl)) (by kernel_rfl) rfl (fun _ => rfl) (fun _ h => h)
def WF58 (x : S58) : Prop := ((fun n : Int => (Lit.int .i64 n).wf = true) x.f0) ∧ ((fun s : ByteArray => s.size ≤ 140737488351232) x.f1) ∧ ((fun n : Int => (Lit.int .i64 n).wf = true) x.f2) ∧ ((fun n : Int => (Lit.int .i64 n).wf = true) x.f3) ∧ ((fun n : Int => (Lit.int .i64 n).wf = true) x.f4)
theorem opens58 : Opens Try.prog 58 k58 WF58 :=
 opens_struct' (fun p : (Int) × (ByteArray) × (Int) × (Int) × (Int) => (⟨p.1, p.2.1, p.2.2.1, p.2.2.2.1, p.2.2.2.2⟩ : S58)) (fun x : S58 => (x.f0, x.f1, x.f2, x.f3, x.f4)) Try.underlying58 (opensF_cons (opens_int Try.underlying3) rfl (by kernel_rfl) rfl (opensF_cons (opens_string Try.underlying9) rfl (by kernel_rfl) rfl (opensF_cons (opens_int Try.underlying3) rfl (by kernel_rfl) rfl (opensF_cons (opens_int Try.underlying3) rfl (by kernel_rfl) rfl (opensF_last (opens_int Try.underlying3) rfl (by kernel_rfl) rfl))))) (by kernel_rfl) rfl (fun _ => rfl) (fun _ h => h)
noncomputable def HeapReach.Pure : Prop := ∀ (l0 : List (S43)) (l1 : List (S58)) (l2 : List Int) (a3 : Int) (a4 : Int), (fun l : List (S43) => l.length * 40 ≤ 140737488351232 ∧ ∀ x ∈ l, WF43 x) l0 → (fun l : List (S58) => l.length * 48 ≤ 140737488351232 ∧ ∀ x ∈ l, WF58 x) l1 → (fun l : List Int => l.length * 8 ≤ 140737488351232 ∧ ∀ x ∈ l, (fun n : Int => (Lit.int .i64 n).wf = true) x) l2 → (fun n : Int => (Lit.int .i64 n).wf = true) a3 → (fun n : Int => (Lit.int .i64 n).wf = true) a4 → ∃ k, truantlaw06_HeapReach.f k l0 l1 l2 a3 a4 = some true
end Go.Proofs.Ytonmlncejikbiaa.Q
namespace Go.Proofs.Ytonmlncejikbiaa.Q
open Go.RowKit Go.Proofs.YtonmlncejikbiaaW.PrintWords Go.Proofs.YtonmlncejikbiaaW.PrintLast Go.Proofs.YtonmlncejikbiaaW.PrintMore
attribute [local go_sem] max2_int min2_int max_two min_two max_three min_three max_four min_four   -- for this text's walks alone
set_option linter.unusedVariables false
set_option linter.unusedSimpArgs false
/-! ### truantref03_Is: function 22 -/
def truantref03_Is.f (k : Nat) (l0 : List (S43)) (a1 : ByteArray) : Option (Bool) := if a1.toList = ([105, 110, 116] : List UInt8) then (some true) else (if a1.toList = ([98, 111, 111, 108] : List UInt8) then (some true) else (if (a1.size : Int) > 0 then (if 0 < (a1.size : Int) then (if (bt a1 0) = 42 then (if 1 ≤ (a1.size : Int) then ((truantref03_Find.f k l0 (a1.extract 1 a1.size)).bind fun t102 => (some (decide (t102 ≥ 0)))) else (none)) else (some false)) else (none)) else (some false)))
theorem truantref03_Is.mono : ∀ a0 a1 k, LeO (truantref03_Is.f k a0 a1) (truantref03_Is.f (k + 1) a0 a1) := by
 intro a0 a1 k
 unfold truantref03_Is.f
 repeat' first
   | (with_reducible exact truantref03_Find.mono _ _ _)
   | (with_reducible exact LeO.refl _)
   | (with_reducible exact LeO.none _)
   | (with_reducible refine LeO.ite ?_ ?_)
   | (with_reducible refine LeO.bind ?_ (fun _ => ?_))
   | exact truantref03_Find.mono _ _ _
   | exact LeO.none _
   | refine LeO.ite ?_ ?_
   | refine LeO.bind ?_ (fun _ => ?_)
set_option maxHeartbeats 8000000 in
set_option maxRecDepth 100000 in
theorem truantref03_Is.calls (k : Nat) (A0 : Option Addr) (c0 : Nat) (l0 : List (S43)) (a1 : ByteArray) (r : Bool) (w : World) (hr0 : Kd.C k43 w A0 l0.length l0) (hc0 : l0.length ≤ c0) (h : truantref03_Is.f k l0 a1 = some r) :
  Calls Try.prog 22 #[.slice A0 l0.length c0, .string a1] w fun e w' => e = .returned (.bool r) ∧ Drawn0 w w' := by
 have HR0 := Aside0.mk hr0
 have HC0 := Aside0.mk hc0
 clear hr0 hc0
 have H : (if a1.toList = ([105, 110, 116] : List UInt8) then (some true) else (if a1.toList = ([98, 111, 111, 108] : List UInt8) then (some true) else (if (a1.size : Int) > 0 then (if 0 < (a1.size : Int) then (if (bt a1 0) = 42 then (if 1 ≤ (a1.size : Int) then ((truantref03_Find.f k l0 (a1.extract 1 a1.size)).bind fun t102 => (some (decide (t102 ≥ 0)))) else (none)) else (some false)) else (none)) else (some false)))) = some r := h
 clear h
 by_cases c3 : a1.toList = ([105, 110, 116] : List UInt8)
 ·rw [if_pos c3] at H
  have c3b0 : (a1.toList == ([105, 110, 116] : List UInt8)) = true := beq_iff_eq.mpr c3
  have c3b1 : (a1.toList != ([105, 110, 116] : List UInt8)) = false := bne_eq_false_iff_eq.mpr c3
  clear c3
  obtain rfl := Option.some.inj H
  go_enter Try.func22, Try.ntmps22
  go_wp2
  go_ret
  exact ⟨by first | rfl | (simp; done) | (simp [*]; done), by repeat (first | exact Drawn0.refl _ | apply Drawn0.step)⟩
 ·rw [if_neg c3] at H
  have c3b0 : (a1.toList == ([105, 110, 116] : List UInt8)) = false := beq_eq_false_iff_ne.mpr c3
  have c3b1 : (a1.toList != ([105, 110, 116] : List UInt8)) = true := bne_iff_ne.mpr c3
  by_cases c4 : a1.toList = ([98, 111, 111, 108] : List UInt8)
  ·rw [if_pos c4] at H
   have c4b0 : (a1.toList == ([98, 111, 111, 108] : List UInt8)) = true := beq_iff_eq.mpr c4
   have c4b1 : (a1.toList != ([98, 111, 111, 108] : List UInt8)) = false := bne_eq_false_iff_eq.mpr c4
   clear c4
   obtain rfl := Option.some.inj H
   go_enter Try.func22, Try.ntmps22
   go_wp2
   go_ret
   exact ⟨by first | rfl | (simp; done) | (simp [*]; done), by repeat (first | exact Drawn0.refl _ | apply Drawn0.step)⟩
  ·rw [if_neg c4] at H
   have c4b0 : (a1.toList == ([98, 111, 111, 108] : List UInt8)) = false := beq_eq_false_iff_ne.mpr c4
   have c4b1 : (a1.toList != ([98, 111, 111, 108] : List UInt8)) = true := bne_iff_ne.mpr c4
   by_cases c5 : (a1.size : Int) > 0
   ·rw [if_pos c5] at H
    have c5b0 : decide (0 < (a1.size : Int)) = true := decide_eq_true c5
    have c5b1 : decide (0 < a1.size) = true := decide_eq_true (by omega)
    clear c5
    by_cases c6 : 0 < (a1.size : Int)
    ·rw [if_pos c6] at H
     have c6b0 : decide (0 < (a1.size : Int)) = true := decide_eq_true c6
     have c6b1 : decide (0 < a1.size) = true := decide_eq_true (by omega)
     clear c6
     by_cases c8 : (bt a1 0) = 42
     ·rw [if_pos c8] at H
      have c8b0 : ((bt a1 0) == 42) = true := beq_iff_eq.mpr c8
      have c8b1 : ((bt a1 0) != 42) = false := bne_eq_false_iff_eq.mpr c8
      clear c8
      by_cases c9 : 1 ≤ (a1.size : Int)
      ·rw [if_pos c9] at H
       have c9b0 := eq_true c9
       have c9b1 : decide (1 ≤ (a1.size : Int)) = true := decide_eq_true c9
       clear c9
       replace H := Option.bind_eq_some_iff.mp H
       obtain ⟨t102, A100, H⟩ := H
       replace H : (some (decide (t102 ≥ 0))) = some r := H
       have A10 := Aside0.mk A100
       clear A100
       obtain rfl := Option.some.inj H
       have p7 : 0 ≤ (0 : Int) := (by omega)
       have q7 : 0 < a1.size := (by have : (0 : Int) < (a1.size : Int) := of_decide_eq_true (by first | (with_reducible assumption) | assumption); omega)
       have hx7 : ∀ h : 0 < a1.size, ((a1[0]'h).toNat : Int) = bt a1 0 := bt_at a1 0
       clear p7
       have qi7 : (0 < (a1.size : Int)) = True := eq_true (of_decide_eq_true (by first | (with_reducible assumption) | assumption))
       replace q7 := eq_true q7
       go_enter Try.func22, Try.ntmps22
       go_wp2_with (first | (go_at_call 19; (with_reducible refine (truantref03_Find.calls k _ _ l0 (a1.extract 1 a1.size) t102 _ ?side1 ?side2 A10.out).mono ?_); (case side1 => repeat (first | exact HR0.out | (with_reducible refine Kd.C_alloc ?_ _) | (with_reducible refine Kd.C_drewN ?_ _) | (with_reducible refine Kd.C_drew ?_))); (case side2 => exact HC0.out); rintro e w' ⟨rfl, ⟨nd, rfl⟩⟩))
       go_ret
       exact ⟨by first | rfl | (simp; done) | (simp [*]; done), by repeat (first | exact Drawn0.refl _ | apply Drawn0.step)⟩
      ·rw [if_neg c9] at H
       exact absurd H (by simp)
     ·rw [if_neg c8] at H
      have c8b0 : ((bt a1 0) == 42) = false := beq_eq_false_iff_ne.mpr c8
      have c8b1 : ((bt a1 0) != 42) = true := bne_iff_ne.mpr c8
      obtain rfl := Option.some.inj H
      have p7 : 0 ≤ (0 : Int) := (by omega)
      have q7 : 0 < a1.size := (by have : (0 : Int) < (a1.size : Int) := of_decide_eq_true (by first | (with_reducible assumption) | assumption); omega)
      have hx7 : ∀ h : 0 < a1.size, ((a1[0]'h).toNat : Int) = bt a1 0 := bt_at a1 0
      clear p7
      have qi7 : (0 < (a1.size : Int)) = True := eq_true (of_decide_eq_true (by first | (with_reducible assumption) | assumption))
      replace q7 := eq_true q7
      go_enter Try.func22, Try.ntmps22
      go_wp2
      go_ret
      exact ⟨by first | rfl | (simp; done) | (simp [*]; done), by repeat (first | exact Drawn0.refl _ | apply Drawn0.step)⟩
    ·rw [if_neg c6] at H
     exact absurd H (by simp)
   ·rw [if_neg c5] at H
    have c5b0 : decide (0 < (a1.size : Int)) = false := decide_eq_false c5
    have c5b1 : decide (0 < a1.size) = false := decide_eq_false (by omega)
    clear c5
    obtain rfl := Option.some.inj H
    go_enter Try.func22, Try.ntmps22
    go_wp2
    go_ret
    exact ⟨by first | rfl | (simp; done) | (simp [*]; done), by repeat (first | exact Drawn0.refl _ | apply Drawn0.step)⟩
end Go.Proofs.Ytonmlncejikbiaa.Q
