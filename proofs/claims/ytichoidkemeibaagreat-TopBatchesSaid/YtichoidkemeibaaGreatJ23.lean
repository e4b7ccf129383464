/-
  The orders of edges and of words, for a sort.
  slices.SortFunc at edges: the kit's contract, laid at this program (written by the kit's lay-plain).
  slices.SortFunc at texts: the kit's contract, laid at this program (written by the kit's lay-plain).
  slices.SortFunc on a row of edges, of texts, of the call's own.
  Elements once each: the walks.
  A graph made normal: what has been made so far.
-/
import Derived.Test.YtichoidkemeibaaGreatJ06
import Derived.Test.YtichoidkemeibaaGreatProg
import Derived.Test.YtichoidkemeibaaGreatJ22
import Derived.Test.YtichoidkemeibaaGreatJ07
import Derived.Shelf.SlSortCmp.WholeK
import Derived.Shelf.SlSortCmp.Whole1
import Derived.Shelf.SlSortCmp.NoneTotal
namespace Go.Proofs.YtichoidkemeibaaGreat
open Go.RowKit Go.Shelf Go.Lib Go.Sort

theorem two_allocs (W : World) (o1 o2 : Obj) : (W.alloc o1).alloc o2 = grow W (#[o1] ++ #[o2]) := by
  simp only [grow, World.alloc]
  congr 1

set_option maxRecDepth 100000 in
set_option maxHeartbeats 1000000 in
theorem ordE_grow (x y : Edg) (W : World) : Calls Tryz.prog 140 #[.agg (ec x).toArray, .agg (ec y).toArray] W fun e w' => e = .returned (.int .i64 (cmpE x y)) ∧ ∃ q os', w' = grow (W.drewN q) os' := by
  unfold ec
  go_enter Tryz.func140, Tryz.ntmps140
  go_wp2_with (fail)
  have h1 : ((W.alloc (.cells #[.int .i64 x.src, .int .i64 x.dst] 73)).alloc (.cells #[.int .i64 y.src, .int .i64 y.dst] 73)).heap[W.heap.size]? = some (.cells #[.int .i64 x.src, .int .i64 x.dst] 73 (0, 0)) := by
    rw [Below.heap_alloc _ _ _ (by simp)]; exact Array.getElem?_push_size
  have h2 : ((W.alloc (.cells #[.int .i64 x.src, .int .i64 x.dst] 73)).alloc (.cells #[.int .i64 y.src, .int .i64 y.dst] 73)).heap[W.heap.size + 1]? = some (.cells #[.int .i64 y.src, .int .i64 y.dst] 73 (0, 0)) := by
    rw [← World.size_alloc W (.cells #[.int .i64 x.src, .int .i64 x.dst] 73)]; exact Array.getElem?_push_size
  have h3 := two_allocs W (.cells #[.int .i64 x.src, .int .i64 x.dst] 73) (.cells #[.int .i64 y.src, .int .i64 y.dst] 73)
  generalize ((W.alloc (.cells #[.int .i64 x.src, .int .i64 x.dst] 73)).alloc (.cells #[.int .i64 y.src, .int .i64 y.dst] 73)) = w2 at h1 h2 h3 ⊢
  have a0 : w2.cell? ⟨W.heap.size, 0, none⟩ = some (.int .i64 x.src) := by rw [Lib.cell_of_heap h1]; rfl
  have a1 : w2.cell? ⟨W.heap.size, 1, none⟩ = some (.int .i64 x.dst) := by rw [Lib.cell_of_heap h1]; rfl
  have b0 : w2.cell? ⟨W.heap.size + 1, 0, none⟩ = some (.int .i64 y.src) := by rw [Lib.cell_of_heap h2]; rfl
  have b1 : w2.cell? ⟨W.heap.size + 1, 1, none⟩ = some (.int .i64 y.dst) := by rw [Lib.cell_of_heap h2]; rfl
  have H3 : Hid (w2.drew = grow (W.drewN 1) _) := show w2.drew = _ from by rw [h3]; rfl
  clear h1 h2 h3
  refine wp_region_still_tail 10 (by kernel_rfl) (by kernel_rfl) ?_
  simp only [List.take_succ_cons, List.take_zero, List.drop_succ_cons, List.drop_zero]
  obtain ⟨w3, hw3⟩ : ∃ w3, w3 = w2.drew := ⟨_, rfl⟩
  change w2.drew.cell? _ = _ at a0 a1 b0 b1
  rw [← hw3] at a0 a1 b0 b1 H3
  change wpStill _ _ w2.drew (fun a' => wpList _ _ _ _ a' w2.drew) _ _
  rw [← hw3]
  clear hw3
  repeat still_step
  still_call (compare_cG _ _ _)
  repeat still_step
  still_call (compare_cG _ _ _)
  repeat still_step
  refine wpStill_nil ?_
  go_wp2_with (fail)
  have hn : (w3.alloc (.cells #[.int .i64 (compareInt x.src y.src), .int .i64 (compareInt x.dst y.dst)] 3)).heap[w3.heap.size]? = some (.cells #[.int .i64 (compareInt x.src y.src), .int .i64 (compareInt x.dst y.dst)] 3 (0, 0)) := Array.getElem?_push_size
  refine (or_cG _ _ _ _ (by rw [Lib.cell_of_heap hn]; rfl) (by rw [Lib.cell_of_heap hn]; rfl)).mono ?_
  rintro e w4 ⟨rfl, rfl⟩
  go_wp2_with (fail)
  go_ret
  obtain ⟨os3, H4⟩ : ∃ os, w3 = grow (W.drewN 1) os := ⟨_, H3.out⟩
  clear H3 a0 a1 b0 b1 hn
  subst H4
  exact ⟨rfl, 1, _, (alloc_eq_grow _ _).trans (grow_grow _ _ _)⟩

theorem ordW_grow (x y : ByteArray) (W : World) : Calls Tryz.prog 137 #[.string x, .string y] W fun e w' => e = .returned (.int .i64 (cmpW x y)) ∧ ∃ q os', w' = grow (W.drewN q) os' := by
  refine (ordW_c x y W).mono ?_
  rintro e w' ⟨rfl, rfl⟩
  exact ⟨rfl, 0, #[], by rw [grow_empty]; rfl⟩

theorem lt_cmpE (x y : Edg) : ltOf cmpE x y = decide (lessE x y) := by
  unfold ltOf
  rw [Bool.eq_iff_iff, decide_eq_true_iff, decide_eq_true_iff]
  exact cmpE_neg x y
theorem lt_cmpW (x y : ByteArray) : ltOf cmpW x y = decide (ltW x y) := by
  unfold ltOf
  rw [Bool.eq_iff_iff, decide_eq_true_iff, decide_eq_true_iff]
  exact cmpW_neg x y
theorem swo_cmpE : SWO (ltOf cmpE) where
  irrefl x := by rw [lt_cmpE]; simp only [decide_eq_false_iff_not]; unfold lessE; omega
  trans x y z h1 h2 := by rw [lt_cmpE] at *; simp only [decide_eq_true_eq] at *; unfold lessE at *; omega
  ntrans x y z h1 h2 := by rw [lt_cmpE] at *; simp only [decide_eq_false_iff_not] at *; unfold lessE at *; omega
theorem swo_cmpW : SWO (ltOf cmpW) where
  irrefl x := by rw [lt_cmpW]; simp only [decide_eq_false_iff_not]; exact List.lt_irrefl _
  trans x y z h1 h2 := by rw [lt_cmpW] at *; simp only [decide_eq_true_eq] at *; exact List.lt_trans h1 h2
  ntrans x y z h1 h2 := by
    rw [lt_cmpW] at *
    simp only [decide_eq_false_iff_not] at *
    exact List.not_lt.2 (List.le_trans (List.not_lt.1 h2) (List.not_lt.1 h1))
end Go.Proofs.YtichoidkemeibaaGreat

namespace Go.Proofs.YtichoidkemeibaaGreat
open Go.Shelf
def sortEdge_ren : Go.Shelf.Ren := ⟨fun | 6 => 161 | 15 => 92 | 14 => 173 | 28 => 133 | 29 => 134 | 20 => 176 | 21 => 177 | 22 => 178 | 23 => 179 | 24 => 180 | 25 => 181 | 26 => 182 | 27 => 183 | 46 => 192 | 47 => 148 | 48 => 149 | 49 => 193 | 50 => 194 | 57 => 198 | n => n, fun | 22 => 74 | 24 => 73 | 25 => 161 | 3 => 3 | 39 => 113 | 0 => 0 | 53 => 181 | 55 => 183 | 4 => 4 | 46 => 175 | 45 => 174 | 50 => 65 | 5 => 5 | 9 => 9 | 66 => 198 | 70 => 202 | 76 => 213 | 77 => 214 | n => n, fun | n => n⟩
theorem sortEdge : Go.Proofs.SlLaysF0.n6 Tryz.prog sortEdge_ren := {
  mixed := by kernel_rfl
  f6 := ⟨Tryz.f161.name, by decide, Tryz.func161.trans (congrArg some (by kernel_rfl))⟩
  f14 := ⟨Tryz.f173.name, by decide, Tryz.func173.trans (congrArg some (by kernel_rfl))⟩
  f15 := Tryz.func92.trans (congrArg some (by kernel_rfl))
  f20 := ⟨Tryz.f176.name, by decide, Tryz.func176.trans (congrArg some (by kernel_rfl))⟩
  f21 := ⟨Tryz.f177.name, by decide, Tryz.func177.trans (congrArg some (by kernel_rfl))⟩
  f22 := ⟨Tryz.f178.name, by decide, Tryz.func178.trans (congrArg some (by kernel_rfl))⟩
  f23 := ⟨Tryz.f179.name, by decide, Tryz.func179.trans (congrArg some (by kernel_rfl))⟩
  f24 := ⟨Tryz.f180.name, by decide, Tryz.func180.trans (congrArg some (by kernel_rfl))⟩
  f25 := ⟨Tryz.f181.name, by decide, Tryz.func181.trans (congrArg some (by kernel_rfl))⟩
  f26 := ⟨Tryz.f182.name, by decide, Tryz.func182.trans (congrArg some (by kernel_rfl))⟩
  f27 := ⟨Tryz.f183.name, by decide, Tryz.func183.trans (congrArg some (by kernel_rfl))⟩
  f28 := Tryz.func133.trans (congrArg some (by kernel_rfl))
  f29 := Tryz.func134.trans (congrArg some (by kernel_rfl))
  f46 := ⟨Tryz.f192.name, by decide, Tryz.func192.trans (congrArg some (by kernel_rfl))⟩
  f47 := Tryz.func148.trans (congrArg some (by kernel_rfl))
  f48 := Tryz.func149.trans (congrArg some (by kernel_rfl))
  f49 := ⟨Tryz.f193.name, by decide, Tryz.func193.trans (congrArg some (by kernel_rfl))⟩
  f50 := ⟨Tryz.f194.name, by decide, Tryz.func194.trans (congrArg some (by kernel_rfl))⟩
  f57 := ⟨Tryz.f198.name, by decide, Tryz.func198.trans (congrArg some (by kernel_rfl))⟩
  t0 := Tryz.underlying0
  a0 := Tryz.isAgg0
  z0 := Tryz.sizeOf0
  v0 := Tryz.zeroValue0
  t3 := Tryz.underlying3
  a3 := Tryz.isAgg3
  z3 := Tryz.sizeOf3
  v3 := Tryz.zeroValue3
  t4 := Tryz.underlying4
  a4 := Tryz.isAgg4
  z4 := Tryz.sizeOf4
  v4 := Tryz.zeroValue4
  t5 := Tryz.underlying5
  a5 := Tryz.isAgg5
  z5 := Tryz.sizeOf5
  v5 := Tryz.zeroValue5
  t9 := Tryz.underlying9
  a9 := Tryz.isAgg9
  z9 := Tryz.sizeOf9
  v9 := Tryz.zeroValue9
  t22 := Tryz.underlying74
  a22 := Tryz.isAgg74
  z22 := Tryz.sizeOf74
  v22 := Tryz.zeroValue74
  t25 := Tryz.underlying161
  a25 := Tryz.isAgg161
  z25 := Tryz.sizeOf161
  v25 := Tryz.zeroValue161
  t39 := Tryz.underlying113
  a39 := Tryz.isAgg113
  z39 := Tryz.sizeOf113
  v39 := Tryz.zeroValue113
  t45 := Tryz.underlying174
  a45 := Tryz.isAgg174
  z45 := Tryz.sizeOf174
  v45 := Tryz.zeroValue174
  t46 := Tryz.underlying175
  a46 := Tryz.isAgg175
  z46 := Tryz.sizeOf175
  v46 := Tryz.zeroValue175
  t50 := Tryz.underlying65
  a50 := Tryz.isAgg65
  z50 := Tryz.sizeOf65
  v50 := Tryz.zeroValue65
  t53 := Tryz.underlying181
  a53 := Tryz.isAgg181
  z53 := Tryz.sizeOf181
  v53 := Tryz.zeroValue181
  t55 := Tryz.underlying183
  a55 := Tryz.isAgg183
  z55 := Tryz.sizeOf183
  v55 := Tryz.zeroValue183
  t66 := Tryz.underlying198
  a66 := Tryz.isAgg198
  z66 := Tryz.sizeOf198
  v66 := Tryz.zeroValue198
  t70 := Tryz.underlying202
  a70 := Tryz.isAgg202
  z70 := Tryz.sizeOf202
  v70 := Tryz.zeroValue202
  t76 := Tryz.underlying213
  a76 := Tryz.isAgg213
  z76 := Tryz.sizeOf213
  v76 := Tryz.zeroValue213
  t77 := Tryz.underlying214
  a77 := Tryz.isAgg214
  z77 := Tryz.sizeOf214
  v77 := Tryz.zeroValue214 }
end Go.Proofs.YtichoidkemeibaaGreat

namespace Go.Proofs.YtichoidkemeibaaGreat
open Go.Shelf
def sortText_ren : Go.Shelf.Ren := ⟨fun | 6 => 164 | 15 => 92 | 14 => 174 | 28 => 133 | 29 => 134 | 20 => 184 | 21 => 185 | 22 => 186 | 23 => 187 | 24 => 188 | 25 => 189 | 26 => 190 | 27 => 191 | 46 => 195 | 47 => 148 | 48 => 149 | 49 => 196 | 50 => 197 | 57 => 199 | n => n, fun | 22 => 22 | 24 => 9 | 25 => 156 | 3 => 3 | 39 => 113 | 0 => 0 | 53 => 181 | 55 => 183 | 4 => 4 | 46 => 175 | 45 => 174 | 50 => 65 | 5 => 5 | 9 => 9 | 66 => 198 | 70 => 202 | 76 => 213 | 77 => 214 | n => n, fun | n => n⟩
theorem sortText : Go.Proofs.SlLaysF.n6 Tryz.prog sortText_ren := {
  mixed := by kernel_rfl
  f6 := ⟨Tryz.f164.name, by decide, Tryz.func164.trans (congrArg some (by kernel_rfl))⟩
  f14 := ⟨Tryz.f174.name, by decide, Tryz.func174.trans (congrArg some (by kernel_rfl))⟩
  f15 := Tryz.func92.trans (congrArg some (by kernel_rfl))
  f20 := ⟨Tryz.f184.name, by decide, Tryz.func184.trans (congrArg some (by kernel_rfl))⟩
  f21 := ⟨Tryz.f185.name, by decide, Tryz.func185.trans (congrArg some (by kernel_rfl))⟩
  f22 := ⟨Tryz.f186.name, by decide, Tryz.func186.trans (congrArg some (by kernel_rfl))⟩
  f23 := ⟨Tryz.f187.name, by decide, Tryz.func187.trans (congrArg some (by kernel_rfl))⟩
  f24 := ⟨Tryz.f188.name, by decide, Tryz.func188.trans (congrArg some (by kernel_rfl))⟩
  f25 := ⟨Tryz.f189.name, by decide, Tryz.func189.trans (congrArg some (by kernel_rfl))⟩
  f26 := ⟨Tryz.f190.name, by decide, Tryz.func190.trans (congrArg some (by kernel_rfl))⟩
  f27 := ⟨Tryz.f191.name, by decide, Tryz.func191.trans (congrArg some (by kernel_rfl))⟩
  f28 := Tryz.func133.trans (congrArg some (by kernel_rfl))
  f29 := Tryz.func134.trans (congrArg some (by kernel_rfl))
  f46 := ⟨Tryz.f195.name, by decide, Tryz.func195.trans (congrArg some (by kernel_rfl))⟩
  f47 := Tryz.func148.trans (congrArg some (by kernel_rfl))
  f48 := Tryz.func149.trans (congrArg some (by kernel_rfl))
  f49 := ⟨Tryz.f196.name, by decide, Tryz.func196.trans (congrArg some (by kernel_rfl))⟩
  f50 := ⟨Tryz.f197.name, by decide, Tryz.func197.trans (congrArg some (by kernel_rfl))⟩
  f57 := ⟨Tryz.f199.name, by decide, Tryz.func199.trans (congrArg some (by kernel_rfl))⟩
  t0 := Tryz.underlying0
  a0 := Tryz.isAgg0
  z0 := Tryz.sizeOf0
  v0 := Tryz.zeroValue0
  t3 := Tryz.underlying3
  a3 := Tryz.isAgg3
  z3 := Tryz.sizeOf3
  v3 := Tryz.zeroValue3
  t4 := Tryz.underlying4
  a4 := Tryz.isAgg4
  z4 := Tryz.sizeOf4
  v4 := Tryz.zeroValue4
  t5 := Tryz.underlying5
  a5 := Tryz.isAgg5
  z5 := Tryz.sizeOf5
  v5 := Tryz.zeroValue5
  t9 := Tryz.underlying9
  a9 := Tryz.isAgg9
  z9 := Tryz.sizeOf9
  v9 := Tryz.zeroValue9
  t22 := Tryz.underlying22
  a22 := Tryz.isAgg22
  z22 := Tryz.sizeOf22
  v22 := Tryz.zeroValue22
  a24 := Tryz.isAgg9
  z24 := Tryz.sizeOf9
  t25 := Tryz.underlying156
  a25 := Tryz.isAgg156
  z25 := Tryz.sizeOf156
  v25 := Tryz.zeroValue156
  t39 := Tryz.underlying113
  a39 := Tryz.isAgg113
  z39 := Tryz.sizeOf113
  v39 := Tryz.zeroValue113
  t45 := Tryz.underlying174
  a45 := Tryz.isAgg174
  z45 := Tryz.sizeOf174
  v45 := Tryz.zeroValue174
  t46 := Tryz.underlying175
  a46 := Tryz.isAgg175
  z46 := Tryz.sizeOf175
  v46 := Tryz.zeroValue175
  t50 := Tryz.underlying65
  a50 := Tryz.isAgg65
  z50 := Tryz.sizeOf65
  v50 := Tryz.zeroValue65
  t53 := Tryz.underlying181
  a53 := Tryz.isAgg181
  z53 := Tryz.sizeOf181
  v53 := Tryz.zeroValue181
  t55 := Tryz.underlying183
  a55 := Tryz.isAgg183
  z55 := Tryz.sizeOf183
  v55 := Tryz.zeroValue183
  t66 := Tryz.underlying198
  a66 := Tryz.isAgg198
  z66 := Tryz.sizeOf198
  v66 := Tryz.zeroValue198
  t70 := Tryz.underlying202
  a70 := Tryz.isAgg202
  z70 := Tryz.sizeOf202
  v70 := Tryz.zeroValue202
  t76 := Tryz.underlying213
  a76 := Tryz.isAgg213
  z76 := Tryz.sizeOf213
  v76 := Tryz.zeroValue213
  t77 := Tryz.underlying214
  a77 := Tryz.isAgg214
  z77 := Tryz.sizeOf214
  v77 := Tryz.zeroValue214 }
end Go.Proofs.YtichoidkemeibaaGreat

namespace Go.Proofs.YtichoidkemeibaaGreat
open Go.RowKit Go.Shelf Go.Lib Go.Sort

instance : Inhabited Edg := ⟨⟨0, 0⟩⟩

theorem flat_listG (d : List Edg) : (flatK ec 2 d.toArray).toList = ev d := by
  apply List.ext_getElem?
  intro t
  by_cases ht : t < d.length * 2
  · have hq : t / 2 < d.length := by omega
    have h1 := flat_get ec 2 ec_len d (t / 2) (t % 2) d[t / 2] (List.getElem?_eq_getElem hq) (by omega)
    rw [show t / 2 * 2 + t % 2 = t by omega] at h1
    rw [show ev d = d.flatMap ec from rfl, h1, Array.getElem?_toList]
    have h2 : t % 2 < (ec d[t / 2]).length := by rw [ec_len]; omega
    simp [flatK, ht, hq, h2]
  · rw [List.getElem?_eq_none (by simp; omega), List.getElem?_eq_none (by rw [ev_len]; omega)]

theorem holdsK_blockG {w : World} {g n : Nat} {cur : Array Value} {e : TypeId} {d : List Edg} (hb : w.heap[g]? = some (.cells cur e (0, 0))) (hl : d.length = n) (ht : cur.toList.take (n * 2) = ev d) : HoldsK ec 2 w g 0 d.toArray := by
  intro j hj
  have hj' : j < n * 2 := by rw [size_flatK] at hj; simpa [hl] using hj
  refine ⟨?_, by simp [World.frozen?, hb]⟩
  have h1 : (cur.toList.take (n * 2))[j]? = (flatK ec 2 d.toArray).toList[j]? := by rw [ht, flat_listG]
  rw [List.getElem?_take_of_lt hj'] at h1
  simp only [World.cell?, hb, Nat.zero_add]
  simp only [Option.isSome_none, Bool.false_eq_true, if_false]
  rw [← Array.getElem?_toList, h1, Array.getElem?_toList, Array.getElem?_eq_getElem hj, getElem!_pos _ j hj]
  rfl

theorem heap_sortedKG {w : World} {g n : Nat} {os : Array Obj} {cur : Array Value} {e : TypeId} {fr : Nat × Nat} (d : Array Edg) (hb : w.heap[g]? = some (.cells cur e fr)) :
    (sortWorldK ec 2 w g 0 n d os).heap[g]? = some (.cells (putCells id 0 (flatK ec 2 d) cur) e fr) := by
  have hg : g < w.heap.size := (Array.getElem?_eq_some_iff.1 hb).1
  unfold sortWorldK putRowK
  rw [heap_grow_old _ _ (by simpa using hg)]
  simp [putRow, mapBlock, Sort.ahead, Array.getElem?_modify, hb, onCells]

theorem grownBy_sortedKG {w : World} {g n : Nat} {os : Array Obj} (d : Array Edg) : w.grownBy (sortWorldK ec 2 w g 0 n d os) (some g) := by
  unfold sortWorldK putRowK
  refine ⟨rfl, rfl, rfl, by simp, fun k hk hne => ?_⟩
  rw [heap_grow_old _ _ (by simpa using hk)]
  have : g ≠ k := fun e => hne (by rw [e])
  simp [putRow, mapBlock, Sort.ahead, Array.getElem?_modify, this]

theorem take_putCellsKG (cur : Array Value) (F : Array Value) (h : F.size ≤ cur.size) : (putCells id 0 F cur).toList.take F.size = F.toList := by
  apply List.ext_getElem?
  intro j
  by_cases hj : j < F.size
  · rw [List.getElem?_take_of_lt hj, Array.getElem?_toList, Array.getElem?_toList]
    simp [putCells, hj, show j < cur.size by omega]
  · rw [List.getElem?_take_eq_none (by omega), List.getElem?_eq_none (by simp; omega)]

theorem sortE_c {w : World} {base n c : Nat} {A : Option Addr} {d : List Edg} (ho : w.ownsRow base 73 2 (.slice A n c) n (ev d)) (hlim : n ≤ 1000000000) :
    Calls Tryz.prog 161 #[.slice A n c, .func (.func 140) #[] #[]] w fun e w' => e = .returned (.tuple #[]) ∧
      ∃ d', d'.Perm d ∧ d'.Pairwise (fun a b => ¬ lessE b a) ∧ w'.ownsRow base 73 2 (.slice A n c) n (ev d') ∧ w.grownBy w' (A.map (·.block)) := by
  have hl : d.length = n := by have := ho.1; rw [ev_len] at this; omega
  rcases Nat.eq_zero_or_pos n with rfl | hn
  · refine (AnyF.slices_SortFunc_none sortEdge A c _ w).mono ?_
    rintro e w' ⟨rfl, rfl⟩
    have : d = [] := List.eq_nil_of_length_eq_zero hl
    subst this
    exact ⟨rfl, [], List.Perm.refl _, List.Pairwise.nil, ho, only_refl _ _⟩
  · obtain ⟨h0, ⟨hv, hz⟩ | ⟨g, cap, cur, hv, hbase, hb, h1, h2, h3, h4⟩⟩ := id ho
    · omega
    injection hv with e1 e2 e3
    subst e1
    subst e3
    have hH : HoldsK ec 2 w g 0 d.toArray := holdsK_blockG hb hl h4
    have hg : g < w.heap.size := (Array.getElem?_eq_some_iff.1 hb).1
    have eg : ∀ args w, (callFunc 140 args).run Tryz.prog w = .ok (.enter 140 args) w := enters_of Tryz.func140 (by kernel_rfl) rfl
    have hcmp : CmpLays Tryz.prog 140 #[] ec 2 cmpE g 0 d.toArray.size w := fun _ _ _ _ x y => ordE_grow x y _
    have hcon := AnyQ.slices_SortFunc sortEdge 2 Tryz.isAgg73 Tryz.sizeOf73 ec (fun _ => rfl) ec_one cmpE swo_cmpE 140 #[] g 0 c d.toArray w eg hcmp hH hg (by simp [hl]; omega)
    rw [show d.toArray.size = n by simpa using hl] at hcon
    refine hcon.mono ?_
    rintro e w' ⟨rfl, d', m, os, hp, hs, rfl⟩
    obtain ⟨p1, p2, p3⟩ := hp
    have hsz : d'.size = n := by rw [p1]; simpa using hl
    refine ⟨rfl, d'.toList, ?_, ?_, ?_, grownBy_sortedKG _⟩
    · have e1 : d'.extract 0 n = d' := by rw [← hsz]; simp
      have e2 : d.toArray.extract 0 n = d.toArray := by rw [← hl]; simp
      rw [e1, e2] at p3
      simpa using p3
    · rw [List.pairwise_iff_getElem]
      intro i j hi hj hij
      have hi' : i < d'.size := by simpa using hi
      have hj' : j < d'.size := by simpa using hj
      have := hs i j (Nat.zero_le _) hij (by omega)
      rw [lt_cmpE] at this
      simp only [decide_eq_false_iff_not] at this
      rw [getElem!_pos d' i hi', getElem!_pos d' j hj'] at this
      simpa using this
    · have hF := flat_listG d'.toList
      rw [Array.toArray_toList] at hF
      have hFs : (flatK ec 2 d').size = n * 2 := by rw [size_flatK, hsz]
      refine ⟨by rw [ev_len]; simp [hsz], .inr ⟨g, c, _, rfl, hbase, heap_sortedKG d' hb, h1, h2, by simp [putCells, h3], ?_⟩⟩
      rw [← hFs, take_putCellsKG _ _ (by rw [hFs, h3]; exact Nat.mul_le_mul_right _ h1), hF]

theorem holds_blockS {w : World} {g n : Nat} {cur : Array Value} {e : TypeId} {d : List ByteArray} (hb : w.heap[g]? = some (.cells cur e (0, 0))) (hl : d.length = n) (ht : cur.toList.take (n * 1) = sv d) : Holds Value.string w g 0 d.toArray := by
  intro j hj
  have hj' : j < n := by simpa [hl] using hj
  refine ⟨?_, by simp [World.frozen?, hb]⟩
  have h1 : (cur.toList.take (n * 1))[j]? = (sv d)[j]? := by rw [ht]
  rw [List.getElem?_take_of_lt (by omega)] at h1
  simp only [World.cell?, hb, Nat.zero_add]
  simp only [Option.isSome_none, Bool.false_eq_true, if_false]
  rw [← Array.getElem?_toList, h1, sv, List.getElem?_map]
  have hjd : j < d.length := by omega
  rw [List.getElem?_eq_getElem hjd, getElem!_pos d.toArray j hj]
  rfl

theorem heap_sortedS {w : World} {g n : Nat} {os : Array Obj} {cur : Array Value} {e : TypeId} {fr : Nat × Nat} (d : Array ByteArray) (hb : w.heap[g]? = some (.cells cur e fr)) :
    (sortWorld Value.string w g 0 n d os).heap[g]? = some (.cells (putCells Value.string 0 d cur) e fr) := by
  have hg : g < w.heap.size := (Array.getElem?_eq_some_iff.1 hb).1
  unfold sortWorld
  rw [heap_grow_old _ _ (by simpa using hg)]
  simp [putRow, mapBlock, Sort.ahead, Array.getElem?_modify, hb, onCells]

theorem grownBy_sortedS {w : World} {g n : Nat} {os : Array Obj} (d : Array ByteArray) : w.grownBy (sortWorld Value.string w g 0 n d os) (some g) := by
  unfold sortWorld
  refine ⟨rfl, rfl, rfl, by simp, fun k hk hne => ?_⟩
  rw [heap_grow_old _ _ (by simpa using hk)]
  have : g ≠ k := fun e => hne (by rw [e])
  simp [putRow, mapBlock, Sort.ahead, Array.getElem?_modify, this]

theorem take_putCellsS (cur : Array Value) (d : Array ByteArray) (h : d.size ≤ cur.size) : (putCells Value.string 0 d cur).toList.take d.size = sv d.toList := by
  apply List.ext_getElem?
  intro j
  by_cases hj : j < d.size
  · rw [List.getElem?_take_of_lt hj, Array.getElem?_toList, sv, List.getElem?_map, Array.getElem?_toList]
    simp [putCells, hj, show j < cur.size by omega]
  · rw [List.getElem?_take_eq_none (by omega), List.getElem?_eq_none (by simp [sv]; omega)]

theorem sortS_c {w : World} {base n c : Nat} {A : Option Addr} {d : List ByteArray} (ho : w.ownsRow base 9 1 (.slice A n c) n (sv d)) (hlim : n ≤ 1000000000) :
    Calls Tryz.prog 164 #[.slice A n c, .func (.func 137) #[] #[]] w fun e w' => e = .returned (.tuple #[]) ∧
      ∃ d', d'.Perm d ∧ d'.Pairwise (fun a b => ¬ ltW b a) ∧ w'.ownsRow base 9 1 (.slice A n c) n (sv d') ∧ w.grownBy w' (A.map (·.block)) := by
  have hl : d.length = n := by have := ho.1; simpa [sv] using this
  rcases Nat.eq_zero_or_pos n with rfl | hn
  · refine (AnyF.slices_SortFunc_none { sortText with } A c _ w).mono ?_
    rintro e w' ⟨rfl, rfl⟩
    have : d = [] := List.eq_nil_of_length_eq_zero hl
    subst this
    exact ⟨rfl, [], List.Perm.refl _, List.Pairwise.nil, ho, only_refl _ _⟩
  · obtain ⟨h0, ⟨hv, hz⟩ | ⟨g, cap, cur, hv, hbase, hb, h1, h2, h3, h4⟩⟩ := id ho
    · omega
    injection hv with e1 e2 e3
    subst e1
    subst e3
    have hH : Holds Value.string w g 0 d.toArray := holds_blockS hb hl h4
    have hg : g < w.heap.size := (Array.getElem?_eq_some_iff.1 hb).1
    have eg : ∀ args w, (callFunc 137 args).run Tryz.prog w = .ok (.enter 137 args) w := enters_of Tryz.func137 (by kernel_rfl) rfl
    have hcmp : CmpLays1 Tryz.prog 137 #[] Value.string cmpW g 0 d.toArray.size w := fun _ _ _ _ x y => ordW_grow x y _
    have hcon := Any.slices_SortFunc sortText Value.string (fun _ => rfl) cmpW swo_cmpW 137 #[] g 0 c d.toArray w eg hcmp hH hg (by simp [hl]; omega)
    rw [show d.toArray.size = n by simpa using hl] at hcon
    refine hcon.mono ?_
    rintro e w' ⟨rfl, d', m, os, hp, hs, rfl⟩
    obtain ⟨p1, p2, p3⟩ := hp
    have hsz : d'.size = n := by rw [p1]; simpa using hl
    refine ⟨rfl, d'.toList, ?_, ?_, ?_, grownBy_sortedS _⟩
    · have e1 : d'.extract 0 n = d' := by rw [← hsz]; simp
      have e2 : d.toArray.extract 0 n = d.toArray := by rw [← hl]; simp
      rw [e1, e2] at p3
      simpa using p3
    · rw [List.pairwise_iff_getElem]
      intro i j hi hj hij
      have hi' : i < d'.size := by simpa using hi
      have hj' : j < d'.size := by simpa using hj
      have := hs i j (Nat.zero_le _) hij (by omega)
      rw [lt_cmpW] at this
      simp only [decide_eq_false_iff_not] at this
      rw [getElem!_pos d' i hi', getElem!_pos d' j hj'] at this
      simpa using this
    · refine ⟨by simp [sv, hsz], .inr ⟨g, c, _, rfl, hbase, heap_sortedS d' hb, h1, h2, by simp [putCells, h3], ?_⟩⟩
      rw [Nat.mul_one, ← hsz, take_putCellsS _ _ (by rw [hsz, h3]; omega)]
end Go.Proofs.YtichoidkemeibaaGreat

namespace Go.Proofs.YtichoidkemeibaaGreat
open Go.RowKit

theorem compactE_nil (c : Nat) (w : World) : Calls Tryz.prog 162 #[.slice none 0 c] w fun e w' => e = .returned (.slice none 0 c) ∧ w' = w := by
  go_enter Tryz.func162, Tryz.ntmps162
  go_wp2
  go_ret
  exact ⟨rfl, rfl⟩
theorem compactS_nil (c : Nat) (w : World) : Calls Tryz.prog 165 #[.slice none 0 c] w fun e w' => e = .returned (.slice none 0 c) ∧ w' = w := by
  go_enter Tryz.func165, Tryz.ntmps165
  go_wp2
  go_ret
  exact ⟨rfl, rfl⟩

theorem compactE_one (A : Option Addr) (c : Nat) (w : World) : Calls Tryz.prog 162 #[.slice A 1 c] w fun e w' => e = .returned (.slice A 1 c) ∧ w' = w := by
  go_enter Tryz.func162, Tryz.ntmps162
  go_wp2
  go_ret
  exact ⟨rfl, rfl⟩

set_option maxRecDepth 100000 in
set_option maxHeartbeats 1000000 in
theorem onceE_c (A : Option Addr) (n c : Nat) (l : List Edg) (w : World) (h : Reads w w.heap.size 2 A n (ev l)) (hn : n ≤ 1000000) :
    Calls Tryz.prog 142 #[.slice A n c, .agg #[.func (.func 140) #[] #[]]] w fun e w' => ∃ A' k c' l', e = .returned (.slice A' k c') ∧ Rises lessE l' ∧ (∀ x ∈ l', x ∈ l) ∧ (l'.length ≤ l.length ∧ (l.length = 1 → l' = l)) ∧ w'.ownsRow w.heap.size 73 2 (.slice A' k c') k (ev l') ∧ Below w.heap.size w w' := by
  have HO := Lib.hid (show OrdAt w 140 163 (w.alloc (.cells #[.func (.func 140) #[] #[]] 163)) from ⟨Array.getElem?_push_size, below_oneG _ _⟩)
  have HR := Lib.hid h
  clear h
  go_enter Tryz.func142, Tryz.ntmps142
  go_wp2_with (fail)
  refine (cloneE_c A n c l _ ((HR.out.below HO.out.bel).more HO.out.bel.size) hn).mono ?_
  rintro e w1 ⟨A1, c1, rfl, hown, hB1⟩
  have hO1 := HO.out.step hB1
  have q0 := hO1.cell
  have HO1 := Lib.hid hO1
  have hown := own_more (base := w.heap.size) hown (by simp)
  have HOW := Lib.hid hown
  clear hB1 hO1 HO hown
  go_wp2_with (fail)
  refine (sortE_c HOW.out (by omega)).mono ?_
  rintro e w2 ⟨rfl, l2, hperm, hsort, how2, hG2⟩
  have hB2 : Below w.heap.size w1 w2 := (Below.refl _ _).grown hG2 HO1.out.bel.size (fun g hg => by
    cases hA : A1 with
    | none => rw [hA] at hg; cases hg
    | some a => rw [hA] at hg; have := (own_lt HOW.out a hA).1; injection hg with hg; simp only at hg; omega)
  have HB2 := Lib.hid (HO1.out.bel.trans hB2)
  have HOW2 := Lib.hid how2
  have HP := Lib.hid hperm
  have HS := Lib.hid hsort
  have hbw : w.heap.size ≤ w2.heap.size := HB2.out.size
  clear hperm hsort how2 hG2 hB2 q0 HOW HO1
  go_wp2_with (fail)
  rcases A1 with _ | a
  · have h0 : n = 0 := by
      rcases Nat.eq_zero_or_pos n with h0 | h0
      · exact h0
      · obtain ⟨g, cap, hv, _⟩ := HOW2.out.form h0
        cases hv
    subst h0
    refine (compactE_nil c1 _).mono ?_
    rintro e w3 ⟨rfl, rfl⟩
    go_wp2_with (fail)
    go_ret
    refine ⟨none, 0, c1, [], rfl, trivial, fun x hx => by simp at hx, ⟨by simp, fun h1 => by
      have h2 := HR.out.1
      rw [ev_len] at h2
      omega⟩, ?_, HB2.out⟩
    have hl2 : l2 = [] := List.eq_nil_of_length_eq_zero (by have h := HOW2.out.1; rw [ev_len] at h; omega)
    have h := HOW2.out
    rw [hl2] at h
    exact h
  · obtain ⟨g, hgA⟩ : ∃ g, a = ⟨g, 0, none⟩ := by
      rcases HOW2.out.2 with ⟨hv, _⟩ | ⟨g, cap, cur, hv, _⟩
      · cases hv
      · injection hv with e1 e2 e3
        injection e1 with e1
        exact ⟨g, e1⟩
    subst hgA
    by_cases hn1 : n = 1
    · subst hn1
      have hl1 : l.length = 1 := by have h2 := HR.out.1; rw [ev_len] at h2; omega
      have h12 : l2 = l := by
        obtain ⟨x, rfl⟩ := List.length_eq_one_iff.1 hl1
        exact List.perm_singleton.1 HP.out
      have H12 := Lib.hid h12
      clear hl1 h12
      refine (compactE_one _ c1 _).mono ?_
      rintro e w3 ⟨rfl, rfl⟩
      go_wp2_with (fail)
      go_ret
      refine ⟨_, 1, c1, l, rfl, ?_, fun x hx => hx, ⟨Nat.le_refl _, fun _ => rfl⟩, by rw [← H12.out]; exact HOW2.out, HB2.out⟩
      obtain ⟨x, rfl⟩ := List.length_eq_one_iff.1 (show l.length = 1 by have h2 := HR.out.1; rw [ev_len] at h2; omega)
      trivial
    refine (compactE_c g n c1 w.heap.size l2 _ HOW2.out HS.out hn).mono ?_
    rintro e w3 ⟨k, l3, rfl, h1, h2, h3, h4, hG3⟩
    have hB3 := Lib.hid (HB2.out.grown hG3 hbw (fun g' hg => by have := (own_lt HOW2.out _ rfl).1; injection hg with hg; simp only at this; omega))
    have H4 := Lib.hid h4
    have H1 := Lib.hid h1
    have H2 : Hid (∀ x ∈ l3, x ∈ l) := fun x hx => (HP.out.mem_iff).1 (h2 x hx)
    have H3 : Hid (l3.length ≤ l.length ∧ (l.length = 1 → l3 = l)) := ⟨by rw [← HP.out.length_eq]; exact h3, fun h1 => absurd (by have h2 := HR.out.1; rw [ev_len] at h2; omega) hn1⟩
    clear h1 h2 h3 h4 hG3
    go_wp2_with (fail)
    go_ret
    exact ⟨_, k, c1, l3, rfl, H1.out, H2.out, H3.out, H4.out, hB3.out⟩

set_option maxRecDepth 100000 in
set_option maxHeartbeats 1000000 in
theorem onceS_c (A : Option Addr) (n c : Nat) (l : List ByteArray) (w : World) (h : Reads w w.heap.size 1 A n (sv l)) (hn : n ≤ 1000000) :
    Calls Tryz.prog 143 #[.slice A n c, .agg #[.func (.func 137) #[] #[]]] w fun e w' => ∃ A' k c' l', e = .returned (.slice A' k c') ∧ Rises ltW l' ∧ (∀ x ∈ l', x ∈ l) ∧ l'.length ≤ l.length ∧ w'.ownsRow w.heap.size 9 1 (.slice A' k c') k (sv l') ∧ Below w.heap.size w w' := by
  have HO := Lib.hid (show OrdAt w 137 158 (w.alloc (.cells #[.func (.func 137) #[] #[]] 158)) from ⟨Array.getElem?_push_size, below_oneG _ _⟩)
  have HR := Lib.hid h
  clear h
  go_enter Tryz.func143, Tryz.ntmps143
  go_wp2_with (fail)
  refine (cloneS_c A n c l _ ((HR.out.below HO.out.bel).more HO.out.bel.size) hn).mono ?_
  rintro e w1 ⟨A1, c1, rfl, hown, hB1⟩
  have hO1 := HO.out.step hB1
  have q0 := hO1.cell
  have HO1 := Lib.hid hO1
  have hown := own_more (base := w.heap.size) hown (by simp)
  have HOW := Lib.hid hown
  clear hB1 hO1 HO hown
  go_wp2_with (fail)
  refine (sortS_c HOW.out (by omega)).mono ?_
  rintro e w2 ⟨rfl, l2, hperm, hsort, how2, hG2⟩
  have hB2 : Below w.heap.size w1 w2 := (Below.refl _ _).grown hG2 HO1.out.bel.size (fun g hg => by
    cases hA : A1 with
    | none => rw [hA] at hg; cases hg
    | some a => rw [hA] at hg; have := (own_lt HOW.out a hA).1; injection hg with hg; simp only at hg; omega)
  have HB2 := Lib.hid (HO1.out.bel.trans hB2)
  have HOW2 := Lib.hid how2
  have HP := Lib.hid hperm
  have HS := Lib.hid hsort
  have hbw : w.heap.size ≤ w2.heap.size := HB2.out.size
  clear hperm hsort how2 hG2 hB2 q0 HOW HO1
  go_wp2_with (fail)
  rcases A1 with _ | a
  · have h0 : n = 0 := by
      rcases Nat.eq_zero_or_pos n with h0 | h0
      · exact h0
      · obtain ⟨g, cap, hv, _⟩ := HOW2.out.form h0
        cases hv
    subst h0
    refine (compactS_nil c1 _).mono ?_
    rintro e w3 ⟨rfl, rfl⟩
    go_wp2_with (fail)
    go_ret
    refine ⟨none, 0, c1, [], rfl, trivial, fun x hx => by simp at hx, by simp, ?_, HB2.out⟩
    have hl2 : l2 = [] := List.eq_nil_of_length_eq_zero (by have h := HOW2.out.1; simpa [sv] using h)
    have h := HOW2.out
    rw [hl2] at h
    exact h
  · obtain ⟨g, hgA⟩ : ∃ g, a = ⟨g, 0, none⟩ := by
      rcases HOW2.out.2 with ⟨hv, _⟩ | ⟨g, cap, cur, hv, _⟩
      · cases hv
      · injection hv with e1 e2 e3
        injection e1 with e1
        exact ⟨g, e1⟩
    subst hgA
    refine (compactS_c g n c1 w.heap.size l2 _ HOW2.out HS.out hn).mono ?_
    rintro e w3 ⟨k, l3, rfl, h1, h2, h3, h4, hG3⟩
    have hB3 := Lib.hid (HB2.out.grown hG3 hbw (fun g' hg => by have := (own_lt HOW2.out _ rfl).1; injection hg with hg; simp only at this; omega))
    have H4 := Lib.hid h4
    have H1 := Lib.hid h1
    have H2 : Hid (∀ x ∈ l3, x ∈ l) := fun x hx => (HP.out.mem_iff).1 (h2 x hx)
    have H3 : Hid (l3.length ≤ l.length) := by show _ ≤ _; rw [← HP.out.length_eq]; exact h3
    clear h1 h2 h3 h4 hG3
    go_wp2_with (fail)
    go_ret
    exact ⟨_, k, c1, l3, rfl, H1.out, H2.out, H3.out, H4.out, hB3.out⟩
end Go.Proofs.YtichoidkemeibaaGreat

namespace Go.Proofs.YtichoidkemeibaaGreat
open Go.RowKit

/-- A row lies apart from a block of another type. -/
theorem own_box {w : World} {base nb n c sz : Nat} {e T : TypeId} {A : Option Addr} {xs : List Value} {cs : Array Value} {fz : Nat × Nat} (h : w.ownsRow base e sz (.slice A n c) n xs) (hb : w.heap[nb]? = some (.cells cs T fz)) (hne : e ≠ T) : ∀ a, A = some a → some a.block ≠ some nb := by
  intro a ha hab
  rcases h.2 with ⟨hv, _⟩ | ⟨g, cap, cur, hv, _, hg, _⟩
  · cases hv; cases ha
  · cases hv
    cases ha
    injection hab with hab
    simp only at hab
    subst hab
    rw [hg] at hb
    injection hb with hb
    injection hb with _ ht _
    exact hne ht
theorem own_setBox {w w' : World} {base nb n c sz : Nat} {e T : TypeId} {A : Option Addr} {xs : List Value} {cs : Array Value} {fz : Nat × Nat} (h : w.ownsRow base e sz (.slice A n c) n xs) (hb : w.heap[nb]? = some (.cells cs T fz)) (hne : e ≠ T) (hg : w.grownBy w' (some nb)) :
    w'.ownsRow base e sz (.slice A n c) n xs := own_only h hg (own_box h hb hne)
theorem rows_setBox {w w' : World} {base nb sz : Nat} {e T : TypeId} {vs : List Value} {rs : List (List Value)} {cs : Array Value} {fz : Nat × Nat} (h : RowsOwn w base e sz vs rs) (hb : w.heap[nb]? = some (.cells cs T fz)) (hne : e ≠ T) (hg : w.grownBy w' (some nb)) :
    RowsOwn w' base e sz vs rs := h.keep_ fun _ _ _ _ _ ho => own_setBox ho hb hne hg
theorem box_pushed {w w' : World} {base nb n c sz : Nat} {e T : TypeId} {A A' : Option Addr} {xs : List Value} {cs : Array Value} {fz : Nat × Nat} (p : Pushed w w' A A') (h : w.ownsRow base e sz (.slice A n c) n xs) (hb : w.heap[nb]? = some (.cells cs T fz)) (hne : e ≠ T) : w'.heap[nb]? = some (.cells cs T fz) := by
  refine (p.grown.block nb (Array.getElem?_eq_some_iff.1 hb).1 ?_).trans hb
  intro h2
  cases hA : A with
  | none => rw [hA] at h2; cases h2
  | some a =>
    rw [hA] at h2
    exact own_box h hb hne a hA (by simpa using h2.symm)

/-- What Normal has made so far: the argument's box, the result's, and one that holds edges and words. -/
structure NSt (w wr : World) (nb : Nat) (g : Gr) (A1 : Option Addr) (n1 c1 : Nat) (A2 : Option Addr) (n2 c2 : Nat) (vs : List Value) (es : List Edg) (ls : List (List ByteArray)) (B1 : Option Addr) (k1 d1 : Nat) (B2 : Option Addr) (d2 : Nat) (us : List Value) : Prop where
  lt : w.heap.size + 1 + 1 ≤ nb
  x : BoxedG w w.heap.size g A1 n1 c1 A2 n2 c2 vs wr
  z : GAt wr (w.heap.size + 1) 0 none 0 0 none 0 0
  o : GAt wr nb g.n B1 k1 d1 B2 ls.length d2
  es : wr.ownsRow (w.heap.size + 1 + 1) 73 2 (.slice B1 k1 d1) k1 (ev es)
  ws : wr.ownsRow (w.heap.size + 1 + 1) 22 1 (.slice B2 ls.length d2) ls.length us
  rs : RowsOwn wr (w.heap.size + 1 + 1) 9 1 us (wv ls)
section
variable {w wr w' : World} {nb : Nat} {g : Gr} {A1 A2 B1 B2 : Option Addr} {n1 c1 n2 c2 k1 d1 d2 : Nat} {vs us : List Value} {es : List Edg} {ls : List (List ByteArray)}
theorem NSt.size (h : NSt w wr nb g A1 n1 c1 A2 n2 c2 vs es ls B1 k1 d1 B2 d2 us) : w.heap.size + 1 + 1 ≤ wr.heap.size := by have := h.o.lt; have := h.lt; omega
theorem NSt.step (h : NSt w wr nb g A1 n1 c1 A2 n2 c2 vs es ls B1 k1 d1 B2 d2 us) (hB : Below wr.heap.size wr w') : NSt w w' nb g A1 n1 c1 A2 n2 c2 vs es ls B1 k1 d1 B2 d2 us :=
  ⟨h.lt, h.x.step hB, h.z.below hB h.z.lt, h.o.below hB h.o.lt, own_below h.es hB, own_below h.ws hB, h.rs.below hB⟩
theorem NSt.drew (h : NSt w wr nb g A1 n1 c1 A2 n2 c2 vs es ls B1 k1 d1 B2 d2 us) : NSt w wr.drew nb g A1 n1 c1 A2 n2 c2 vs es ls B1 k1 d1 B2 d2 us := h.step (Below.refl _ _).drew
theorem NSt.row {A' A7 : Option Addr} {c' c7 n : Nat} {x : List ByteArray} (h : NSt w wr nb g A1 n1 c1 A2 n2 c2 vs es ls B1 k1 d1 B2 d2 us) (ho : w'.ownsRow (w.heap.size + 1 + 1) 22 1 (.slice A' (ls.length + 1) c') (ls.length + 1) (us ++ [.slice A7 n c7])) (q : Pushed wr w' B2 A')
    (h7 : wr.ownsRow (w.heap.size + 1 + 1) 9 1 (.slice A7 n c7) n (sv x)) (hap : ApartAll us A7) :
    NSt w (w'.setCell ⟨nb, 2, none⟩ (.slice A' (ls.length + 1) c')) nb g A1 n1 c1 A2 n2 c2 vs es (ls ++ [x]) B1 k1 d1 A' c' (us ++ [.slice A7 n c7]) := by
  have hlt := h.lt
  have hb := q.below h.ws (Below.refl (w.heap.size + 1 + 1) wr) (Nat.le_refl _) h.size
  have hs := only_setCellS (only_refl w' (some nb)) 2 (.slice A' (ls.length + 1) c')
  have hb2 := hb.setCell (p := ⟨nb, 2, none⟩) hlt (.slice A' (ls.length + 1) c')
  have hapw : ApartAll us B2 := h.rs.apart_ne h.ws (by decide)
  have hape : Apart B1 B2 := own_ne h.es h.ws (by decide)
  have hap7 : Apart A7 B2 := own_ne h7 h.ws (by decide)
  have e : (ls ++ [x]).length = ls.length + 1 := by rw [List.length_append]; rfl
  have ho8 : GAt w' nb g.n B1 k1 d1 B2 ls.length d2 := box_pushed q h.ws h.o (by decide)
  refine ⟨hlt, h.x.stepB hb2 (by omega), h.z.below hb2 (by omega), ?_, own_setBox (q.keep h.es hape) ho8 (by decide) hs, ?_, ?_⟩
  · rw [e]
    exact ho8.set2
  · rw [e]
    exact own_setBox ho ho8 (by decide) hs
  · have e2 : wv (ls ++ [x]) = wv ls ++ [sv x] := by
      rw [wv_append]
      rfl
    rw [e2]
    exact rows_setBox ((h.rs.kept q hapw).snoc (q.keep h7 hap7) hap) ho8 (by decide) hs
end

section
variable {w w6 : World} {nb base' : Nat} {g : Gr} {A1 A2 B1 : Option Addr} {n1 c1 n2 c2 k1 d1 : Nat} {vs : List Value} {es : List Edg}
theorem nst_put (hx : BoxedG w w.heap.size g A1 n1 c1 A2 n2 c2 vs w6) (hz : GAt w6 (w.heap.size + 1) 0 none 0 0 none 0 0) (ho : GAt w6 nb 0 none 0 0 none 0 0) (hlt : w.heap.size + 1 + 1 ≤ nb) (he : w6.ownsRow base' 73 2 (.slice B1 k1 d1) k1 (ev es)) (hb : w.heap.size + 1 + 1 ≤ base') :
    NSt w (putG w6 nb g.n B1 k1 d1 none 0 0) nb g A1 n1 c1 A2 n2 c2 vs es [] B1 k1 d1 none 0 [] := by
  have hB := putG_below (Below.refl (w.heap.size + 1 + 1) w6) hlt g.n B1 k1 d1 none 0 0
  exact ⟨hlt, hx.stepB hB (by omega), hz.below hB (by omega), putG_at ho g.n B1 k1 d1 none 0 0, own_setBox (own_more he hb) ho (by decide) (putG_grown w6 nb g.n B1 k1 d1 none 0 0), own_nil, rowsOwn_nil _ _ _ _⟩
theorem nst_new (hx : BoxedG w w.heap.size g A1 n1 c1 A2 n2 c2 vs w6) (hz : GAt w6 (w.heap.size + 1) 0 none 0 0 none 0 0) (he : w6.ownsRow base' 73 2 (.slice B1 k1 d1) k1 (ev es)) (hb : w.heap.size + 1 + 1 ≤ base') :
    NSt w (w6.alloc (.cells #[.int .i64 g.n, .slice B1 k1 d1, .slice none 0 0] 77)) w6.heap.size g A1 n1 c1 A2 n2 c2 vs es [] B1 k1 d1 none 0 [] := by
  have hB := below_oneG w6 (.cells #[.int .i64 g.n, .slice B1 k1 d1, .slice none 0 0] 77)
  exact ⟨hz.lt, hx.step hB, hz.below hB hz.lt, GAt.new _ _ _ _ _ _ _ _, own_below (own_more he hb) hB, own_nil, rowsOwn_nil _ _ _ _⟩
end

/-- What a call that makes a graph normal gives. -/
def NDone (w w' : World) (g : Gr) (e : Ending) : Prop :=
  if checkG g then ∃ g' A1 n1 c1 A2 n2 c2 us, e = .returned (.tuple #[.agg #[.int .i64 g'.n, .slice A1 n1 c1, .slice A2 n2 c2], .int .i64 0]) ∧ isG g' ∧ (g'.n = g.n ∧ (g.es.length = 1 → g'.es = g.es)) ∧ GrIn w' w'.heap.size g' A1 n1 A2 n2 us ∧ Below w.heap.size w w'
  else e = .returned (.tuple #[.agg #[.int .i64 0, .slice none 0 0, .slice none 0 0], .int .i64 20]) ∧ Below w.heap.size w w'
theorem normal_no {a : Act} {w W : World} {g : Gr} (ht : a.tmps.getD 2 undef = .pointer (some ⟨w.heap.size + 1, 0, none⟩)) (he : a.tmps.getD 3 undef = .int .i64 20) (hd : a.defers = []) (hz : GAt W (w.heap.size + 1) 0 none 0 0 none 0 0) (hB : Below w.heap.size w W) (h : ¬ checkG g) :
    bodyPost Tryz.prog Tryz.f115 (fun e w' => NDone w w' g e) Exit.ret a W := by
  obtain ⟨c0, c1, c2⟩ := hz.cells
  refine bodyPost_ret (v := .tuple #[.agg #[.int .i64 0, .slice none 0 0, .slice none 0 0], .int .i64 20]) ?_ hd ?_
  · rw [Array.getD_eq_getD_getElem?] at ht he
    simp [results, Tryz.results115, ht, he, c0, c1, c2, go_sem]
  · unfold NDone
    rw [if_neg h]
    exact ⟨rfl, hB⟩
theorem normal_yes {a : Act} {w W : World} {g g' : Gr} {A1 A2 : Option Addr} {n1 c1 n2 c2 : Nat} {us : List Value} (ht : a.tmps.getD 2 undef = .pointer (some ⟨w.heap.size + 1, 0, none⟩)) (he : a.tmps.getD 3 undef = .int .i64 0) (hd : a.defers = [])
    (hz : GAt W (w.heap.size + 1) g'.n A1 n1 c1 A2 n2 c2) (hB : Below w.heap.size w W) (hG : GrIn W W.heap.size g' A1 n1 A2 n2 us) (h : checkG g) (hg : isG g') (hs : g'.n = g.n ∧ (g.es.length = 1 → g'.es = g.es)) :
    bodyPost Tryz.prog Tryz.f115 (fun e w' => NDone w w' g e) Exit.ret a W := by
  obtain ⟨c0, c1', c2'⟩ := hz.cells
  refine bodyPost_ret (v := .tuple #[.agg #[.int .i64 g'.n, .slice A1 n1 c1, .slice A2 n2 c2], .int .i64 0]) ?_ hd ?_
  · rw [Array.getD_eq_getD_getElem?] at ht he
    simp [results, Tryz.results115, ht, he, c0, c1', c2', go_sem]
  · unfold NDone
    rw [if_pos h]
    exact ⟨g', A1, n1, c1, A2, n2, c2, us, rfl, hg, hs, hG, hB⟩
/-- A row of words made normal. -/
def goodRow (l : List ByteArray) : Prop := wordsOk l ∧ riseW l
theorem once_row {l l' : List ByteArray} (h : wordsOk l) (h1 : Rises ltW l') (h2 : ∀ x ∈ l', x ∈ l) (h3 : l'.length ≤ l.length) : goodRow l' := ⟨⟨Nat.le_trans h3 h.1, fun x hx => h.2 x (h2 x hx)⟩, h1⟩
theorem normal_is {g : Gr} (h : checkG g) {es : List Edg} {ls : List (List ByteArray)} (h1 : Rises lessE es) (h2 : ∀ x ∈ es, x ∈ g.es) (h3 : es.length ≤ g.es.length) (h4 : ls.length = g.ws.length) (h5 : ∀ d ∈ ls, goodRow d) : isG ⟨g.n, es, ls⟩ :=
  ⟨⟨h.1, Nat.le_trans h3 h.2.1, by show (ls.length : Int) = g.n; rw [h4]; exact h.2.2.1, fun e he => h.2.2.2.1 e (h2 e he), fun l hl => (h5 l hl).1⟩, h1, fun l hl => (h5 l hl).2⟩
end Go.Proofs.YtichoidkemeibaaGreat
