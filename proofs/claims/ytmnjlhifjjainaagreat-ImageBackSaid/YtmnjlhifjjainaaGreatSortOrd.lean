/-
  The orders of edges and of words, for a sort.
-/
import Derived.Test.YtmnjlhifjjainaaGreatImgCmp
import Derived.Shelf.SlSortCmp.WholeK
namespace Go.Proofs.YtmnjlhifjjainaaGreat
open Go.RowKit Go.Shelf Go.Lib Go.Sort

theorem two_allocs (W : World) (o1 o2 : Obj) : (W.alloc o1).alloc o2 = grow W (#[o1] ++ #[o2]) := by
  simp only [grow, World.alloc]
  congr 1

set_option maxRecDepth 100000 in
set_option maxHeartbeats 1000000 in
theorem ordE_grow (x y : Edg) (W : World) : Calls Tryz.prog 36 #[.agg (ec x).toArray, .agg (ec y).toArray] W fun e w' => e = .returned (.int .i64 (cmpE x y)) ∧ ∃ q os', w' = grow (W.drewN q) os' := by
  unfold ec
  go_enter Tryz.func36, Tryz.ntmps36
  go_wp2_with (fail)
  have h1 : ((W.alloc (.cells #[.int .i64 x.src, .int .i64 x.dst] 38)).alloc (.cells #[.int .i64 y.src, .int .i64 y.dst] 38)).heap[W.heap.size]? = some (.cells #[.int .i64 x.src, .int .i64 x.dst] 38 (0, 0)) := by
    rw [Below.heap_alloc _ _ _ (by simp)]; exact Array.getElem?_push_size
  have h2 : ((W.alloc (.cells #[.int .i64 x.src, .int .i64 x.dst] 38)).alloc (.cells #[.int .i64 y.src, .int .i64 y.dst] 38)).heap[W.heap.size + 1]? = some (.cells #[.int .i64 y.src, .int .i64 y.dst] 38 (0, 0)) := by
    rw [← World.size_alloc W (.cells #[.int .i64 x.src, .int .i64 x.dst] 38)]; exact Array.getElem?_push_size
  have h3 := two_allocs W (.cells #[.int .i64 x.src, .int .i64 x.dst] 38) (.cells #[.int .i64 y.src, .int .i64 y.dst] 38)
  generalize ((W.alloc (.cells #[.int .i64 x.src, .int .i64 x.dst] 38)).alloc (.cells #[.int .i64 y.src, .int .i64 y.dst] 38)) = w2 at h1 h2 h3 ⊢
  have a0 : w2.cell? ⟨W.heap.size, 0, none⟩ = some (.int .i64 x.src) := by rw [Lib.cell_of_heap h1]; rfl
  have a1 : w2.cell? ⟨W.heap.size, 1, none⟩ = some (.int .i64 x.dst) := by rw [Lib.cell_of_heap h1]; rfl
  have b0 : w2.cell? ⟨W.heap.size + 1, 0, none⟩ = some (.int .i64 y.src) := by rw [Lib.cell_of_heap h2]; rfl
  have b1 : w2.cell? ⟨W.heap.size + 1, 1, none⟩ = some (.int .i64 y.dst) := by rw [Lib.cell_of_heap h2]; rfl
  have H3 : Hid (w2.drew = grow (W.drewN 1) _) := show w2.drew = _ from by rw [h3]; rfl
  clear h1 h2 h3
  refine wp_region_still_tail 10 (by kernel_rfl) (by kernel_rfl) ?_
  simp only [List.take_succ_cons, List.take_zero, List.drop_succ_cons, List.drop_zero]
  obtain ⟨w3, hw3⟩ : ∃ w3, w3 = w2.drew := ⟨_, rfl⟩
  change w2.drew.cell? _ = _ at a0 a1 b0 b1
  rw [← hw3] at a0 a1 b0 b1 H3
  change wpStill _ _ w2.drew (fun a' => wpList _ _ _ _ a' w2.drew) _ _
  rw [← hw3]
  clear hw3
  repeat still_step
  still_call (compare_c _ _ _)
  repeat still_step
  still_call (compare_c _ _ _)
  repeat still_step
  refine wpStill_nil ?_
  go_wp2_with (fail)
  have hn : (w3.alloc (.cells #[.int .i64 (compareInt x.src y.src), .int .i64 (compareInt x.dst y.dst)] 3)).heap[w3.heap.size]? = some (.cells #[.int .i64 (compareInt x.src y.src), .int .i64 (compareInt x.dst y.dst)] 3 (0, 0)) := Array.getElem?_push_size
  refine (or_c _ _ _ _ (by rw [Lib.cell_of_heap hn]; rfl) (by rw [Lib.cell_of_heap hn]; rfl)).mono ?_
  rintro e w4 ⟨rfl, rfl⟩
  go_wp2_with (fail)
  go_ret
  obtain ⟨os3, H4⟩ : ∃ os, w3 = grow (W.drewN 1) os := ⟨_, H3.out⟩
  clear H3 a0 a1 b0 b1 hn
  subst H4
  exact ⟨rfl, 1, _, (alloc_eq_grow _ _).trans (grow_grow _ _ _)⟩

theorem ordW_grow (x y : ByteArray) (W : World) : Calls Tryz.prog 42 #[.string x, .string y] W fun e w' => e = .returned (.int .i64 (cmpW x y)) ∧ ∃ q os', w' = grow (W.drewN q) os' := by
  refine (ordW_c x y W).mono ?_
  rintro e w' ⟨rfl, rfl⟩
  exact ⟨rfl, 0, #[], by rw [grow_empty]; rfl⟩

theorem lt_cmpE (x y : Edg) : ltOf cmpE x y = decide (lessE x y) := by
  unfold ltOf
  rw [Bool.eq_iff_iff, decide_eq_true_iff, decide_eq_true_iff]
  exact cmpE_neg x y
theorem lt_cmpW (x y : ByteArray) : ltOf cmpW x y = decide (ltW x y) := by
  unfold ltOf
  rw [Bool.eq_iff_iff, decide_eq_true_iff, decide_eq_true_iff]
  exact cmpW_neg x y
theorem swo_cmpE : SWO (ltOf cmpE) where
  irrefl x := by rw [lt_cmpE]; simp only [decide_eq_false_iff_not]; unfold lessE; omega
  trans x y z h1 h2 := by rw [lt_cmpE] at *; simp only [decide_eq_true_eq] at *; unfold lessE at *; omega
  ntrans x y z h1 h2 := by rw [lt_cmpE] at *; simp only [decide_eq_false_iff_not] at *; unfold lessE at *; omega
theorem swo_cmpW : SWO (ltOf cmpW) where
  irrefl x := by rw [lt_cmpW]; simp only [decide_eq_false_iff_not]; exact List.lt_irrefl _
  trans x y z h1 h2 := by rw [lt_cmpW] at *; simp only [decide_eq_true_eq] at *; exact List.lt_trans h1 h2
  ntrans x y z h1 h2 := by
    rw [lt_cmpW] at *
    simp only [decide_eq_false_iff_not] at *
    exact List.not_lt.2 (List.le_trans (List.not_lt.1 h2) (List.not_lt.1 h1))
end Go.Proofs.YtmnjlhifjjainaaGreat
