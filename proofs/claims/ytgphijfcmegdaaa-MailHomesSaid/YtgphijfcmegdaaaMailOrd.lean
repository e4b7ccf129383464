/-
  The order of Combine's sort.
-/
import Derived.Test.YtgphijfcmegdaaaMailCmp
import Derived.Shelf.RegionOpen
import Derived.RegionTactic
import Derived.ChangeAlike
import Derived.BigRegion
import Derived.StillTailTactics
namespace Go.Proofs.Ytgphijfcmegdaaa
open Go.RowKit Go.Shelf Go.Lib Go.Sort

def cmpM (x y : Msg) : Int := or3 (compareInt x.slot y.slot) (compareInt x.dir y.dir) (compareInt x.v y.v)

theorem two_boxes (W : World) (o1 o2 o3 o4 : Obj) :
    ((((W.alloc o1).alloc o2).alloc o3).alloc o4).drew.heap[W.heap.size + 1 + 1]? = some o3 ∧ ((((W.alloc o1).alloc o2).alloc o3).alloc o4).drew.heap[W.heap.size + 1 + 1 + 1]? = some o4 ∧
    ((((W.alloc o1).alloc o2).alloc o3).alloc o4).drew = grow (W.drewN 1) (((#[o1] ++ #[o2]) ++ #[o3]) ++ #[o4]) := by
  have s1 : (W.alloc o1).heap.size = W.heap.size + 1 := World.size_alloc _ _
  have s2 : ((W.alloc o1).alloc o2).heap.size = W.heap.size + 1 + 1 := by rw [World.size_alloc, s1]
  have s3 : (((W.alloc o1).alloc o2).alloc o3).heap.size = W.heap.size + 1 + 1 + 1 := by rw [World.size_alloc, s2]
  refine ⟨?_, ?_, ?_⟩
  · show ((((W.alloc o1).alloc o2).alloc o3).alloc o4).heap[W.heap.size + 1 + 1]? = some o3
    rw [Below.heap_alloc _ _ _ (by omega), ← s2]
    exact Array.getElem?_push_size
  · show ((((W.alloc o1).alloc o2).alloc o3).alloc o4).heap[W.heap.size + 1 + 1 + 1]? = some o4
    rw [← s3]
    exact Array.getElem?_push_size
  · simp only [grow, World.alloc, World.drew, World.drewN]
    have e : (((W.heap.push o1).push o2).push o3).push o4 = W.heap ++ (#[o1] ++ #[o2] ++ #[o3] ++ #[o4]) := by
      apply Array.ext'
      simp
    rw [e]

set_option maxRecDepth 100000 in
set_option maxHeartbeats 2000000 in
theorem order_c (x y : Msg) (W : World) : Calls Try.prog 36 #[.agg (mc x).toArray, .agg (mc y).toArray] W fun e w' => e = .returned (.int .i64 (cmpM x y)) ∧ ∃ q os', w' = grow (W.drewN q) os' := by
  unfold mc
  go_enter Try.func36, Try.ntmps36
  go_wp2_with (fail)
  go_region
  all_goals go_wp2_with (fail)
  · obtain ⟨h1, h2, h3⟩ := two_boxes W (.cells #[.int .i64 x.slot, .int .i64 x.dir, .int .i64 x.v, .int .i64 x.d] 31) (.cells #[.int .i64 y.slot, .int .i64 y.dir, .int .i64 y.v, .int .i64 y.d] 31)
      (.cells #[.int .i64 x.slot, .int .i64 x.dir, .int .i64 x.v] 29) (.cells #[.int .i64 y.slot, .int .i64 y.dir, .int .i64 y.v] 29)
    generalize ((((W.alloc (.cells #[.int .i64 x.slot, .int .i64 x.dir, .int .i64 x.v, .int .i64 x.d] 31)).alloc (.cells #[.int .i64 y.slot, .int .i64 y.dir, .int .i64 y.v, .int .i64 y.d] 31)).alloc
      (.cells #[.int .i64 x.slot, .int .i64 x.dir, .int .i64 x.v] 29)).alloc (.cells #[.int .i64 y.slot, .int .i64 y.dir, .int .i64 y.v] 29)).drew = w2 at h1 h2 h3 ⊢
    have a0 : w2.cell? ⟨W.heap.size + 1 + 1, 0, none⟩ = some (.int .i64 x.slot) := by rw [Lib.cell_of_heap h1]; rfl
    have a1 : w2.cell? ⟨W.heap.size + 1 + 1, 1, none⟩ = some (.int .i64 x.dir) := by rw [Lib.cell_of_heap h1]; rfl
    have a2 : w2.cell? ⟨W.heap.size + 1 + 1, 2, none⟩ = some (.int .i64 x.v) := by rw [Lib.cell_of_heap h1]; rfl
    have b0 : w2.cell? ⟨W.heap.size + 1 + 1 + 1, 0, none⟩ = some (.int .i64 y.slot) := by rw [Lib.cell_of_heap h2]; rfl
    have b1 : w2.cell? ⟨W.heap.size + 1 + 1 + 1, 1, none⟩ = some (.int .i64 y.dir) := by rw [Lib.cell_of_heap h2]; rfl
    have b2 : w2.cell? ⟨W.heap.size + 1 + 1 + 1, 2, none⟩ = some (.int .i64 y.v) := by rw [Lib.cell_of_heap h2]; rfl
    have H3 : Hid (w2.drew = grow (W.drewN 2) _) := show w2.drew = _ from by rw [h3]; rfl
    clear h1 h2 h3
    refine wp_region_still_tail 15 (by kernel_rfl) (by kernel_rfl) ?_
    simp only [List.take_succ_cons, List.take_zero, List.drop_succ_cons, List.drop_zero]
    obtain ⟨w3, hw3⟩ : ∃ w3, w3 = w2.drew := ⟨_, rfl⟩
    change w2.drew.cell? _ = _ at a0 a1 a2 b0 b1 b2
    rw [← hw3] at a0 a1 a2 b0 b1 b2 H3
    change wpStill _ _ w2.drew _ _ _
    change wpStill _ _ w2.drew (fun a' => wpList _ _ _ _ a' w2.drew) _ _
    rw [← hw3]
    clear hw3
    repeat still_step
    still_call (compare_c _ _ _)
    repeat still_step
    still_call (compare_c _ _ _)
    repeat still_step
    still_call (compare_c _ _ _)
    refine wpStill_nil ?_
    go_wp2_with (fail)
    have hn : (w3.alloc (.cells #[.int .i64 (compareInt x.slot y.slot), .int .i64 (compareInt x.dir y.dir), .int .i64 (compareInt x.v y.v)] 3)).heap[w3.heap.size]? = some (.cells #[.int .i64 (compareInt x.slot y.slot), .int .i64 (compareInt x.dir y.dir), .int .i64 (compareInt x.v y.v)] 3) := Array.getElem?_push_size
    refine (or_c _ _ _ _ _ (by rw [Lib.cell_of_heap hn]; rfl) (by rw [Lib.cell_of_heap hn]; rfl) (by rw [Lib.cell_of_heap hn]; rfl)).mono ?_
    rintro e w4 ⟨rfl, rfl⟩
    go_wp2_with (fail)
    go_ret
    obtain ⟨os3, H4⟩ : ∃ os, w3 = grow (W.drewN 2) os := ⟨_, H3.out⟩
    clear H3 a0 a1 a2 b0 b1 b2 hn
    subst H4
    exact ⟨rfl, 2, _, (alloc_eq_grow _ _).trans (grow_grow _ _ _)⟩
  · obtain ⟨h1, h2, h3⟩ := two_boxes W (.cells #[.int .i64 x.slot, .int .i64 x.dir, .int .i64 x.v, .int .i64 x.d] 31) (.cells #[.int .i64 y.slot, .int .i64 y.dir, .int .i64 y.v, .int .i64 y.d] 31)
      (.cells #[.int .i64 y.slot, .int .i64 y.dir, .int .i64 y.v] 29) (.cells #[.int .i64 x.slot, .int .i64 x.dir, .int .i64 x.v] 29)
    generalize ((((W.alloc (.cells #[.int .i64 x.slot, .int .i64 x.dir, .int .i64 x.v, .int .i64 x.d] 31)).alloc (.cells #[.int .i64 y.slot, .int .i64 y.dir, .int .i64 y.v, .int .i64 y.d] 31)).alloc
      (.cells #[.int .i64 y.slot, .int .i64 y.dir, .int .i64 y.v] 29)).alloc (.cells #[.int .i64 x.slot, .int .i64 x.dir, .int .i64 x.v] 29)).drew = w2 at h1 h2 h3 ⊢
    have a0 : w2.cell? ⟨W.heap.size + 1 + 1, 0, none⟩ = some (.int .i64 y.slot) := by rw [Lib.cell_of_heap h1]; rfl
    have a1 : w2.cell? ⟨W.heap.size + 1 + 1, 1, none⟩ = some (.int .i64 y.dir) := by rw [Lib.cell_of_heap h1]; rfl
    have a2 : w2.cell? ⟨W.heap.size + 1 + 1, 2, none⟩ = some (.int .i64 y.v) := by rw [Lib.cell_of_heap h1]; rfl
    have b0 : w2.cell? ⟨W.heap.size + 1 + 1 + 1, 0, none⟩ = some (.int .i64 x.slot) := by rw [Lib.cell_of_heap h2]; rfl
    have b1 : w2.cell? ⟨W.heap.size + 1 + 1 + 1, 1, none⟩ = some (.int .i64 x.dir) := by rw [Lib.cell_of_heap h2]; rfl
    have b2 : w2.cell? ⟨W.heap.size + 1 + 1 + 1, 2, none⟩ = some (.int .i64 x.v) := by rw [Lib.cell_of_heap h2]; rfl
    have H3 : Hid (w2.drew = grow (W.drewN 2) _) := show w2.drew = _ from by rw [h3]; rfl
    clear h1 h2 h3
    refine wp_region_still_tail 15 (by kernel_rfl) (by kernel_rfl) ?_
    simp only [List.take_succ_cons, List.take_zero, List.drop_succ_cons, List.drop_zero]
    obtain ⟨w3, hw3⟩ : ∃ w3, w3 = w2.drew := ⟨_, rfl⟩
    change w2.drew.cell? _ = _ at a0 a1 a2 b0 b1 b2
    rw [← hw3] at a0 a1 a2 b0 b1 b2 H3
    change wpStill _ _ w2.drew _ _ _
    change wpStill _ _ w2.drew (fun a' => wpList _ _ _ _ a' w2.drew) _ _
    rw [← hw3]
    clear hw3
    repeat still_step
    still_call (compare_c _ _ _)
    repeat still_step
    still_call (compare_c _ _ _)
    repeat still_step
    still_call (compare_c _ _ _)
    refine wpStill_nil ?_
    go_wp2_with (fail)
    have hn : (w3.alloc (.cells #[.int .i64 (compareInt x.slot y.slot), .int .i64 (compareInt x.dir y.dir), .int .i64 (compareInt x.v y.v)] 3)).heap[w3.heap.size]? = some (.cells #[.int .i64 (compareInt x.slot y.slot), .int .i64 (compareInt x.dir y.dir), .int .i64 (compareInt x.v y.v)] 3) := Array.getElem?_push_size
    refine (or_c _ _ _ _ _ (by rw [Lib.cell_of_heap hn]; rfl) (by rw [Lib.cell_of_heap hn]; rfl) (by rw [Lib.cell_of_heap hn]; rfl)).mono ?_
    rintro e w4 ⟨rfl, rfl⟩
    go_wp2_with (fail)
    go_ret
    obtain ⟨os3, H4⟩ : ∃ os, w3 = grow (W.drewN 2) os := ⟨_, H3.out⟩
    clear H3 a0 a1 a2 b0 b1 b2 hn
    subst H4
    exact ⟨rfl, 2, _, (alloc_eq_grow _ _).trans (grow_grow _ _ _)⟩
end Go.Proofs.Ytgphijfcmegdaaa
