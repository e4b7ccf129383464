/-
  The walk of the chapter's own rows (chapter 17).
-/
import Derived.Test.YtgphijfcmegdaaaTrTop
import Derived.Test.YtgphijfcmegdaaaInts
namespace Go.Proofs.Ytgphijfcmegdaaa
open Go.RowKit

set_option maxRecDepth 100000 in
theorem turns_c (w : World) : Calls Try.prog 12 #[] w fun e w' => e = .returned (.bool true) ∧ Below w.heap.size w w' := by
  go_enter Try.func12, Try.ntmps12
  go_wp2_with (fail)
  refine (pick_yes 3 (-1) _ (by decide) (by decide)).mono ?_
  rintro e w1 ⟨rfl, rfl⟩
  go_wp2_with (fail)
  refine (pick_yes 3 7 _ (by decide) (by decide)).mono ?_
  rintro e w1 ⟨rfl, rfl⟩
  go_wp2_with (fail)
  refine (pick_no 0 1 _ (by decide)).mono ?_
  rintro e w1 ⟨rfl, rfl⟩
  go_wp2_with (fail)
  refine (turnOrder_c _ 3 2 2 [2, 1] _ (by decide) ((reads_lit w [2, 1] _).more (by simp)) (by decide)).mono ?_
  rintro e w3 ⟨A3, c3, rfl, hown3, hB3⟩
  have e3 : iv (ord (upto 3) [2, 1]) = iv [2, 1, 0] := rfl
  rw [e3] at hown3
  have hB : Below w.heap.size w w3 := ((Below.refl _ w).alloc (Nat.le_refl _) _).trans (hB3.mono (by simp))
  have ho3 := own_more (base := w.heap.size) hown3 (by simp)
  clear hown3 hB3 e3
  go_wp2_with (fail)
  refine (turnOrder_c _ 3 1 1 [-1] _ (by decide) ((reads_lit w3 [-1] _).more (by simp)) (by decide)).mono ?_
  rintro e w5 ⟨A5, c5, rfl, hown5, hB5⟩
  have e5 : iv (ord (upto 3) [-1]) = iv [2, 0, 1] := rfl
  rw [e5] at hown5
  have hB35 : Below w3.heap.size w3 w5 := ((Below.refl _ w3).alloc (Nat.le_refl _) _).trans (hB5.mono (by simp))
  have ho5 := own_more (base := w.heap.size) hown5 (by simp; have := hB.size; omega)
  have ho3 := own_below ho3 hB35
  have hB := hB.trans (hB35.mono hB.size)
  clear hown5 hB5 e5 hB35
  go_wp2_with (fail)
  refine (turnOrder_c none 3 0 0 [] w5 (by decide) Reads.none_ (by decide)).mono ?_
  rintro e w7 ⟨A7, c7, rfl, hown7, hB7⟩
  have e7 : iv (ord (upto 3) []) = iv [0, 1, 2] := rfl
  rw [e7] at hown7
  have ho7 := own_more (base := w.heap.size) hown7 hB.size
  have ho3 := own_below ho3 hB7
  have ho5 := own_below ho5 hB7
  have hB := hB.trans (hB7.mono hB.size)
  clear hown7 hB7 e7
  go_wp2_with (fail)
  refine (order_no none (-1) 0 0 w7 (by decide)).mono ?_
  rintro e w8 ⟨rfl, rfl⟩
  go_wp2_with (fail)
  refine (ints_c _ _ 3 3 _ _ [2, 1, 0] [2, 1, 0] _ (((own_reads ho3).below ((Below.refl _ _).alloc (Nat.le_refl _) _)).more (by simp)) ((reads_lit w7 [2, 1, 0] _).more (by simp)) (by decide) (by decide)).mono ?_
  rintro e w9 ⟨rfl, hB9⟩
  have hB79 : Below w7.heap.size w7 w9 := ((Below.refl _ w7).alloc (Nat.le_refl _) _).trans (hB9.mono (by simp))
  have ho5 := own_below ho5 hB79
  have ho7 := own_below ho7 hB79
  have hB := hB.trans (hB79.mono hB.size)
  clear hB9 hB79 ho3
  go_wp2_with (fail)
  refine (ints_c _ _ 3 3 _ _ [2, 0, 1] [2, 0, 1] _ (((own_reads ho5).below ((Below.refl _ _).alloc (Nat.le_refl _) _)).more (by simp)) ((reads_lit w9 [2, 0, 1] _).more (by simp)) (by decide) (by decide)).mono ?_
  rintro e w10 ⟨rfl, hB10⟩
  have hB79 : Below w9.heap.size w9 w10 := ((Below.refl _ w9).alloc (Nat.le_refl _) _).trans (hB10.mono (by simp))
  have ho7 := own_below ho7 hB79
  have hB := hB.trans (hB79.mono hB.size)
  clear hB10 hB79 ho5
  go_wp2_with (fail)
  refine (ints_c _ _ 3 3 _ _ [0, 1, 2] [0, 1, 2] _ (((own_reads ho7).below ((Below.refl _ _).alloc (Nat.le_refl _) _)).more (by simp)) ((reads_lit w10 [0, 1, 2] _).more (by simp)) (by decide) (by decide)).mono ?_
  rintro e w11 ⟨rfl, hB11⟩
  have hB79 : Below w10.heap.size w10 w11 := ((Below.refl _ w10).alloc (Nat.le_refl _) _).trans (hB11.mono (by simp))
  have hB := hB.trans (hB79.mono hB.size)
  clear hB11 hB79 ho7
  go_wp2_with (fail)
  go_ret
  exact ⟨rfl, hB⟩
end Go.Proofs.Ytgphijfcmegdaaa
