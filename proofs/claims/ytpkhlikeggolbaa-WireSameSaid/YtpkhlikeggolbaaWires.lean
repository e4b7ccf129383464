/-
  The laws' example.
-/
import Derived.Test.YtpkhlikeggolbaaWireOut
namespace Go.Proofs.Ytpkhlikeggolbaa
open Go.RowKit

theorem num300 : (if good 300 then Value.tuple #[.string ⟨(numBytes (300 : Int).toNat).toArray⟩, .int .i64 0] else .tuple #[.string ⟨#[]⟩, .int .i64 1]) = .tuple #[.string ⟨#[172, 2]⟩, .int .i64 0] := by
  rw [if_pos (by unfold good; omega)]; rfl
theorem numNeg : (if good (-1) then Value.tuple #[.string ⟨(numBytes (-1 : Int).toNat).toArray⟩, .int .i64 0] else .tuple #[.string ⟨#[]⟩, .int .i64 1]) = .tuple #[.string ⟨#[]⟩, .int .i64 1] := by
  rw [if_neg (by unfold good; omega)]
theorem rd300 : numAns (rdAt ⟨#[172, 2, 9]⟩ 0) = .tuple #[.int .i64 300, .int .i64 2, .bool true] := by
  have : rdAt ⟨#[172, 2, 9]⟩ 0 = some (300, 2) := by decide +kernel
  rw [this]; rfl
theorem rdBad : numAns (rdAt ⟨#[128, 0]⟩ 0) = .tuple #[.int .i64 0, .int .i64 0, .bool false] := by
  have : rdAt ⟨#[128, 0]⟩ 0 = none := by decide +kernel
  rw [this]; rfl
theorem txtAb : textBytes ⟨#[97, 98]⟩ = ⟨#[2, 97, 98]⟩ := rfl
theorem rows300 : rowAns [3, 300] = .tuple #[.string ⟨#[2, 3, 172, 2]⟩, .int .i64 0] := by
  unfold rowAns
  rw [if_pos (by intro x hx; simp at hx; rcases hx with rfl | rfl <;> (unfold good; omega))]; rfl

set_option maxRecDepth 100000 in
set_option maxHeartbeats 2000000 in
theorem wires_c (w : World) : Calls Try.prog 33 #[] w fun e w' => e = .returned (.bool true) ∧ Below w.heap.size w w' := by
  go_enter Try.func33, Try.ntmps33
  go_wp2_with (fail)
  refine (number_any 300 _).mono ?_
  rintro e w1 ⟨rfl, hB1⟩
  rw [num300]
  go_wp2_with (fail)
  refine (readNumber_c _ 0 _ (by decide)).mono ?_
  rintro e w2 ⟨rfl, hB2⟩
  rw [rd300]
  have hB := hB1.trans (hB2.mono hB1.size)
  clear hB1 hB2
  go_wp2_with (fail)
  refine (readNumber_c _ 0 _ (by decide)).mono ?_
  rintro e w3 ⟨rfl, hB3⟩
  rw [rdBad]
  have hBa := hB.trans (hB3.mono hB.size)
  clear hB hB3
  go_wp2_with (fail)
  refine (number_any (-1) _).mono ?_
  rintro e w4 ⟨rfl, hB4⟩
  rw [numNeg]
  have hB := hBa.trans (hB4.mono hBa.size)
  clear hBa hB4
  go_wp2_with (fail)
  refine (text_c _ _ (by decide)).mono ?_
  rintro e w5 ⟨rfl, hB5⟩
  rw [txtAb]
  have hBa := hB.trans (hB5.mono hB.size)
  clear hB hB5
  go_wp2_with (fail)
  have hrd : Reads (w5.alloc (.cells #[.int .i64 3, .int .i64 300] 3)) (w5.alloc (.cells #[.int .i64 3, .int .i64 300] 3)).heap.size 1 (some ⟨w5.heap.size, 0, none⟩) 2 (iv [3, 300]) := by
    refine ⟨rfl, fun _ => ⟨_, _, rfl, by simp, fun j u hu => ?_⟩⟩
    rw [cell_of_row _ _ _ #[.int .i64 3, .int .i64 300] 3 (0, 0) (heap_alloc_new w5 _)]
    simpa [iv] using hu
  have hB := hBa.alloc hBa.size (.cells #[.int .i64 3, .int .i64 300] 3)
  clear hBa
  refine (numbers_c _ 2 2 [3, 300] _ hrd (by decide)).mono ?_
  rintro e w6 ⟨rfl, hB6⟩
  rw [rows300]
  have hBa := hB.trans (hB6.mono hB.size)
  clear hB hB6 hrd
  go_wp2_with (fail)
  go_ret
  exact ⟨rfl, hBa⟩
end Go.Proofs.Ytpkhlikeggolbaa
