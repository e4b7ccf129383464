/-
  WireReads: the walk.
-/
import Derived.Test.YtpkhlikeggolbaaWireTot
import Derived.Test.YtpkhlikeggolbaaInts
namespace Go.Proofs.Ytpkhlikeggolbaa
open Go.RowKit

theorem rdMany_end {s : ByteArray} : ∀ {k q : Nat} {xs : List Int} {q' : Nat}, rdMany s k q = some (xs, q') → q ≤ s.size → q' ≤ s.size
  | 0, q, xs, q', h, hq => by simp [rdMany] at h; omega
  | k + 1, q, xs, q', h, hq => by
    simp only [rdMany] at h
    split at h
    · rename_i x y hr
      cases hm : rdMany s k y with
      | none => rw [hm] at h; cases h
      | some r =>
        obtain ⟨ys, z⟩ := r
        rw [hm] at h
        simp at h
        have := rdMany_end hm (rdAt_spec hr).2.2.1
        omega
    · cases h

theorem anRow_len (s : ByteArray) (p : Int) : (anRow (rdNums s p)).length ≤ 4000 := by
  cases h : rdNums s p with
  | none => simp [anRow]
  | some y =>
    obtain ⟨xs, q⟩ := y
    show xs.length ≤ 4000
    unfold rdNums at h
    split at h
    · split at h
      · rename_i hc
        rw [rdMany_len h]; exact hc
      · cases h
    · cases h

theorem wireReads_far (s : ByteArray) (p : Int) (w : World) (h : 1000 < s.size) :
    Calls Try.prog 9 #[.string s, .int .i64 p] w fun e w' => e = .returned (.bool true) ∧ Below w.heap.size w w' := by
  go_enter Try.func9, Try.ntmps9
  go_wp2_with (fail)
  go_ret
  exact ⟨rfl, Below.refl _ _⟩

set_option maxRecDepth 100000 in
set_option maxHeartbeats 2000000 in
theorem wireReads_c (s : ByteArray) (p : Int) (w : World) (h : s.size ≤ 1000) :
    Calls Try.prog 9 #[.string s, .int .i64 p] w fun e w' => e = .returned (.bool true) ∧ Below w.heap.size w w' := by
  have hs : s.size ≤ 1000000 := by omega
  go_enter Try.func9, Try.ntmps9
  go_wp2_with (fail)
  refine (readNumberT s p _ hs).mono ?_
  rintro e w1 ⟨rfl, hB⟩
  go_wp2_with (fail)
  refine (refReadNumberT s p _ hs).mono ?_
  rintro e w2 ⟨rfl, hB2⟩
  have hb := hB.trans (hB2.mono hB.size)
  clear hB hB2
  go_wp2_with (fail)
  refine (readTextT s p _ hs).mono ?_
  rintro e w3 ⟨rfl, hB3⟩
  have hB := hb.trans (hB3.mono hb.size)
  clear hb hB3
  go_wp2_with (fail)
  refine (refReadTextT s p _ hs).mono ?_
  rintro e w4 ⟨rfl, hB4⟩
  have hb := hB.trans (hB4.mono hB.size)
  clear hB hB4
  go_wp2_with (fail)
  refine (readNumbersT s p _ hs).mono ?_
  rintro e w5 ⟨⟨A1, c1, rfl, ho1⟩, hB5⟩
  have ho1 := own_more (base := w.heap.size) ho1 hb.size
  have hB := hb.trans (hB5.mono hb.size)
  clear hb hB5
  go_wp2_with (fail)
  refine (refReadNumbersT s p _ hs).mono ?_
  rintro e w6 ⟨⟨A2, c2, rfl, ho2⟩, hB6⟩
  have ho2 := own_more (base := w.heap.size) ho2 hB.size
  have ho1 := own_below ho1 hB6
  have hb := hB.trans (hB6.mono hB.size)
  clear hB hB6
  go_wp2_with (fail)
  refine (wires_c _).mono ?_
  rintro e w7 ⟨rfl, hB7⟩
  have ho1 := own_below ho1 hB7
  have ho2 := own_below ho2 hB7
  have hB := hb.trans (hB7.mono hb.size)
  clear hb hB7
  go_wp2_with (fail)
  have hml : (anRow (rdNums s p)).length ≤ maxLen := by have := anRow_len s p; unfold maxLen; omega
  refine (ints_c A1 A2 _ _ c1 c2 _ _ _ (own_reads ho1) (own_reads ho2) hml hml).mono ?_
  rintro e w9 ⟨rfl, hB9⟩
  have hb := hB.trans (hB9.mono hB.size)
  clear hB hB9
  have hT : decide (anRow (rdNums s p) = anRow (rdNums s p)) = true := by simp
  rw [hT]
  go_wp2_with (fail)
  go_ret
  exact ⟨rfl, hb⟩
end Go.Proofs.Ytpkhlikeggolbaa
