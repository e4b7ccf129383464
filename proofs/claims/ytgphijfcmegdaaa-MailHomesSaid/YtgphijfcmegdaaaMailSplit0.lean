/-
  Split refused: the program's and the reference's.
-/
import Derived.Test.YtgphijfcmegdaaaMailSmall
namespace Go.Proofs.Ytgphijfcmegdaaa
open Go.RowKit

def splitOk (k : Int) (xs : List Msg) : Prop := (1 ≤ k ∧ k ≤ 16) ∧ allMay xs

theorem split_no (A : Option Addr) (n c : Nat) (k : Int) (xs : List Msg) (w : World) (hr : Reads w w.heap.size 4 A n (mv xs)) (hn : n ≤ maxLen) (h : ¬ splitOk k xs) :
    Calls Try.prog 17 #[.slice A n c, .int .i64 k] w fun e w' => e = .returned (.tuple #[.slice none 0 0, .int .i64 1]) ∧ Below w.heap.size w w' := by
  by_cases hk : homeOk 0 k
  · have hm : ¬ allMay xs := fun hm => h ⟨hk.2, hm⟩
    go_enter Try.func17, Try.ntmps17
    go_wp2_with (fail)
    refine (home_c 0 k _).mono ?_
    rintro e w1 ⟨rfl, hB1⟩
    rw [decide_eq_true hk]
    clear hk h
    go_wp2_with (fail)
    refine (check_c A n c xs _ ((hr.below hB1).more hB1.size) hn).mono ?_
    rintro e w2 ⟨rfl, hB2⟩
    rw [decide_eq_false hm]
    go_wp2_with (fail)
    go_ret2
    exact ⟨rfl, hB1.trans (hB2.mono hB1.size)⟩
  · go_enter Try.func17, Try.ntmps17
    go_wp2_with (fail)
    refine (home_c 0 k _).mono ?_
    rintro e w1 ⟨rfl, hB1⟩
    rw [decide_eq_false hk]
    clear hk h
    go_wp2_with (fail)
    go_ret2
    exact ⟨rfl, hB1⟩

theorem split16_no (A : Option Addr) (n c : Nat) (k : Int) (xs : List Msg) (w : World) (hr : Reads w w.heap.size 4 A n (mv xs)) (hn : n ≤ maxLen) (h : ¬ splitOk k xs) :
    Calls Try.prog 18 #[.slice A n c, .int .i64 k] w fun e w' => e = .returned (.tuple #[.slice none 0 0, .int .i64 1]) ∧ Below w.heap.size w w' := by
  by_cases h1 : k < 1
  · go_enter Try.func18, Try.ntmps18
    go_wp2_with (fail)
    go_ret2
    exact ⟨rfl, Below.refl _ _⟩
  · by_cases h2 : 16 < k
    · go_enter Try.func18, Try.ntmps18
      go_wp2_with (fail)
      go_ret2
      exact ⟨rfl, Below.refl _ _⟩
    · have hm : ¬ allMay xs := fun hm => h ⟨⟨by omega, by omega⟩, hm⟩
      clear h
      go_enter Try.func18, Try.ntmps18
      go_wp2_with (fail)
      refine (check16_c A n c xs _ hr hn).mono ?_
      rintro e w2 ⟨rfl, hB2⟩
      rw [decide_eq_false hm]
      go_wp2_with (fail)
      go_ret2
      exact ⟨rfl, hB2⟩
end Go.Proofs.Ytgphijfcmegdaaa
