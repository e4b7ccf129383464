/-
  cmp.Compare, cmp.Or and the order of Combine's sort: the walks.
-/
import Derived.Test.YtgphijfcmegdaaaEl
import Derived.Test.YtgphijfcmegdaaaMailPlain
import Derived.Test.YtgphijfcmegdaaaProg
import Derived.Handy
import Derived.BigQuiet
import Derived.WalkLawsBesides
import Derived.WalkSpells
import Derived.Shelf.SlSortCmp.WholeK
namespace Go.Proofs.Ytgphijfcmegdaaa
open Go.RowKit

theorem isNaN_c (x : Int) (w : World) : Calls Try.prog 52 #[.int .i64 x] w fun e w' => e = .returned (.bool false) ∧ w' = w := by
  go_enter Try.func52, Try.ntmps52
  go_wp2
  go_ret
  exact ⟨rfl, rfl⟩

theorem compare_c (x y : Int) (w : World) : Calls Try.prog 38 #[.int .i64 x, .int .i64 y] w fun e w' => e = .returned (.int .i64 (Lib.compareInt x y)) ∧ w' = w := by
  unfold Lib.compareInt
  rcases Int.lt_trichotomy x y with h | h | h
  · rw [if_pos h]
    go_enter Try.func38, Try.ntmps38
    go_wp2_with (fail)
    refine (isNaN_c x _).mono ?_
    rintro e w1 ⟨rfl, rfl⟩
    go_wp2_with (fail)
    refine (isNaN_c y _).mono ?_
    rintro e w1 ⟨rfl, rfl⟩
    go_wp2_with (fail)
    go_ret
    exact ⟨rfl, rfl⟩
  · subst h
    rw [if_neg (by omega), if_neg (by omega)]
    go_enter Try.func38, Try.ntmps38
    go_wp2_with (fail)
    refine (isNaN_c x _).mono ?_
    rintro e w1 ⟨rfl, rfl⟩
    go_wp2_with (fail)
    refine (isNaN_c x _).mono ?_
    rintro e w1 ⟨rfl, rfl⟩
    go_wp2_with (fail)
    go_ret
    exact ⟨rfl, rfl⟩
  · have h' : ¬ x < y := by omega
    rw [if_neg h', if_pos h]
    go_enter Try.func38, Try.ntmps38
    go_wp2_with (fail)
    refine (isNaN_c x _).mono ?_
    rintro e w1 ⟨rfl, rfl⟩
    go_wp2_with (fail)
    refine (isNaN_c y _).mono ?_
    rintro e w1 ⟨rfl, rfl⟩
    go_wp2_with (fail)
    go_ret
    exact ⟨rfl, rfl⟩

/-- The first one that is not nought. -/
def or3 (x y z : Int) : Int := if x ≠ 0 then x else if y ≠ 0 then y else z

theorem or_c (x y z : Int) (b : Nat) (w : World) (h0 : w.cell? ⟨b, 0, none⟩ = some (.int .i64 x)) (h1 : w.cell? ⟨b, 1, none⟩ = some (.int .i64 y)) (h2 : w.cell? ⟨b, 2, none⟩ = some (.int .i64 z)) :
    Calls Try.prog 37 #[.slice (some ⟨b, 0, none⟩) 3 3] w fun e w' => e = .returned (.int .i64 (or3 x y z)) ∧ w' = w := by
  unfold or3
  by_cases hx : x = 0
  · by_cases hy : y = 0
    · by_cases hz : z = 0
      · subst hx hy hz
        go_enter Try.func37, Try.ntmps37
        go_wp2
        refine wp_loop_rounds 4 ?_
        repeat (rw [rounds_succ]; go_wp2)
        go_ret
        exact ⟨rfl, rfl⟩
      · subst hx hy
        go_enter Try.func37, Try.ntmps37
        go_wp2
        refine wp_loop_rounds 4 ?_
        repeat (rw [rounds_succ]; go_wp2)
        go_ret
        exact ⟨by simp, rfl⟩
    · subst hx
      go_enter Try.func37, Try.ntmps37
      go_wp2
      refine wp_loop_rounds 4 ?_
      repeat (rw [rounds_succ]; go_wp2)
      go_ret
      exact ⟨by simp [hy], rfl⟩
  · go_enter Try.func37, Try.ntmps37
    go_wp2
    refine wp_loop_rounds 4 ?_
    repeat (rw [rounds_succ]; go_wp2)
    go_ret
    exact ⟨by simp [hx], rfl⟩
end Go.Proofs.Ytgphijfcmegdaaa
