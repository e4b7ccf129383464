/-
  The walks of the picks.
-/
import Derived.Test.YtgphijfcmegdaaaProg
import Derived.Test.YtgphijfcmegdaaaMem
import Derived.Test.YtgphijfcmegdaaaTurnPlain
import Derived.Handy
import Derived.BigQuiet
import Derived.WalkLawsBesides
import Derived.WalkSpells
namespace Go.Proofs.Ytgphijfcmegdaaa
open Go.RowKit

theorem tmod_bd (p n : Int) (h : 1 ≤ n) : -n < p.tmod n ∧ p.tmod n < n := by
  have h1 := Int.tmod_lt_of_pos p (show 0 < n by omega)
  have h2 := Int.lt_tmod_of_pos p (show 0 < n by omega)
  omega

theorem emod_of_tmod (p n : Int) (h : 1 ≤ n) : p % n = if p.tmod n < 0 then p.tmod n + n else p.tmod n := by
  have hb := tmod_bd p n h
  have h1 := Int.emod_nonneg p (show n ≠ 0 by omega)
  have h2 := Int.emod_lt_of_pos p (show 0 < n by omega)
  have h3 := Int.mul_ediv_add_emod p n
  have h4 := Int.mul_tdiv_add_tmod p n
  have hd : n * (p / n - p.tdiv n) = p.tmod n - p % n := by rw [Int.mul_sub]; omega
  generalize p / n - p.tdiv n = t at hd
  have ht : t = 0 ∨ t = -1 := by
    have l1 : -2 < t := by
      refine Int.lt_of_mul_lt_mul_left (a := n) ?_ (by omega)
      rw [hd, show n * -2 = -(2 * n) by omega]; omega
    have l2 : t < 1 := by
      refine Int.lt_of_mul_lt_mul_left (a := n) ?_ (by omega)
      rw [hd]; omega
    omega
  rcases ht with rfl | rfl
  · rw [if_neg (by omega)]; omega
  · rw [if_pos (by omega)]; omega


theorem pick_yes (n p : Int) (w : World) (h1 : 1 ≤ n) (h2 : n ≤ 9223372036854775807) :
    Calls Try.prog 32 #[.int .i64 n, .int .i64 p] w fun e w' => e = .returned (.tuple #[.int .i64 (p % n), .bool true]) ∧ w = w' := by
  have hb1 := (tmod_bd p n h1).1
  have hb2 := (tmod_bd p n h1).2
  have HE := Lib.hid (emod_of_tmod p n h1)
  go_enter Try.func32, Try.ntmps32
  go_wp2
  all_goals go_ret2
  · have h : p.tmod n < 0 := by assumption
    exact ⟨ret_int2 (by rw [HE.out, if_pos h]), rfl⟩
  · have h : 0 ≤ p.tmod n := by assumption
    exact ⟨ret_int2 (by rw [HE.out, if_neg (by omega)]), rfl⟩

theorem pick_no (n p : Int) (w : World) (h1 : n < 1) :
    Calls Try.prog 32 #[.int .i64 n, .int .i64 p] w fun e w' => e = .returned (.tuple #[.int .i64 0, .bool false]) ∧ w = w' := by
  go_enter Try.func32, Try.ntmps32
  go_wp2
  all_goals go_ret2
  all_goals exact ⟨rfl, rfl⟩
end Go.Proofs.Ytgphijfcmegdaaa
