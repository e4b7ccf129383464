/-
  'n |= d << 7i' in int: no bit is set twice.
-/
import Derived.Laws.BitsAllLaws
import Derived.IntWalk
namespace Go.Proofs.Ytmnjlhifjjainaa
open Go Go.RowKit

theorem ofInt_64 (a : Nat) (ha : a < 18446744073709551616) : (BitVec.ofInt 64 (a : Int)).toNat = a := by
  rw [BitVec.ofInt_natCast, BitVec.toNat_ofNat]; exact Nat.mod_eq_of_lt (by omega)

theorem i64_or_nat (a b : Nat) (ha : a < 9223372036854775808) (hb : b < 9223372036854775808) : bits .or .i64 (a : Int) (b : Int) = ((a ||| b : Nat) : Int) := by
  have hx : a ||| b < 2 ^ 63 := Nat.or_lt_two_pow (by omega) (by omega)
  have h63 : (2 : Nat) ^ 63 = 9223372036854775808 := by decide
  show IntKind.i64.wrap ((BitVec.ofInt 64 (a : Int) ||| BitVec.ofInt 64 (b : Int)).toNat : Int) = _
  rw [BitVec.toNat_or, ofInt_64 a (by omega), ofInt_64 b (by omega)]
  exact IntWalk.i64_in _ (by omega)

theorem or_digit (V d j : Nat) (hV : V < 128 ^ j) (hd : d < 128) (hj : j < 5) :
    bits .or .i64 (V : Int) (wrap64 ((d : Int) * 2 ^ (7 * j))) = ((V + 128 ^ j * d : Nat) : Int) := by
  have hp : (128 : Nat) ^ j = 2 ^ (7 * j) := by rw [Nat.pow_mul]
  have hle : (128 : Nat) ^ j ≤ 268435456 := by
    have h3 := Nat.pow_le_pow_right (show 0 < 128 by omega) (show j ≤ 4 by omega)
    simpa using h3
  have hprod : 128 ^ j * d ≤ 268435456 * 128 := Nat.mul_le_mul hle (by omega)
  have e : (d : Int) * 2 ^ (7 * j) = ((128 ^ j * d : Nat) : Int) := by
    rw [hp]; push_cast; exact Int.mul_comm _ _
  rw [e, IntWalk.wrap64_in _ (by omega), i64_or_nat _ _ (by omega) (by omega)]
  congr 1
  rw [hp] at hV ⊢
  have := Nat.two_pow_add_eq_or_of_lt hV d
  rw [Nat.or_comm, ← this]
  omega
end Go.Proofs.Ytmnjlhifjjainaa
