/-
  The reference's ReadNumber, ReadText and ReadNumbers: the walks.
-/
import Derived.Test.YtmnjlhifjjainaaGreatWireText
import Derived.Handy
import Derived.IntWalk
namespace Go.Proofs.YtmnjlhifjjainaaGreat
open Go.RowKit

/-- What is read from a place on: a number, and the place behind it. -/
def rdAt (s : ByteArray) (p : Int) : Option (Nat × Nat) :=
  if 0 ≤ p ∧ p ≤ s.size then (rdNum (s.data.toList.drop p.toNat)).map fun x => (x.1, p.toNat + x.2) else none

def numAns : Option (Nat × Nat) → Value
  | some (n, q) => .tuple #[.int .i64 n, .int .i64 q, .bool true]
  | none => .tuple #[.int .i64 0, .int .i64 0, .bool false]

theorem extract_list (s : ByteArray) (p j : Nat) (l : List UInt8) (hl : s.data.toList.drop p = l) : (s.extract p (p + j)).toList = l.take j := by
  rw [Go.ByteArray.toList_eq, ByteArray.data_extract, Array.toList_extract, ← hl]
  simp [List.extract]

theorem rdNum_at (l : List UInt8) (j N : Nat) (c : UInt8) (h5 : j < 5) (hc : l[j]? = some c) (hlt : c.toNat < 128) (hd : ∀ k d, k < j → l[k]? = some d → 128 ≤ d.toNat) (hN : valN (l.take (j + 1)) = N) :
    rdNum l = if N ≤ maxNum ∧ numBytes N = l.take (j + 1) then some (N, j + 1) else none := by
  unfold rdNum
  rw [scan_some 5 l j c h5 hc hlt hd]
  simp only [hN]

end Go.Proofs.YtmnjlhifjjainaaGreat
