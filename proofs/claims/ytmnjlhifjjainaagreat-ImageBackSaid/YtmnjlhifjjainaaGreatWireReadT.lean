/-
  The reference's ReadText and ReadNumbers: the walks.
-/
import Derived.Test.YtmnjlhifjjainaaGreatWireRead
import Derived.Test.YtmnjlhifjjainaaGreatElInt
namespace Go.Proofs.YtmnjlhifjjainaaGreat
open Go.RowKit

theorem rdAt_spec {s : ByteArray} {p : Int} {n q : Nat} (h : rdAt s p = some (n, q)) : 0 ≤ p ∧ p < q ∧ q ≤ s.size ∧ n ≤ maxNum ∧ ∃ k, q = p.toNat + k ∧ k ≤ 5 ∧ numBytes n = (s.data.toList.drop p.toNat).take k := by
  unfold rdAt at h
  split at h
  · rename_i hp
    cases hr : rdNum (s.data.toList.drop p.toNat) with
    | none => rw [hr] at h; cases h
    | some x =>
      obtain ⟨m, k⟩ := x
      rw [hr] at h
      simp at h
      obtain ⟨rfl, rfl⟩ := h
      obtain ⟨h1, h2, h3, h4, h5⟩ := rdNum_same hr
      rw [List.length_drop] at h5
      have h6 : s.data.toList.length = s.size := by rw [Array.length_toList]; rfl
      exact ⟨hp.1, by omega, by omega, h1, k, rfl, h4, h2⟩
  · cases h

/-- What is read from a place on: a text, and the place behind it. -/
def rdText (s : ByteArray) (p : Int) : Option (ByteArray × Nat) :=
  match rdAt s p with
  | some (n, q) => if n ≤ 4000 ∧ q + n ≤ s.size then some (s.extract q (q + n), q + n) else none
  | none => none

def textAns : Option (ByteArray × Nat) → Value
  | some (t, q) => .tuple #[.string t, .int .i64 q, .bool true]
  | none => .tuple #[.string ⟨#[]⟩, .int .i64 0, .bool false]

/-- So many numbers, one behind the other. -/
def rdMany (s : ByteArray) : Nat → Nat → Option (List Int × Nat)
  | 0, q => some ([], q)
  | k + 1, q => match rdAt s q with
    | some (x, q') => (rdMany s k q').map fun r => ((x : Int) :: r.1, r.2)
    | none => none

/-- What is read from a place on: a row, and the place behind it. -/
def rdNums (s : ByteArray) (p : Int) : Option (List Int × Nat) :=
  match rdAt s p with
  | some (n, q) => if n ≤ 4000 then rdMany s n q else none
  | none => none

theorem rdMany_len {s : ByteArray} : ∀ {k q : Nat} {xs : List Int} {q' : Nat}, rdMany s k q = some (xs, q') → xs.length = k
  | 0, q, xs, q', h => by simp [rdMany] at h; rw [h.1]; rfl
  | k + 1, q, xs, q', h => by
    simp only [rdMany] at h
    split at h
    · rename_i x y hr
      cases hm : rdMany s k y with
      | none => rw [hm] at h; cases h
      | some r =>
        obtain ⟨ys, z⟩ := r
        rw [hm] at h
        simp at h
        rw [← h.1]
        simp [rdMany_len hm]
    · cases h

/-- The answer of a reader of rows, in a world. -/
def NumsAns (w w' : World) (v : Value) : Option (List Int × Nat) → Prop
  | some (xs, q) => ∃ A c, v = .tuple #[.slice A xs.length c, .int .i64 q, .bool true] ∧ w'.ownsRow w.heap.size 3 1 (.slice A xs.length c) xs.length (iv xs)
  | none => v = .tuple #[.slice none 0 0, .int .i64 0, .bool false]

end Go.Proofs.YtmnjlhifjjainaaGreat
