/-
  Numbers laid one behind the other, and read: plain laws.
-/
import Derived.Test.YtmnjlhifjjainaaNOut
namespace Go.Proofs.Ytmnjlhifjjainaa
open Go.RowKit

/-- Numbers, one behind the other. -/
def layB (xs : List Int) : List UInt8 := xs.flatMap fun x => (numStr x).data.toList
theorem layB_snoc (xs : List Int) (x : Int) : layB (xs ++ [x]) = layB xs ++ (numStr x).data.toList := by simp [layB]
theorem layB_len (xs : List Int) : (layB xs).length ≤ 5 * xs.length := by
  induction xs with
  | nil => simp [layB]
  | cons x xs ih =>
    have h1 := numStr_len x
    rw [← size_list] at h1
    simp only [layB, List.flatMap_cons, List.length_append, List.length_cons] at ih ⊢
    omega

/-- So many numbers, one behind the other (the last one read last). -/
def rdInts (s : ByteArray) : Nat → Nat → Option (List Int × Nat)
  | 0, q => some ([], q)
  | k + 1, q => match rdInts s k q with
    | some (xs, p) => match rdAt s p with
      | some (x, p') => some (xs ++ [(x : Int)], p')
      | none => none
    | none => none

theorem rdInts_none {s : ByteArray} {k q : Nat} (h : rdInts s k q = none) : ∀ n, k ≤ n → rdInts s n q = none := by
  intro n hn
  induction hn with
  | refl => exact h
  | step _ ih => simp only [rdInts, ih]
theorem rdInts_more {s : ByteArray} {j q p p2 x : Nat} {xs : List Int} (h : rdInts s j q = some (xs, p)) (h2 : rdAt s p = some (x, p2)) : rdInts s (j + 1) q = some (xs ++ [(x : Int)], p2) := by
  simp only [rdInts, h, h2]
theorem rdInts_len {s : ByteArray} : ∀ {k q : Nat} {xs : List Int} {p : Nat}, rdInts s k q = some (xs, p) → xs.length = k
  | 0, q, xs, p, h => by simp [rdInts] at h; rw [h.1]; rfl
  | k + 1, q, xs, p, h => by
    simp only [rdInts] at h
    split at h
    · rename_i ys p1 h1
      split at h
      · rename_i x p2 h2
        injection h with h
        injection h with h3 h4
        rw [← h3]
        simp [rdInts_len h1]
      · cases h
    · cases h

theorem rdInts_same {s : ByteArray} : ∀ {k q : Nat} {xs : List Int} {p : Nat}, rdInts s k q = some (xs, p) → q ≤ s.size → q ≤ p ∧ p ≤ s.size ∧ layB xs = (s.data.toList.drop q).take (p - q) ∧ ∀ x ∈ xs, good x
  | 0, q, xs, p, h, hq => by
    simp [rdInts] at h
    obtain ⟨rfl, rfl⟩ := h
    exact ⟨Nat.le_refl _, hq, by simp [layB], fun x hx => by simp at hx⟩
  | k + 1, q, xs, p, h, hq => by
    simp only [rdInts] at h
    split at h
    · rename_i ys p1 h1
      split at h
      · rename_i x p2 h2
        injection h with h
        injection h with h3 h4
        subst h3 h4
        obtain ⟨i1, i2, i3, i4⟩ := rdInts_same h1 hq
        obtain ⟨a1, a2, a3, a4, a5⟩ := rdAt_same h2
        rw [Int.toNat_natCast] at a5
        have hp : p1 ≤ p2 := by omega
        have e1 : (numStr x).data.toList = (s.data.toList.drop p1).take (p2 - p1) := by
          rw [a5, ← extract_data, show p1 + (p2 - p1) = p2 by omega]
        refine ⟨by omega, a3, ?_, fun y hy => ?_⟩
        · rw [layB_snoc, i3, e1, show p2 - q = (p1 - q) + (p2 - p1) by omega, List.take_add, List.drop_drop, show q + (p1 - q) = p1 by omega]
        · rcases List.mem_append.1 hy with hy | hy
          · exact i4 y hy
          · simp at hy; subst hy; exact a4
      · cases h
    · cases h

theorem layB_good {x : Int} (h : good x) : (numStr x).data.toList = numBytes x.toNat := numStr_list h

theorem snoc_ind {α : Type} {p : List α → Prop} (h0 : p []) (h1 : ∀ l x, p l → p (l ++ [x])) : ∀ l, p l := by
  have key : ∀ (k : Nat) (l : List α), l.length = k → p l := by
    intro k
    induction k with
    | zero => intro l h; rw [List.eq_nil_of_length_eq_zero h]; exact h0
    | succ k ih =>
      intro l h
      have hne : l ≠ [] := fun e => by subst e; simp at h
      rw [← List.dropLast_concat_getLast hne]
      exact h1 _ _ (ih _ (by simp [h]))
  exact fun l => key _ l rfl

theorem rdInts_back {s : ByteArray} {q : Nat} : ∀ (xs : List Int) (r : List UInt8), s.data.toList.drop q = layB xs ++ r → (∀ x ∈ xs, good x) → rdInts s xs.length q = some (xs, q + (layB xs).length) := by
  refine snoc_ind (fun r _ _ => rfl) fun xs x ih r h hg => ?_
  have hx := hg x (by simp)
  rw [layB_snoc, List.append_assoc] at h
  have h1 := ih _ h (fun y hy => hg y (by simp [hy]))
  have hd : s.data.toList.drop (q + (layB xs).length) = numBytes x.toNat ++ r := by
    rw [← List.drop_drop, h, List.drop_left, layB_good hx]
  have h2 := rdAt_back hd (good_max hx)
  rw [List.length_append, List.length_singleton, rdInts_more h1 h2, layB_snoc, List.length_append, layB_good hx, Nat.add_assoc]
  rw [show ((x.toNat : Nat) : Int) = x from Int.toNat_of_nonneg hx.1]

end Go.Proofs.Ytmnjlhifjjainaa
