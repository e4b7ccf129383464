/-
  Parse of messages: what is read, plainly.
-/
import Derived.Test.YtgphijfcmegdaaaMailPrint16
namespace Go.Proofs.Ytgphijfcmegdaaa
open Go.RowKit

/-- So many numbers, one behind the other (the last one read last). -/
def rdInts (s : ByteArray) : Nat → Nat → Option (List Int × Nat)
  | 0, q => some ([], q)
  | k + 1, q => match rdInts s k q with
    | some (xs, p) => match rdAt s p with
      | some (x, p') => some (xs ++ [(x : Int)], p')
      | none => none
    | none => none

/-- A message of four numbers. -/
def msgOf (xs : List Int) : Msg := ⟨xs.getD 0 0, xs.getD 1 0, xs.getD 2 0, xs.getD 3 0⟩

/-- So many messages. -/
def rdMsgs (s : ByteArray) : Nat → Nat → Option (List Msg × Nat)
  | 0, q => some ([], q)
  | k + 1, q => match rdMsgs s k q with
    | some (l, p) => match rdInts s 4 p with
      | some (xs, p') => some (l ++ [msgOf xs], p')
      | none => none
    | none => none

theorem rdInts_none {s : ByteArray} {k q : Nat} (h : rdInts s k q = none) : ∀ n, k ≤ n → rdInts s n q = none := by
  intro n hn
  induction hn with
  | refl => exact h
  | step _ ih => simp only [rdInts, ih]
theorem rdMsgs_none {s : ByteArray} {k q : Nat} (h : rdMsgs s k q = none) : ∀ n, k ≤ n → rdMsgs s n q = none := by
  intro n hn
  induction hn with
  | refl => exact h
  | step _ ih => simp only [rdMsgs, ih]

theorem rdInts_more {s : ByteArray} {j q p p2 x : Nat} {xs : List Int} (h : rdInts s j q = some (xs, p)) (h2 : rdAt s p = some (x, p2)) : rdInts s (j + 1) q = some (xs ++ [(x : Int)], p2) := by
  simp only [rdInts, h, h2]
theorem rdInts_stop {s : ByteArray} {j q p : Nat} {xs : List Int} (h : rdInts s j q = some (xs, p)) (h2 : rdAt s p = none) (hj : j < 4) : rdInts s 4 q = none :=
  rdInts_none (k := j + 1) (by simp only [rdInts, h, h2]) 4 (by omega)
theorem rdMsgs_more {s : ByteArray} {k q p p2 : Nat} {l : List Msg} {xs : List Int} (h : rdMsgs s k q = some (l, p)) (h2 : rdInts s 4 p = some (xs, p2)) : rdMsgs s (k + 1) q = some (l ++ [msgOf xs], p2) := by
  simp only [rdMsgs, h, h2]
theorem rdMsgs_stop {s : ByteArray} {k q p n : Nat} {l : List Msg} (h : rdMsgs s k q = some (l, p)) (h2 : rdInts s 4 p = none) (hk : k < n) : rdMsgs s n q = none :=
  rdMsgs_none (k := k + 1) (by simp only [rdMsgs, h, h2]) n (by omega)

theorem rdInts_len {s : ByteArray} : ∀ {k q : Nat} {xs : List Int} {p : Nat}, rdInts s k q = some (xs, p) → xs.length = k
  | 0, q, xs, p, h => by simp [rdInts] at h; rw [h.1]; rfl
  | k + 1, q, xs, p, h => by
    simp only [rdInts] at h
    split at h
    · rename_i ys p1 h1
      split at h
      · rename_i x p2 h2
        injection h with h
        injection h with h3 h4
        rw [← h3]
        simp [rdInts_len h1]
      · cases h
    · cases h

theorem rdInts_same {s : ByteArray} : ∀ {k q : Nat} {xs : List Int} {p : Nat}, rdInts s k q = some (xs, p) → q ≤ s.size → q ≤ p ∧ p ≤ s.size ∧ layB xs = (s.data.toList.drop q).take (p - q) ∧ ∀ x ∈ xs, good x
  | 0, q, xs, p, h, hq => by
    simp [rdInts] at h
    obtain ⟨rfl, rfl⟩ := h
    exact ⟨Nat.le_refl _, hq, by simp [layB], fun x hx => by simp at hx⟩
  | k + 1, q, xs, p, h, hq => by
    simp only [rdInts] at h
    split at h
    · rename_i ys p1 h1
      split at h
      · rename_i x p2 h2
        injection h with h
        injection h with h3 h4
        subst h3 h4
        obtain ⟨i1, i2, i3, i4⟩ := rdInts_same h1 hq
        obtain ⟨a1, a2, a3, a4, a5⟩ := rdAt_same h2
        rw [Int.toNat_natCast] at a5
        have hp : p1 ≤ p2 := by omega
        have e1 : (numStr x).data.toList = (s.data.toList.drop p1).take (p2 - p1) := by
          rw [a5, ← extract_data, show p1 + (p2 - p1) = p2 by omega]
        refine ⟨by omega, a3, ?_, fun y hy => ?_⟩
        · rw [layB_snoc, i3, e1, show p2 - q = (p1 - q) + (p2 - p1) by omega, List.take_add, List.drop_drop, show q + (p1 - q) = p1 by omega]
        · rcases List.mem_append.1 hy with hy | hy
          · exact i4 y hy
          · simp at hy; subst hy; exact a4
      · cases h
    · cases h

theorem layB_msg {xs : List Int} (h : xs.length = 4) : msgB (msgOf xs) = layB xs := by
  match xs, h with
  | [a, b, c, d], _ => rfl

theorem rdMsgs_same {s : ByteArray} : ∀ {k q : Nat} {l : List Msg} {p : Nat}, rdMsgs s k q = some (l, p) → q ≤ s.size → l.length = k ∧ q ≤ p ∧ p ≤ s.size ∧ msgsB l = (s.data.toList.drop q).take (p - q)
  | 0, q, l, p, h, hq => by
    simp [rdMsgs] at h
    obtain ⟨rfl, rfl⟩ := h
    exact ⟨rfl, Nat.le_refl _, hq, by simp [msgsB]⟩
  | k + 1, q, l, p, h, hq => by
    simp only [rdMsgs] at h
    split at h
    · rename_i l1 p1 h1
      split at h
      · rename_i xs p2 h2
        injection h with h
        injection h with h3 h4
        subst h3 h4
        obtain ⟨i0, i1, i2, i3⟩ := rdMsgs_same h1 hq
        obtain ⟨a1, a2, a3, a4⟩ := rdInts_same h2 i2
        refine ⟨by simp [i0], by omega, a2, ?_⟩
        rw [msgsB_snoc, layB_msg (rdInts_len h2), i3, a3, show p2 - q = (p1 - q) + (p2 - p1) by omega, List.take_add, List.drop_drop, show q + (p1 - q) = p1 by omega]
      · cases h
    · cases h

/-- What the bytes are: messages, or none. -/
def parseO (s : ByteArray) : Option (List Msg) :=
  match rdAt s 0 with
  | some (n, q) => if n ≤ 1000 then (match rdMsgs s n q with
    | some (l, e) => if e = s.size ∧ allMay l then some l else none
    | none => none) else none
  | none => none
def parseL (s : ByteArray) : List Msg := (parseO s).getD []
def parseErr (s : ByteArray) : Int := if (parseO s).isSome then 0 else 220

theorem parse_same {s : ByteArray} {n q e : Nat} {l : List Msg} (h1 : rdAt s 0 = some (n, q)) (h2 : n ≤ 1000) (h3 : rdMsgs s n q = some (l, e)) :
    (printErr l = 0 ∧ printS l = s) ↔ (e = s.size ∧ allMay l) := by
  obtain ⟨-, a2, a3, a4, a5⟩ := rdAt_same h1
  obtain ⟨i0, i1, i2, i3⟩ := rdMsgs_same h3 a3
  have hp : allMay l → (printS l).data.toList = s.data.toList.take e := fun hm => by
    unfold printS
    rw [if_pos ⟨by omega, hm⟩]
    unfold printB
    rw [i0, i3]
    have e1 : layB [(n : Int)] = s.data.toList.take q := by
      have : layB [(n : Int)] = (numStr n).data.toList := by simp [layB]
      rw [this, a5]
      have := extract_data s 0 q
      rw [Nat.zero_add, List.drop_zero] at this
      exact this
    rw [e1]
    show s.data.toList.take q ++ (s.data.toList.drop q).take (e - q) = _
    rw [show e = q + (e - q) by omega, List.take_add, show q + (e - q) - q = e - q by omega]
  constructor
  · rintro ⟨p1, p2⟩
    have hm : allMay l := by
      unfold printErr at p1
      rw [if_neg (by omega)] at p1
      split at p1
      · assumption
      · omega
    have := hp hm
    rw [p2] at this
    have hl := congrArg List.length this
    rw [List.length_take, size_list] at hl
    exact ⟨by omega, hm⟩
  · rintro ⟨p1, hm⟩
    refine ⟨by unfold printErr; rw [if_neg (by omega), if_pos hm], bytes_ext ?_⟩
    rw [hp hm, p1, ← size_list, List.take_length]

theorem parseO_some {s : ByteArray} {n q e : Nat} {l : List Msg} (h1 : rdAt s 0 = some (n, q)) (h2 : n ≤ 1000) (h3 : rdMsgs s n q = some (l, e)) (h4 : e = s.size ∧ allMay l) : parseO s = some l := by
  unfold parseO
  simp only [h1, if_pos h2, h3, if_pos h4]
theorem parseO_bad {s : ByteArray} {n q e : Nat} {l : List Msg} (h1 : rdAt s 0 = some (n, q)) (h2 : n ≤ 1000) (h3 : rdMsgs s n q = some (l, e)) (h4 : ¬ (e = s.size ∧ allMay l)) : parseO s = none := by
  unfold parseO
  simp only [h1, if_pos h2, h3, if_neg h4]
theorem parseO_many {s : ByteArray} {n q : Nat} (h1 : rdAt s 0 = some (n, q)) (h2 : ¬ n ≤ 1000) : parseO s = none := by
  unfold parseO
  simp only [h1, if_neg h2]
theorem parseO_short {s : ByteArray} {n q : Nat} (h1 : rdAt s 0 = some (n, q)) (h2 : n ≤ 1000) (h3 : rdMsgs s n q = none) : parseO s = none := by
  unfold parseO
  simp only [h1, if_pos h2, h3]
theorem parseO_none {s : ByteArray} (h1 : rdAt s 0 = none) : parseO s = none := by
  unfold parseO
  simp only [h1]
theorem parse_none {s : ByteArray} (h : parseO s = none) : parseL s = [] ∧ parseErr s = 220 := by
  unfold parseL parseErr
  rw [h]
  exact ⟨rfl, rfl⟩
theorem parse_some {s : ByteArray} {l : List Msg} (h : parseO s = some l) : parseL s = l ∧ parseErr s = 0 := by
  unfold parseL parseErr
  rw [h]
  exact ⟨rfl, rfl⟩
end Go.Proofs.Ytgphijfcmegdaaa
