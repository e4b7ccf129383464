/-
  Plain laws of chapter 1: what is laid is read, what is read is laid, nothing laid begins another.
-/
import Derived.Test.YtmnjlhifjjainaaGreatWireTot
namespace Go.Proofs.YtmnjlhifjjainaaGreat
open Go.RowKit

theorem size_list (s : ByteArray) : s.data.toList.length = s.size := by rw [Array.length_toList]; rfl

theorem bytes_ext {s t : ByteArray} (h : s.data.toList = t.data.toList) : s = t := ByteArray.ext (Array.ext' h)

theorem extract_data (s : ByteArray) (p k : Nat) : (s.extract p (p + k)).data.toList = (s.data.toList.drop p).take k := by
  have := extract_list s p k _ rfl
  rw [Go.ByteArray.toList_eq] at this
  exact this

theorem rdAt_back {s : ByteArray} {p n : Nat} {r : List UInt8} (h : s.data.toList.drop p = numBytes n ++ r) (hn : n ≤ maxNum) :
    rdAt s p = some (n, p + (numBytes n).length) := by
  have hp : p ≤ s.size := by
    rcases Nat.lt_or_ge s.size p with h1 | h1
    · have h2 : s.data.toList.drop p = [] := List.drop_of_length_le (by rw [size_list]; omega)
      rw [h2] at h
      have := (numBytes_len n).1
      have h3 := congrArg List.length h
      simp at h3
      omega
    · exact h1
  unfold rdAt
  rw [if_pos ⟨by omega, by omega⟩, Int.toNat_natCast, h, rdNum_back n r hn]
  rfl

theorem rdText_back {s t : ByteArray} {p : Nat} {r : List UInt8} (h : s.data.toList.drop p = numBytes t.size ++ (t.data.toList ++ r)) (ht : t.size ≤ 4000) :
    rdText s p = some (t, p + (numBytes t.size).length + t.size) := by
  have hm : t.size ≤ maxNum := by unfold maxNum; omega
  have hd : s.data.toList.drop (p + (numBytes t.size).length) = t.data.toList ++ r := by
    rw [← List.drop_drop, h, List.drop_left]
  have hsz : p + (numBytes t.size).length + t.size ≤ s.size := by
    have h1 := congrArg List.length h
    rw [List.length_drop, size_list, List.length_append, List.length_append, size_list] at h1
    have := (numBytes_len t.size).1
    omega
  unfold rdText
  rw [rdAt_back h hm]
  simp only []
  rw [if_pos ⟨ht, hsz⟩]
  congr 2
  apply bytes_ext
  rw [extract_data, hd, ← size_list t, List.take_left]

theorem rowB_cons (x : Int) (xs : List Int) : rowB (x :: xs) = numBytes x.toNat ++ rowB xs := rfl

theorem good_max {x : Int} (h : good x) : x.toNat ≤ maxNum := by have := h.2; unfold maxNum; omega

theorem rdMany_back {s : ByteArray} {r : List UInt8} : ∀ {xs : List Int} {q : Nat}, s.data.toList.drop q = rowB xs ++ r → (∀ x ∈ xs, good x) → rdMany s xs.length q = some (xs, q + (rowB xs).length)
  | [], q, _, _ => rfl
  | x :: xs, q, h, hg => by
    rw [rowB_cons, List.append_assoc] at h
    have hx := hg x (by simp)
    have hd : s.data.toList.drop (q + (numBytes x.toNat).length) = rowB xs ++ r := by
      rw [← List.drop_drop, h, List.drop_left]
    have ih := rdMany_back hd (fun y hy => hg y (by simp [hy]))
    simp only [List.length_cons, rdMany]
    rw [rdAt_back h (good_max hx)]
    simp only []
    rw [ih, rowB_cons, List.length_append, Nat.add_assoc]
    have hxx : ((x.toNat : Nat) : Int) = x := Int.toNat_of_nonneg hx.1
    simp [hxx]

theorem rdNums_back {s : ByteArray} {xs : List Int} {p : Nat} {r : List UInt8} (h : s.data.toList.drop p = rowBytes xs ++ r) (hg : allGood xs) :
    rdNums s p = some (xs, p + (rowBytes xs).length) := by
  unfold rowBytes at h ⊢
  rw [List.append_assoc] at h
  have h4 := hg.1
  have hd : s.data.toList.drop (p + (numBytes xs.length).length) = rowB xs ++ r := by
    rw [← List.drop_drop, h, List.drop_left]
  unfold rdNums
  rw [rdAt_back h (by unfold maxNum; omega)]
  simp only []
  rw [if_pos h4, rdMany_back hd hg.2, List.length_append, Nat.add_assoc]

theorem rdAt_same {s : ByteArray} {p : Int} {n q : Nat} (h : rdAt s p = some (n, q)) : 0 ≤ p ∧ p < q ∧ q ≤ s.size ∧ good n ∧ numStr n = s.extract p.toNat q := by
  obtain ⟨h1, h2, h3, h4, k, rfl, h5, h6⟩ := rdAt_spec h
  have hg : good (n : Int) := ⟨by omega, by unfold maxNum at h4; omega⟩
  refine ⟨h1, h2, h3, hg, ?_⟩
  unfold numStr
  rw [if_pos hg]
  apply bytes_ext
  rw [extract_data, ← h6]
  simp

theorem split_take {α : Type} (l : List α) (i j : Nat) : l.take i ++ (l.drop i).take j = l.take (i + j) := by
  rw [List.take_add]

theorem rdText_same {s t : ByteArray} {p : Int} {q : Nat} (h : rdText s p = some (t, q)) : 0 ≤ p ∧ p < q ∧ q ≤ s.size ∧ t.size ≤ 4000 ∧ textStr t = s.extract p.toNat q := by
  unfold rdText at h
  split at h
  · rename_i n q0 hr
    obtain ⟨h1, h2, h3, h4, k, rfl, h5, h6⟩ := rdAt_spec hr
    split at h
    · rename_i hc
      injection h with h
      injection h with ht hq
      subst hq
      have hl : t.data.toList = ((s.data.toList.drop p.toNat).drop k).take n := by
        rw [← ht, extract_data, List.drop_drop]
      have hs : t.size = n := by
        rw [← size_list, hl, List.length_take, List.length_drop, List.length_drop, size_list]
        omega
      refine ⟨h1, by omega, by omega, by omega, ?_⟩
      unfold textStr textBytes
      rw [if_pos (by omega), hs]
      apply bytes_ext
      rw [Nat.add_assoc, extract_data, ← split_take, ← h6, ← hl]
    · cases h
  · cases h

theorem rdMany_same {s : ByteArray} : ∀ {k q : Nat} {xs : List Int} {q' : Nat}, rdMany s k q = some (xs, q') → q ≤ s.size → q ≤ q' ∧ q' ≤ s.size ∧ (∀ x ∈ xs, good x) ∧ rowB xs = (s.data.toList.drop q).take (q' - q)
  | 0, q, xs, q', h, hq => by
    simp [rdMany] at h
    obtain ⟨rfl, rfl⟩ := h
    exact ⟨Nat.le_refl _, hq, fun x hx => by simp at hx, by simp [rowB]⟩
  | k + 1, q, xs, q', h, hq => by
    simp only [rdMany] at h
    split at h
    · rename_i x y hr
      obtain ⟨h1, h2, h3, h4, j, h5, h6, h7⟩ := rdAt_spec hr
      rw [Int.toNat_natCast] at h5 h7
      cases hm : rdMany s k y with
      | none => rw [hm] at h; cases h
      | some r =>
        obtain ⟨ys, z⟩ := r
        rw [hm] at h
        simp at h
        obtain ⟨rfl, rfl⟩ := h
        obtain ⟨i1, i2, i3, i4⟩ := rdMany_same hm h3
        refine ⟨by omega, i2, fun v hv => ?_, ?_⟩
        · rcases List.mem_cons.1 hv with rfl | hv
          · exact ⟨by omega, by unfold maxNum at h4; omega⟩
          · exact i3 v hv
        · rw [rowB_cons, Int.toNat_natCast, i4, h7, h5, ← List.drop_drop, split_take]
          congr 1
          omega
    · cases h

theorem rdNums_same {s : ByteArray} {xs : List Int} {p : Int} {q : Nat} (h : rdNums s p = some (xs, q)) : 0 ≤ p ∧ p < q ∧ q ≤ s.size ∧ allGood xs ∧ rowStr xs = s.extract p.toNat q := by
  unfold rdNums at h
  split at h
  · rename_i n q0 hr
    obtain ⟨h1, h2, h3, h4, k, h5, h6, h7⟩ := rdAt_spec hr
    split at h
    · rename_i hc
      obtain ⟨i1, i2, i3, i4⟩ := rdMany_same h h3
      have hl := rdMany_len h
      have hg : allGood xs := ⟨by omega, i3⟩
      refine ⟨h1, by omega, i2, hg, ?_⟩
      unfold rowStr rowBytes
      rw [if_pos hg, hl, i4, h7]
      apply bytes_ext
      rw [show q = p.toNat + (k + (q - q0)) by omega, extract_data, h5, ← List.drop_drop, split_take]
      simp
      congr 1
      omega
    · cases h
  · cases h

theorem numBytes_front {n m : Nat} (hn : n ≤ maxNum) (hm : m ≤ maxNum) {r r' : List UInt8} (h : numBytes n ++ r = numBytes m ++ r') : n = m ∧ r = r' := by
  have h1 := rdNum_back n r hn
  rw [h, rdNum_back m r' hm] at h1
  injection h1 with h1
  injection h1 with h1 h2
  subst h1
  exact ⟨rfl, List.append_cancel_left h⟩

theorem numStr_list {n : Int} (h : good n) : (numStr n).data.toList = numBytes n.toNat := by unfold numStr; rw [if_pos h]
theorem textStr_list {s : ByteArray} (h : s.size ≤ 4000) : (textStr s).data.toList = numBytes s.size ++ s.data.toList := by unfold textStr; rw [if_pos h]; rfl
theorem rowStr_list {xs : List Int} (h : allGood xs) : (rowStr xs).data.toList = rowBytes xs := by unfold rowStr; rw [if_pos h]

theorem front_list {a b : ByteArray} (h : b.extract 0 a.size = a) : ∃ r, b.data.toList = a.data.toList ++ r := by
  refine ⟨b.data.toList.drop a.size, ?_⟩
  have h1 := extract_data b 0 a.size
  rw [Nat.zero_add, h, List.drop_zero] at h1
  rw [h1, List.take_append_drop]

theorem front_self (a : ByteArray) : a.extract 0 a.size = a := by
  apply bytes_ext
  have h1 := extract_data a 0 a.size
  rw [Nat.zero_add] at h1
  rw [h1, List.drop_zero, ← size_list, List.take_length]

theorem num_front {n m : Int} (hn : good n) (hm : good m) : (numStr m).extract 0 (numStr n).size = numStr n ↔ n = m := by
  constructor
  · intro h
    obtain ⟨r, h1⟩ := front_list h
    rw [numStr_list hn, numStr_list hm] at h1
    have h2 := numBytes_front (good_max hm) (good_max hn) (r := []) (r' := r) (by rw [List.append_nil]; exact h1)
    have := h2.1
    have := hn.1
    have := hm.1
    omega
  · rintro rfl
    exact front_self _

theorem text_front {s t : ByteArray} (hs : s.size ≤ 4000) (ht : t.size ≤ 4000) : (textStr t).extract 0 (textStr s).size = textStr s ↔ s = t := by
  constructor
  · intro h
    obtain ⟨r, h1⟩ := front_list h
    rw [textStr_list hs, textStr_list ht, List.append_assoc] at h1
    obtain ⟨h2, h3⟩ := numBytes_front (by unfold maxNum; omega) (by unfold maxNum; omega) h1
    apply bytes_ext
    have h4 := congrArg List.length h3
    rw [List.length_append, size_list, size_list, h2] at h4
    have : r = [] := List.eq_nil_of_length_eq_zero (by omega)
    rw [h3, this, List.append_nil]
  · rintro rfl
    exact front_self _

/-- Where something is laid between what is ahead and what is behind. -/
theorem laid_drop (a b c : ByteArray) : (a ++ b ++ c).data.toList.drop a.size = b.data.toList ++ c.data.toList := by
  rw [ByteArray.data_append, ByteArray.data_append, Array.toList_append, Array.toList_append, List.append_assoc, ← size_list a, List.drop_left]
end Go.Proofs.YtmnjlhifjjainaaGreat
