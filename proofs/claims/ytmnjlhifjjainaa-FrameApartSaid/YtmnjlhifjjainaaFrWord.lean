/-
  What is a word, a place: the small functions of both sides.
-/
import Derived.Test.YtmnjlhifjjainaaFrMem
import Derived.Handy
import Derived.IntWalk
namespace Go.Proofs.Ytmnjlhifjjainaa
open Go.RowKit

theorem str_get {s : ByteArray} {k : Nat} (h : k < s.size) : s.data.toList[k]? = some s[k] := by
  have : k < s.data.size := h
  rw [Array.getElem?_toList, Array.getElem?_eq_getElem this]; rfl
def lowc (c : UInt8) : Prop := 97 ≤ c.toNat ∧ c.toNat ≤ 122
def lows (l : List UInt8) : Prop := ∀ c ∈ l, lowc c
theorem lows_more {l : List UInt8} {k : Nat} {c : UInt8} (h : lows (l.take k)) (hc : l[k]? = some c) (hl : lowc c) : lows (l.take (k + 1)) := by
  intro d hd
  rw [List.take_add_one, hc, List.mem_append] at hd
  rcases hd with hd | hd
  · exact h d hd
  · simp at hd; subst hd; exact hl
theorem not_word {s : ByteArray} {k : Nat} {c : UInt8} (hc : s.data.toList[k]? = some c) (hl : ¬ lowc c) : ¬ isWord s := fun h => hl (h.2 c (List.mem_of_getElem? hc))
theorem is_word {s : ByteArray} (h : lows (s.data.toList.take s.size)) (h1 : 1 ≤ s.size) (h2 : s.size ≤ 12) : isWord s := by
  refine ⟨⟨h1, h2⟩, fun c hc => h c ?_⟩
  rw [List.take_of_length_le (by rw [size_list]; exact Nat.le_refl _)]
  exact hc

set_option maxRecDepth 100000 in
set_option maxHeartbeats 2000000 in
theorem refWord_c (s : ByteArray) (w : World) (hs : s.size ≤ 1000000) :
    Calls Try.prog 121 #[.string s] w fun e w' => e = .returned (.bool (decide (isWord s))) ∧ Below w.heap.size w w' := by
  go_enter Try.func121, Try.ntmps121
  go_wp2_with (fail)
  go_loopw [3] (fun i wr => ∃ k : Nat, k ≤ s.size ∧ i = .int .i64 k ∧ Hid (lows (s.data.toList.take k)) ∧ Below w.heap.size w wr) (fun i _ => s.size - (intOf i).toNat)
  case atStart => exact ⟨0, Nat.zero_le _, rfl, fun c hc => by simp at hc, Below.refl _ _⟩
  case round =>
    obtain ⟨k, hk, rfl, hl, hB⟩ := hrel
    by_cases hlt : k < s.size
    · have hc := str_get hlt
      have c1 : (k : Int) < (s.size : Int) := by omega
      by_cases hlo : s[k].toNat < 97
      · have H := Lib.hid (not_word hc (by unfold lowc; omega))
        clear hc
        have d1 : (s[k].toNat : Int) < 97 := by omega
        go_wp2_with (fail)
        go_ret
        exact ⟨ret_bool (decide_eq_false H.out).symm, hB⟩
      · by_cases hhi : 122 < s[k].toNat
        · have H := Lib.hid (not_word hc (by unfold lowc; omega))
          clear hc
          have d1 : ¬ (s[k].toNat : Int) < 97 := by omega
          have d2 : 122 < (s[k].toNat : Int) := by omega
          go_wp2_with (fail)
          go_ret
          exact ⟨ret_bool (decide_eq_false H.out).symm, hB⟩
        · have H := Lib.hid (lows_more hl.out hc (by unfold lowc; omega))
          clear hc
          have d1 : ¬ (s[k].toNat : Int) < 97 := by omega
          have d2 : ¬ 122 < (s[k].toNat : Int) := by omega
          go_wp2_with (fail)
          go_roundw
          case rel => exact ⟨k + 1, by omega, by go_num, H.out, hB⟩
          case measure => simp [intOf]; omega
    · obtain rfl : k = s.size := by omega
      by_cases h1 : 1 ≤ s.size
      · by_cases h2 : s.size ≤ 12
        · have H := Lib.hid (is_word hl.out h1 h2)
          have d1 : (1 : Int) ≤ (s.size : Int) := by omega
          have d2 : (s.size : Int) ≤ 12 := by omega
          go_wp2_with (fail)
          go_ret
          exact ⟨ret_bool (by first | (rw [decide_eq_true H.out]; done) | (rw [decide_eq_true H.out]; simp [D1.out]; done) | (rw [decide_eq_true H.out]; simp; done) | (rw [decide_eq_true H.out]; simp; omega)), hB⟩
        · have d1 : (1 : Int) ≤ (s.size : Int) := by omega
          have d2 : ¬ (s.size : Int) ≤ 12 := by omega
          have H := Lib.hid (fun h : isWord s => h2 h.1.2)
          go_wp2_with (fail)
          go_ret
          exact ⟨ret_bool (by first | (rw [decide_eq_false H.out]; done) | (rw [decide_eq_false H.out]; simp [D1.out]; done) | (rw [decide_eq_false H.out]; simp; done) | (rw [decide_eq_false H.out]; simp; omega)), hB⟩
      · have d1 : ¬ (1 : Int) ≤ (s.size : Int) := by omega
        have H := Lib.hid (fun h : isWord s => h1 h.1.1)
        go_wp2_with (fail)
        go_ret
        exact ⟨ret_bool (by first | (rw [decide_eq_false H.out]; done) | (rw [decide_eq_false H.out]; simp [D1.out]; done) | (rw [decide_eq_false H.out]; simp; done) | (rw [decide_eq_false H.out]; simp; omega)), hB⟩

set_option maxRecDepth 100000 in
set_option maxHeartbeats 2000000 in
theorem word_c (s : ByteArray) (w : World) (hs : s.size ≤ 1000000) :
    Calls Try.prog 112 #[.string s] w fun e w' => e = .returned (.bool (decide (isWord s))) ∧ Below w.heap.size w w' := by
  go_enter Try.func112, Try.ntmps112
  go_wp2_with (fail)
  go_loopw [6] (fun i wr => ∃ k : Nat, k ≤ s.size ∧ i = .int .i64 k ∧ Hid (lows (s.data.toList.take k)) ∧ Below w.heap.size w wr) (fun i _ => s.size - (intOf i).toNat)
  case atStart => exact ⟨0, Nat.zero_le _, rfl, fun c hc => by simp at hc, Below.refl _ _⟩
  case round =>
    obtain ⟨k, hk, rfl, hl, hB⟩ := hrel
    by_cases hlt : k < s.size
    · have hc := str_get hlt
      have c1 : (k : Int) < (s.size : Int) := by omega
      by_cases hlo : s[k].toNat < 97
      · have H := Lib.hid (not_word hc (by unfold lowc; omega))
        clear hc
        have d1 : (s[k].toNat : Int) < 97 := by omega
        go_wp2_with (fail)
        go_ret
        exact ⟨ret_bool (decide_eq_false H.out).symm, hB⟩
      · by_cases hhi : 122 < s[k].toNat
        · have H := Lib.hid (not_word hc (by unfold lowc; omega))
          clear hc
          have d1 : ¬ (s[k].toNat : Int) < 97 := by omega
          have d2 : 122 < (s[k].toNat : Int) := by omega
          go_wp2_with (fail)
          go_ret
          exact ⟨ret_bool (decide_eq_false H.out).symm, hB⟩
        · have H := Lib.hid (lows_more hl.out hc (by unfold lowc; omega))
          clear hc
          have d1 : ¬ (s[k].toNat : Int) < 97 := by omega
          have d2 : ¬ 122 < (s[k].toNat : Int) := by omega
          go_wp2_with (fail)
          go_roundw
          case rel => exact ⟨k + 1, by omega, by go_num, H.out, hB⟩
          case measure => simp [intOf]; omega
    · obtain rfl : k = s.size := by omega
      by_cases h1 : 1 ≤ s.size
      · have d1 : ¬ s.toList = [] := by
          intro h
          rw [Go.ByteArray.toList_eq] at h
          have := size_list s
          rw [h] at this
          simp at this
          omega
        have D1 := Lib.hid d1
        by_cases h2 : s.size ≤ 12
        · have H := Lib.hid (is_word hl.out h1 h2)
          have d2 : (s.size : Int) ≤ 12 := by omega
          go_wp2_with (fail)
          go_ret
          exact ⟨ret_bool (by first | (rw [decide_eq_true H.out]; done) | (rw [decide_eq_true H.out]; simp [D1.out]; done) | (rw [decide_eq_true H.out]; simp; done) | (rw [decide_eq_true H.out]; simp; omega)), hB⟩
        · have d2 : ¬ (s.size : Int) ≤ 12 := by omega
          have H := Lib.hid (fun h : isWord s => h2 h.1.2)
          go_wp2_with (fail)
          go_ret
          exact ⟨ret_bool (by first | (rw [decide_eq_false H.out]; done) | (rw [decide_eq_false H.out]; simp [D1.out]; done) | (rw [decide_eq_false H.out]; simp; done) | (rw [decide_eq_false H.out]; simp; omega)), hB⟩
      · have d1 : s = ⟨#[]⟩ := by
          apply bytes_ext
          have : s.data.toList.length = 0 := by rw [size_list]; omega
          rw [List.eq_nil_of_length_eq_zero this]
        have H := Lib.hid (fun h : isWord s => h1 h.1.1)
        subst d1
        go_wp2_with (fail)
        go_ret
        exact ⟨ret_bool (by rw [decide_eq_false H.out]), hB⟩

theorem odd_c (s : ByteArray) (w : World) (hs : s.size ≤ 1000000) :
    Calls Try.prog 118 #[.string s] w fun e w' => e = .returned (.bool (!decide (isWord s))) ∧ Below w.heap.size w w' := by
  go_enter Try.func118, Try.ntmps118
  go_wp2_with (fail)
  refine (word_c s _ hs).mono ?_
  rintro e w1 ⟨rfl, hB⟩
  go_wp2_with (fail)
  go_ret
  exact ⟨rfl, hB⟩

theorem place_dec {v n : Int} {b : Bool} (h : b = true ↔ (0 ≤ v ∧ v < n)) : b = decide (0 ≤ v ∧ v < n) := by
  rw [Bool.eq_iff_iff, h, decide_eq_true_iff]
theorem refPlace_c (v : Int) (w : World) :
    Calls Try.prog 120 #[.int .i64 v, .int .i64 200] w fun e w' => e = .returned (.bool (decide (place v))) ∧ Below w.heap.size w w' := by
  go_enter Try.func120, Try.ntmps120
  go_wp2
  all_goals go_ret
  all_goals refine ⟨ret_bool ?_, Below.refl _ _⟩
  all_goals unfold place
  all_goals first | (refine Eq.symm (decide_eq_true ?_); omega) | (refine Eq.symm (decide_eq_false ?_); omega) | (refine decide_eq_decide.2 ?_; omega)
theorem place_c (v : Int) (b : Nat) (w : World) (h : w.cell? ⟨b, 0, none⟩ = some (.int .i64 200)) :
    Calls Try.prog 117 #[.int .i64 v, .pointer (some ⟨b, 0, none⟩)] w fun e w' => e = .returned (.bool (decide (place v))) ∧ Below w.heap.size w w' := by
  go_enter Try.func117, Try.ntmps117
  go_wp2
  all_goals go_ret
  all_goals refine ⟨ret_bool ?_, Below.refl _ _⟩
  all_goals unfold place
  all_goals first | (refine Eq.symm (decide_eq_true ?_); omega) | (refine Eq.symm (decide_eq_false ?_); omega) | (refine decide_eq_decide.2 ?_; omega)
theorem refNum_c (v : Int) (w : World) :
    Calls Try.prog 85 #[.int .i64 v] w fun e w' => e = .returned (.bool (decide (good v))) ∧ Below w.heap.size w w' := by
  go_enter Try.func85, Try.ntmps85
  go_wp2
  all_goals go_ret
  all_goals refine ⟨ret_bool ?_, Below.refl _ _⟩
  all_goals unfold good
  all_goals first | (refine Eq.symm (decide_eq_true ?_); omega) | (refine Eq.symm (decide_eq_false ?_); omega) | (refine decide_eq_decide.2 ?_; omega)
end Go.Proofs.Ytmnjlhifjjainaa
