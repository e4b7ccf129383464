/-
  Words, texts, edges: the small functions of both sides.
-/
import Derived.Test.YtmnjlhifjjainaaGreatImgCmp
import Derived.IntWalk
import Derived.Deep.RegionLaw
import Derived.Lib.QuietBelow
namespace Go.Proofs.YtmnjlhifjjainaaGreat
open Go.RowKit

theorem str_get {s : ByteArray} {k : Nat} (h : k < s.size) : s.data.toList[k]? = some s[k] := by
  have : k < s.data.size := h
  rw [Array.getElem?_toList, Array.getElem?_eq_getElem this]; rfl
def lowc (c : UInt8) : Prop := 97 ≤ c.toNat ∧ c.toNat ≤ 122
def lows (l : List UInt8) : Prop := ∀ c ∈ l, lowc c
theorem lows_more {l : List UInt8} {k : Nat} {c : UInt8} (h : lows (l.take k)) (hc : l[k]? = some c) (hl : lowc c) : lows (l.take (k + 1)) := by
  intro d hd
  rw [List.take_add_one, hc, List.mem_append] at hd
  rcases hd with hd | hd
  · exact h d hd
  · simp at hd; subst hd; exact hl
theorem not_word {s : ByteArray} {k : Nat} {c : UInt8} (hc : s.data.toList[k]? = some c) (hl : ¬ lowc c) : ¬ isWord s := fun h => hl (h.2 c (List.mem_of_getElem? hc))
theorem is_word {s : ByteArray} (h : lows (s.data.toList.take s.size)) (h1 : 1 ≤ s.size) (h2 : s.size ≤ 12) : isWord s := by
  refine ⟨⟨h1, h2⟩, fun c hc => h c ?_⟩
  rw [List.take_of_length_le (by rw [size_list]; exact Nat.le_refl _)]
  exact hc

set_option maxRecDepth 100000 in
set_option maxHeartbeats 2000000 in
theorem word_c (s : ByteArray) (w : World) (hs : s.size ≤ 1000000) :
    Calls Tryz.prog 32 #[.string s] w fun e w' => e = .returned (.bool (decide (isWord s))) ∧ Below w.heap.size w w' := by
  go_enter Tryz.func32, Tryz.ntmps32
  go_wp2_with (fail)
  go_loopw [6] (fun i wr => ∃ k : Nat, k ≤ s.size ∧ i = .int .i64 k ∧ Hid (lows (s.data.toList.take k)) ∧ Below w.heap.size w wr) (fun i _ => s.size - (intOf i).toNat)
  case atStart => exact ⟨0, Nat.zero_le _, rfl, fun c hc => by simp at hc, Below.refl _ _⟩
  case round =>
    obtain ⟨k, hk, rfl, hl, hB⟩ := hrel
    by_cases hlt : k < s.size
    · have hc := str_get hlt
      have c1 : (k : Int) < (s.size : Int) := by omega
      by_cases hlo : s[k].toNat < 97
      · have H := Lib.hid (not_word hc (by unfold lowc; omega))
        clear hc
        have d1 : (s[k].toNat : Int) < 97 := by omega
        go_wp2_with (fail)
        go_ret
        exact ⟨ret_bool (decide_eq_false H.out).symm, hB⟩
      · by_cases hhi : 122 < s[k].toNat
        · have H := Lib.hid (not_word hc (by unfold lowc; omega))
          clear hc
          have d1 : ¬ (s[k].toNat : Int) < 97 := by omega
          have d2 : 122 < (s[k].toNat : Int) := by omega
          go_wp2_with (fail)
          go_ret
          exact ⟨ret_bool (decide_eq_false H.out).symm, hB⟩
        · have H := Lib.hid (lows_more hl.out hc (by unfold lowc; omega))
          clear hc
          have d1 : ¬ (s[k].toNat : Int) < 97 := by omega
          have d2 : ¬ 122 < (s[k].toNat : Int) := by omega
          go_wp2_with (fail)
          go_roundw
          case rel => exact ⟨k + 1, by omega, by go_num, H.out, hB⟩
          case measure => simp [intOf]; omega
    · obtain rfl : k = s.size := by omega
      by_cases h1 : 1 ≤ s.size
      · have d1 : ¬ s.toList = [] := by
          intro h
          rw [Go.ByteArray.toList_eq] at h
          have := size_list s
          rw [h] at this
          simp at this
          omega
        have D1 := Lib.hid d1
        by_cases h2 : s.size ≤ 12
        · have H := Lib.hid (is_word hl.out h1 h2)
          have d2 : (s.size : Int) ≤ 12 := by omega
          go_wp2_with (fail)
          go_ret
          exact ⟨ret_bool (by first | (rw [decide_eq_true H.out]; done) | (rw [decide_eq_true H.out]; simp [D1.out]; done) | (rw [decide_eq_true H.out]; simp; done) | (rw [decide_eq_true H.out]; simp; omega)), hB⟩
        · have d2 : ¬ (s.size : Int) ≤ 12 := by omega
          have H := Lib.hid (fun h : isWord s => h2 h.1.2)
          go_wp2_with (fail)
          go_ret
          exact ⟨ret_bool (by first | (rw [decide_eq_false H.out]; done) | (rw [decide_eq_false H.out]; simp [D1.out]; done) | (rw [decide_eq_false H.out]; simp; done) | (rw [decide_eq_false H.out]; simp; omega)), hB⟩
      · have d1 : s = ⟨#[]⟩ := by
          apply bytes_ext
          have : s.data.toList.length = 0 := by rw [size_list]; omega
          rw [List.eq_nil_of_length_eq_zero this]
        have H := Lib.hid (fun h : isWord s => h1 h.1.1)
        subst d1
        go_wp2_with (fail)
        go_ret
        exact ⟨ret_bool (by rw [decide_eq_false H.out]), hB⟩

theorem bytes_beq {a b : ByteArray} : (a.toList == b.toList) = decide (a = b) := by
  rw [Bool.eq_iff_iff, beq_iff_eq, decide_eq_true_iff, Go.ByteArray.toList_eq, Go.ByteArray.toList_eq]
  exact ⟨fun h => bytes_ext h, fun h => by rw [h]⟩
set_option maxRecDepth 100000 in
set_option maxHeartbeats 2000000 in
theorem texts_c (A1 A2 : Option Addr) (n1 n2 c1 c2 : Nat) (xs ys : List ByteArray) (w : World) (h1 : Reads w w.heap.size 1 A1 n1 (sv xs)) (h2 : Reads w w.heap.size 1 A2 n2 (sv ys)) (hn1 : n1 ≤ maxLen) (hn2 : n2 ≤ maxLen) :
    Calls Tryz.prog 28 #[.slice A1 n1 c1, .slice A2 n2 c2] w fun e w' => e = .returned (.bool (decide (xs = ys))) ∧ Below w.heap.size w w' := by
  have l1 := h1.str_len
  have l2 := h2.str_len
  unfold maxLen at hn1 hn2
  by_cases hn : n1 = n2
  · subst hn
    go_enter Tryz.func28, Tryz.ntmps28
    go_wp2
    go_loopw [5] (fun i wr => ∃ k : Nat, k ≤ n1 ∧ i = .int .i64 k ∧ Hid (xs.take k = ys.take k) ∧ Below w.heap.size w wr) (fun i _ => n1 - (intOf i).toNat)
    case atStart => exact ⟨0, Nat.zero_le _, rfl, rfl, Below.refl _ _⟩
    case round =>
      obtain ⟨k, hk, rfl, ht, hB⟩ := hrel
      by_cases hlt : k < n1
      · obtain ⟨a1, o1, x, rfl, hx, hc1⟩ := (h1.below hB).str_at hlt
        obtain ⟨a2, o2, y, rfl, hy, hc2⟩ := (h2.below hB).str_at hlt
        clear h1 h2
        have L1 := Lib.hid l1
        have L2 := Lib.hid l2
        clear l1 l2
        have hxy : (x.toList == y.toList) = decide (x = y) := bytes_beq
        by_cases he : x = y
        · rw [decide_eq_true he] at hxy
          have HE := Lib.hid he
          have HT : Hid (xs.take (k + 1) = ys.take (k + 1)) := by
            show _ = _
            rw [List.take_add_one, List.take_add_one, ht.out, hx.out, hy.out, he]
          clear he
          go_wp2
          go_quiet (fail)
          go_wp2
          go_roundw
          case rel => exact ⟨k + 1, by omega, by go_num, HT.out, below_drewN hB _⟩
          case measure => simp [intOf]; omega
        · rw [decide_eq_false he] at hxy
          have hf : Hid (¬ xs = ys) := fun e => he (by
            have e1 := hx.out
            rw [e, hy.out] at e1
            injection e1 with e1; exact e1.symm)
          clear he
          go_wp2
          go_quiet (fail)
          go_wp2
          go_ret
          exact ⟨ret_bool (decide_eq_false hf.out).symm, below_drewN hB _⟩
      · obtain rfl : k = n1 := by omega
        have hf : Hid (xs = ys) := by
          have := ht.out
          rw [List.take_of_length_le (by omega), List.take_of_length_le (by omega)] at this
          exact this
        clear l1 l2
        go_wp2
        go_ret
        exact ⟨ret_bool (decide_eq_true hf.out).symm, hB⟩
  · have hf : Hid (¬ xs = ys) := fun e => hn (by rw [← l1, ← l2, e])
    clear l1 l2
    go_enter Tryz.func28, Tryz.ntmps28
    go_wp2
    go_ret
    exact ⟨ret_bool (decide_eq_false hf.out).symm, Below.refl _ _⟩


theorem notWord_c (s : ByteArray) (w : World) (hs : s.size ≤ 1000000) :
    Calls Tryz.prog 31 #[.string s] w fun e w' => e = .returned (.bool (!decide (isWord s))) ∧ Below w.heap.size w w' := by
  go_enter Tryz.func31, Tryz.ntmps31
  go_wp2_with (fail)
  refine (word_c s _ hs).mono ?_
  rintro e w1 ⟨rfl, hB⟩
  go_wp2_with (fail)
  go_ret
  exact ⟨rfl, hB⟩

theorem elTexts : Elem Tryz.prog 35 9 1 16 := Elem.mk_ Tryz.underlying35 (z := .string ⟨#[]⟩) (by kernel_rfl) rfl (by decide)
theorem elEdges : Elem Tryz.prog 22 38 2 16 := Elem.mk_ Tryz.underlying22 (z := .agg #[.int .i64 0, .int .i64 0]) (by kernel_rfl) rfl (by decide)
theorem elRows : Elem Tryz.prog 23 35 1 24 := Elem.mk_ Tryz.underlying23 (z := .slice none 0 0) (by kernel_rfl) rfl (by decide)
theorem isPlace_c (m v : Int) (A1 A2 : Option Addr) (n1 c1 n2 c2 : Nat) (w : World) :
    Calls Tryz.prog 29 #[.agg #[.int .i64 m, .slice A1 n1 c1, .slice A2 n2 c2], .int .i64 v] w fun e w' => e = .returned (.bool (decide (place m v))) ∧ Below w.heap.size w w' := by
  have hB := Lib.hid ((Below.refl w.heap.size w).alloc (Nat.le_refl _) (.cells #[.int .i64 m, .slice A1 n1 c1, .slice A2 n2 c2] 25))
  by_cases h1 : 0 ≤ v
  · by_cases h2 : v < m
    · have H := Lib.hid (decide_eq_true (show place m v from ⟨h1, h2⟩))
      go_enter Tryz.func29, Tryz.ntmps29
      go_wp2
      go_ret
      exact ⟨ret_bool H.out.symm, hB.out⟩
    · have H := Lib.hid (decide_eq_false (show ¬ place m v from fun h => h2 h.2))
      go_enter Tryz.func29, Tryz.ntmps29
      go_wp2
      go_ret
      exact ⟨ret_bool H.out.symm, hB.out⟩
  · have H := Lib.hid (decide_eq_false (show ¬ place m v from fun h => h1 h.1))
    go_enter Tryz.func29, Tryz.ntmps29
    go_wp2
    go_ret
    exact ⟨ret_bool H.out.symm, hB.out⟩
end Go.Proofs.YtmnjlhifjjainaaGreat
