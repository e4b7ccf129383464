/-
  WireBack: the walk.
-/
import Derived.Test.YtpkhlikeggolbaaWireLaws
import Derived.Test.YtpkhlikeggolbaaInts
namespace Go.Proofs.Ytpkhlikeggolbaa
open Go.RowKit

theorem numStr_len (n : Int) : (numStr n).size ≤ 5 := by
  by_cases h : good n
  · rw [← size_list, numStr_list h]; exact (numBytes_len _).2
  · unfold numStr; rw [if_neg h]; exact Nat.zero_le _
theorem textStr_len (s : ByteArray) : (textStr s).size ≤ s.size + 5 := by
  by_cases h : s.size ≤ 4000
  · rw [← size_list, textStr_list h, List.length_append, size_list]; have := (numBytes_len s.size).2; omega
  · unfold textStr; rw [if_neg h]; exact Nat.zero_le _
theorem rowStr_len (xs : List Int) : (rowStr xs).size ≤ 5 * xs.length + 5 := by
  by_cases h : allGood xs
  · rw [← size_list, rowStr_list h]; unfold rowBytes; rw [List.length_append]; have := (numBytes_len xs.length).2; have := rowB_len xs; omega
  · unfold rowStr; rw [if_neg h]; exact Nat.zero_le _

theorem num_back (a b : ByteArray) (n : Nat) (h : good n) : rdAt (a ++ numStr n ++ b) (a.size : Nat) = some (n, a.size + (numStr n).size) := by
  rw [← size_list (numStr n), numStr_list h]
  refine rdAt_back (r := b.data.toList) ?_ (good_max h)
  rw [laid_drop, numStr_list h]
  rfl
theorem text_back (a b s : ByteArray) (h : s.size ≤ 4000) : rdText (a ++ textStr s ++ b) (a.size : Nat) = some (s, a.size + (textStr s).size) := by
  rw [← size_list (textStr s), textStr_list h, List.length_append, ← Nat.add_assoc, size_list s]
  refine rdText_back (r := b.data.toList) ?_ h
  rw [laid_drop, textStr_list h, List.append_assoc]
theorem row_back (a b : ByteArray) (xs : List Int) (h : allGood xs) : rdNums (a ++ rowStr xs ++ b) (a.size : Nat) = some (xs, a.size + (rowStr xs).size) := by
  rw [← size_list (rowStr xs), rowStr_list h]
  refine rdNums_back (r := b.data.toList) ?_ h
  rw [laid_drop, rowStr_list h]

theorem size_cat3 (a b c : ByteArray) : (a ++ b ++ c).size = a.size + b.size + c.size := by rw [ByteArray.size_append, ByteArray.size_append]

set_option maxRecDepth 100000 in
theorem wireBack_far (n : Int) (s : ByteArray) (A : Option Addr) (len c : Nat) (a b : ByteArray) (w : World) (hl : len ≤ maxLen) (h : 500 < s.size ∨ 100 < len ∨ 100 < a.size ∨ 100 < b.size) :
    Calls Try.prog 10 #[.int .i64 n, .string s, .slice A len c, .string a, .string b] w fun e w' => e = .returned (.bool true) ∧ Below w.heap.size w w' := by
  rcases Nat.lt_or_ge 500 s.size with h1 | h1
  · go_enter Try.func10, Try.ntmps10
    go_wp2_with (fail)
    go_ret
    exact ⟨rfl, Below.refl _ _⟩
  · rcases Nat.lt_or_ge 100 len with h2 | h2
    · go_enter Try.func10, Try.ntmps10
      go_wp2_with (fail)
      go_ret
      exact ⟨rfl, Below.refl _ _⟩
    · rcases Nat.lt_or_ge 100 a.size with h3 | h3
      · go_enter Try.func10, Try.ntmps10
        go_wp2_with (fail)
        go_ret
        exact ⟨rfl, Below.refl _ _⟩
      · have h4 : 100 < b.size := by omega
        go_enter Try.func10, Try.ntmps10
        go_wp2_with (fail)
        go_ret
        exact ⟨rfl, Below.refl _ _⟩

set_option maxRecDepth 100000 in
set_option maxHeartbeats 4000000 in
theorem wireBack_cc (n : Nat) (s : ByteArray) (A : Option Addr) (len c : Nat) (xs : List Int) (a b : ByteArray) (w : World) (hr : Reads w w.heap.size 1 A len (iv xs)) (hl : len ≤ 100) (h1 : s.size ≤ 500) (h2 : a.size ≤ 100) (h3 : b.size ≤ 100) (hg : good n) (ha : allGood xs) :
    Calls Try.prog 10 #[.int .i64 n, .string s, .slice A len c, .string a, .string b] w fun e w' => e = .returned (.bool true) ∧ Below w.heap.size w w' := by
  have hlen := hr.int_len
  have hml : len ≤ maxLen := by unfold maxLen; omega
  have e1 : numErr n = 0 := by unfold numErr; rw [if_pos hg]
  have e2 : textErr s = 0 := by unfold textErr; rw [if_pos (by omega)]
  have e3 : rowErr xs = 0 := by unfold rowErr; rw [if_pos ha.1, if_pos ha.2]
  have l1 := numStr_len n
  have l2 := textStr_len s
  have l3 := rowStr_len xs
  have HN := Lib.hid (num_back a b n hg)
  have g1 : (n : Int) ≤ 2147483647 := hg.2
  have HT := Lib.hid (text_back a b s (by omega))
  have HR := Lib.hid (row_back a b xs ha)
  clear hg ha
  go_enter Try.func10, Try.ntmps10
  go_wp2_with (fail)
  refine (numberT n _).mono ?_
  rintro e w1 ⟨rfl, hB⟩
  unfold numV
  go_wp2_with (fail)
  refine (readNumberT _ _ _ (by rw [size_cat3]; omega)).mono ?_
  rintro e w2 ⟨rfl, hB2⟩
  have hb := hB.trans (hB2.mono hB.size)
  clear hB hB2
  rw [HN.out]
  simp only [anNum, anPlace, Option.isSome]
  go_wp2_with (fail)
  refine (textT s _).mono ?_
  rintro e w3 ⟨rfl, hB3⟩
  have hB := hb.trans (hB3.mono hb.size)
  clear hb hB3
  unfold textV
  go_wp2_with (fail)
  refine (readTextT _ _ _ (by rw [size_cat3]; omega)).mono ?_
  rintro e w4 ⟨rfl, hB4⟩
  have hb := hB.trans (hB4.mono hB.size)
  clear hB hB4
  rw [HT.out]
  simp only [anText, anPlace, Option.isSome]
  go_wp2_with (fail)
  refine (numbersT A len c xs _ ((hr.below hb).more hb.size)).mono ?_
  rintro e w5 ⟨rfl, hB5⟩
  have hB := hb.trans (hB5.mono hb.size)
  clear hb hB5
  unfold rowV
  go_wp2_with (fail)
  refine (readNumbersT _ _ _ (by rw [size_cat3]; omega)).mono ?_
  rintro e w6 ⟨⟨A1, c1, rfl, ho⟩, hB6⟩
  have ho := own_more (base := w.heap.size) ho hB.size
  have hb := hB.trans (hB6.mono hB.size)
  clear hB hB6
  rw [HR.out] at ho ⊢
  simp only [anRow, anPlace, Option.isSome] at ho ⊢
  rw [hlen] at ho
  go_wp2_with (fail)
  refine (wires_c _).mono ?_
  rintro e w7 ⟨rfl, hB7⟩
  have ho := own_below ho hB7
  have hB := hb.trans (hB7.mono hb.size)
  clear hb hB7
  go_wp2_with (fail)
  refine (ints_c A1 A _ _ c1 c _ _ _ (own_reads ho) ((hr.below hB).more hB.size) hml hml).mono ?_
  rintro e w9 ⟨rfl, hB9⟩
  have hb := hB.trans (hB9.mono hB.size)
  clear hB hB9
  have hT : decide (xs = xs) = true := by simp
  rw [hT]
  go_wp2_with (fail)
  all_goals go_ret
  all_goals first | exact ⟨rfl, hb⟩ | exact ⟨ret_bool (by simp; omega), hb⟩

set_option maxRecDepth 100000 in
set_option maxHeartbeats 4000000 in
theorem wireBack_cn (n : Nat) (s : ByteArray) (A : Option Addr) (len c : Nat) (xs : List Int) (a b : ByteArray) (w : World) (hr : Reads w w.heap.size 1 A len (iv xs)) (hl : len ≤ 100) (h1 : s.size ≤ 500) (h2 : a.size ≤ 100) (h3 : b.size ≤ 100) (hg : good n) (ha : ¬ allGood xs) :
    Calls Try.prog 10 #[.int .i64 n, .string s, .slice A len c, .string a, .string b] w fun e w' => e = .returned (.bool true) ∧ Below w.heap.size w w' := by
  have hlen := hr.int_len
  have hml : len ≤ maxLen := by unfold maxLen; omega
  have e1 : numErr n = 0 := by unfold numErr; rw [if_pos hg]
  have e2 : textErr s = 0 := by unfold textErr; rw [if_pos (by omega)]
  have e3 : rowErr xs = 1 := by unfold rowErr; rw [if_pos (by omega), if_neg (fun h => ha ⟨by omega, h⟩)]
  have l1 := numStr_len n
  have l2 := textStr_len s
  have l3 := rowStr_len xs
  have HN := Lib.hid (num_back a b n hg)
  have g1 : (n : Int) ≤ 2147483647 := hg.2
  have HT := Lib.hid (text_back a b s (by omega))
  clear hg ha
  go_enter Try.func10, Try.ntmps10
  go_wp2_with (fail)
  refine (numberT n _).mono ?_
  rintro e w1 ⟨rfl, hB⟩
  unfold numV
  go_wp2_with (fail)
  refine (readNumberT _ _ _ (by rw [size_cat3]; omega)).mono ?_
  rintro e w2 ⟨rfl, hB2⟩
  have hb := hB.trans (hB2.mono hB.size)
  clear hB hB2
  rw [HN.out]
  simp only [anNum, anPlace, Option.isSome]
  go_wp2_with (fail)
  refine (textT s _).mono ?_
  rintro e w3 ⟨rfl, hB3⟩
  have hB := hb.trans (hB3.mono hb.size)
  clear hb hB3
  unfold textV
  go_wp2_with (fail)
  refine (readTextT _ _ _ (by rw [size_cat3]; omega)).mono ?_
  rintro e w4 ⟨rfl, hB4⟩
  have hb := hB.trans (hB4.mono hB.size)
  clear hB hB4
  rw [HT.out]
  simp only [anText, anPlace, Option.isSome]
  go_wp2_with (fail)
  refine (numbersT A len c xs _ ((hr.below hb).more hb.size)).mono ?_
  rintro e w5 ⟨rfl, hB5⟩
  have hB := hb.trans (hB5.mono hb.size)
  clear hb hB5
  unfold rowV
  go_wp2_with (fail)
  refine (readNumbersT _ _ _ (by rw [size_cat3]; omega)).mono ?_
  rintro e w6 ⟨⟨A1, c1, rfl, ho⟩, hB6⟩
  have ho := own_more (base := w.heap.size) ho hB.size
  have hb := hB.trans (hB6.mono hB.size)
  clear hB hB6
  clear ho
  generalize (anRow (rdNums (a ++ rowStr xs ++ b) a.size)).length = y1
  generalize anPlace (rdNums (a ++ rowStr xs ++ b) a.size) = y2
  generalize (rdNums (a ++ rowStr xs ++ b) a.size).isSome = y3
  go_wp2_with (fail)
  refine (wires_c _).mono ?_
  rintro e w7 ⟨rfl, hB7⟩
  have hB := hb.trans (hB7.mono hb.size)
  clear hb hB7
  go_wp2_with (fail)
  all_goals go_ret
  all_goals first | exact ⟨rfl, hB⟩ | exact ⟨ret_bool (by simp; omega), hB⟩

set_option maxRecDepth 100000 in
set_option maxHeartbeats 4000000 in
theorem wireBack_nc (n : Int) (s : ByteArray) (A : Option Addr) (len c : Nat) (xs : List Int) (a b : ByteArray) (w : World) (hr : Reads w w.heap.size 1 A len (iv xs)) (hl : len ≤ 100) (h1 : s.size ≤ 500) (h2 : a.size ≤ 100) (h3 : b.size ≤ 100) (hg : ¬ good n) (ha : allGood xs) :
    Calls Try.prog 10 #[.int .i64 n, .string s, .slice A len c, .string a, .string b] w fun e w' => e = .returned (.bool true) ∧ Below w.heap.size w w' := by
  have hlen := hr.int_len
  have hml : len ≤ maxLen := by unfold maxLen; omega
  have e1 : numErr n = 1 := by unfold numErr; rw [if_neg hg]
  have e2 : textErr s = 0 := by unfold textErr; rw [if_pos (by omega)]
  have e3 : rowErr xs = 0 := by unfold rowErr; rw [if_pos ha.1, if_pos ha.2]
  have l1 := numStr_len n
  have l2 := textStr_len s
  have l3 := rowStr_len xs
  have g1 : n < 0 ∨ 2147483647 < n := by unfold good at hg; omega
  have HT := Lib.hid (text_back a b s (by omega))
  have HR := Lib.hid (row_back a b xs ha)
  clear hg ha
  go_enter Try.func10, Try.ntmps10
  go_wp2_with (fail)
  refine (numberT n _).mono ?_
  rintro e w1 ⟨rfl, hB⟩
  unfold numV
  go_wp2_with (fail)
  refine (readNumberT _ _ _ (by rw [size_cat3]; omega)).mono ?_
  rintro e w2 ⟨rfl, hB2⟩
  have hb := hB.trans (hB2.mono hB.size)
  clear hB hB2
  generalize anNum (rdAt (a ++ numStr n ++ b) a.size) = z1
  generalize anPlace (rdAt (a ++ numStr n ++ b) a.size) = z2
  generalize (rdAt (a ++ numStr n ++ b) a.size).isSome = z3
  go_wp2_with (fail)
  refine (textT s _).mono ?_
  rintro e w3 ⟨rfl, hB3⟩
  have hB := hb.trans (hB3.mono hb.size)
  clear hb hB3
  unfold textV
  go_wp2_with (fail)
  refine (readTextT _ _ _ (by rw [size_cat3]; omega)).mono ?_
  rintro e w4 ⟨rfl, hB4⟩
  have hb := hB.trans (hB4.mono hB.size)
  clear hB hB4
  rw [HT.out]
  simp only [anText, anPlace, Option.isSome]
  go_wp2_with (fail)
  refine (numbersT A len c xs _ ((hr.below hb).more hb.size)).mono ?_
  rintro e w5 ⟨rfl, hB5⟩
  have hB := hb.trans (hB5.mono hb.size)
  clear hb hB5
  unfold rowV
  go_wp2_with (fail)
  refine (readNumbersT _ _ _ (by rw [size_cat3]; omega)).mono ?_
  rintro e w6 ⟨⟨A1, c1, rfl, ho⟩, hB6⟩
  have ho := own_more (base := w.heap.size) ho hB.size
  have hb := hB.trans (hB6.mono hB.size)
  clear hB hB6
  rw [HR.out] at ho ⊢
  simp only [anRow, anPlace, Option.isSome] at ho ⊢
  rw [hlen] at ho
  go_wp2_with (fail)
  refine (wires_c _).mono ?_
  rintro e w7 ⟨rfl, hB7⟩
  have ho := own_below ho hB7
  have hB := hb.trans (hB7.mono hb.size)
  clear hb hB7
  go_wp2_with (fail)
  refine (ints_c A1 A _ _ c1 c _ _ _ (own_reads ho) ((hr.below hB).more hB.size) hml hml).mono ?_
  rintro e w9 ⟨rfl, hB9⟩
  have hb := hB.trans (hB9.mono hB.size)
  clear hB hB9
  have hT : decide (xs = xs) = true := by simp
  rw [hT]
  go_wp2_with (fail)
  all_goals go_ret
  all_goals first | exact ⟨rfl, hb⟩ | exact ⟨ret_bool (by simp; omega), hb⟩

set_option maxRecDepth 100000 in
set_option maxHeartbeats 4000000 in
theorem wireBack_nn (n : Int) (s : ByteArray) (A : Option Addr) (len c : Nat) (xs : List Int) (a b : ByteArray) (w : World) (hr : Reads w w.heap.size 1 A len (iv xs)) (hl : len ≤ 100) (h1 : s.size ≤ 500) (h2 : a.size ≤ 100) (h3 : b.size ≤ 100) (hg : ¬ good n) (ha : ¬ allGood xs) :
    Calls Try.prog 10 #[.int .i64 n, .string s, .slice A len c, .string a, .string b] w fun e w' => e = .returned (.bool true) ∧ Below w.heap.size w w' := by
  have hlen := hr.int_len
  have hml : len ≤ maxLen := by unfold maxLen; omega
  have e1 : numErr n = 1 := by unfold numErr; rw [if_neg hg]
  have e2 : textErr s = 0 := by unfold textErr; rw [if_pos (by omega)]
  have e3 : rowErr xs = 1 := by unfold rowErr; rw [if_pos (by omega), if_neg (fun h => ha ⟨by omega, h⟩)]
  have l1 := numStr_len n
  have l2 := textStr_len s
  have l3 := rowStr_len xs
  have g1 : n < 0 ∨ 2147483647 < n := by unfold good at hg; omega
  have HT := Lib.hid (text_back a b s (by omega))
  clear hg ha
  go_enter Try.func10, Try.ntmps10
  go_wp2_with (fail)
  refine (numberT n _).mono ?_
  rintro e w1 ⟨rfl, hB⟩
  unfold numV
  go_wp2_with (fail)
  refine (readNumberT _ _ _ (by rw [size_cat3]; omega)).mono ?_
  rintro e w2 ⟨rfl, hB2⟩
  have hb := hB.trans (hB2.mono hB.size)
  clear hB hB2
  generalize anNum (rdAt (a ++ numStr n ++ b) a.size) = z1
  generalize anPlace (rdAt (a ++ numStr n ++ b) a.size) = z2
  generalize (rdAt (a ++ numStr n ++ b) a.size).isSome = z3
  go_wp2_with (fail)
  refine (textT s _).mono ?_
  rintro e w3 ⟨rfl, hB3⟩
  have hB := hb.trans (hB3.mono hb.size)
  clear hb hB3
  unfold textV
  go_wp2_with (fail)
  refine (readTextT _ _ _ (by rw [size_cat3]; omega)).mono ?_
  rintro e w4 ⟨rfl, hB4⟩
  have hb := hB.trans (hB4.mono hB.size)
  clear hB hB4
  rw [HT.out]
  simp only [anText, anPlace, Option.isSome]
  go_wp2_with (fail)
  refine (numbersT A len c xs _ ((hr.below hb).more hb.size)).mono ?_
  rintro e w5 ⟨rfl, hB5⟩
  have hB := hb.trans (hB5.mono hb.size)
  clear hb hB5
  unfold rowV
  go_wp2_with (fail)
  refine (readNumbersT _ _ _ (by rw [size_cat3]; omega)).mono ?_
  rintro e w6 ⟨⟨A1, c1, rfl, ho⟩, hB6⟩
  have ho := own_more (base := w.heap.size) ho hB.size
  have hb := hB.trans (hB6.mono hB.size)
  clear hB hB6
  clear ho
  generalize (anRow (rdNums (a ++ rowStr xs ++ b) a.size)).length = y1
  generalize anPlace (rdNums (a ++ rowStr xs ++ b) a.size) = y2
  generalize (rdNums (a ++ rowStr xs ++ b) a.size).isSome = y3
  go_wp2_with (fail)
  refine (wires_c _).mono ?_
  rintro e w7 ⟨rfl, hB7⟩
  have hB := hb.trans (hB7.mono hb.size)
  clear hb hB7
  go_wp2_with (fail)
  all_goals go_ret
  all_goals first | exact ⟨rfl, hB⟩ | exact ⟨ret_bool (by simp; omega), hB⟩
end Go.Proofs.Ytpkhlikeggolbaa
