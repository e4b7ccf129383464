/-
  WireSame: the walk.
-/
import Derived.Test.YtpkhlikeggolbaaWireLaws
namespace Go.Proofs.Ytpkhlikeggolbaa
open Go.RowKit

theorem numErr_good {n : Int} (h : good n) : numErr n = 0 := by unfold numErr; rw [if_pos h]
theorem textErr_few {s : ByteArray} (h : s.size ≤ 4000) : textErr s = 0 := by unfold textErr; rw [if_pos h]
theorem rowErr_good {xs : List Int} (h : allGood xs) : rowErr xs = 0 := by unfold rowErr; rw [if_pos h.1, if_pos h.2]

theorem wireSame_far (s : ByteArray) (p : Int) (w : World) (h : 1000 < s.size ∨ p < 0 ∨ s.size < p) :
    Calls Try.prog 11 #[.string s, .int .i64 p] w fun e w' => e = .returned (.bool true) ∧ Below w.heap.size w w' := by
  rcases Nat.lt_or_ge 1000 s.size with h1 | h1
  · go_enter Try.func11, Try.ntmps11
    go_wp2_with (fail)
    refine (wires_c _).mono ?_
    rintro e w1 ⟨rfl, hB⟩
    go_wp2_with (fail)
    go_ret
    exact ⟨rfl, hB⟩
  · rcases Int.lt_or_le p 0 with h2 | h2
    · go_enter Try.func11, Try.ntmps11
      go_wp2_with (fail)
      refine (wires_c _).mono ?_
      rintro e w1 ⟨rfl, hB⟩
      go_wp2_with (fail)
      go_ret
      exact ⟨rfl, hB⟩
    · have h4 : s.size < p := by omega
      go_enter Try.func11, Try.ntmps11
      go_wp2_with (fail)
      refine (wires_c _).mono ?_
      rintro e w1 ⟨rfl, hB⟩
      go_wp2_with (fail)
      go_ret
      exact ⟨rfl, hB⟩

set_option maxRecDepth 100000 in
set_option maxHeartbeats 4000000 in
theorem wireSame_000 (s : ByteArray) (p : Nat) (w : World) (h : s.size ≤ 1000) (hp : p ≤ s.size) (x1 : rdAt s p = none) (x2 : rdText s p = none) (x3 : rdNums s p = none) :
    Calls Try.prog 11 #[.string s, .int .i64 p] w fun e w' => e = .returned (.bool true) ∧ Below w.heap.size w w' := by
  have hs : s.size ≤ 1000000 := by omega
  have X1 := Lib.hid x1
  have X2 := Lib.hid x2
  have X3 := Lib.hid x3
  clear x1 x2 x3
  go_enter Try.func11, Try.ntmps11
  go_wp2_with (fail)
  refine (readNumberT s p _ hs).mono ?_
  rintro e w1 ⟨rfl, hB⟩
  rw [X1.out]
  simp only [anNum, anPlace, Option.isSome]
  go_wp2_with (fail)
  refine (numberT _ _).mono ?_
  rintro e w2 ⟨rfl, hB2⟩
  have hb := hB.trans (hB2.mono hB.size)
  clear hB hB2
  unfold numV
  go_wp2_with (fail)
  refine (readTextT s p _ hs).mono ?_
  rintro e w3 ⟨rfl, hB3⟩
  have hB := hb.trans (hB3.mono hb.size)
  clear hb hB3
  rw [X2.out]
  simp only [anText, anPlace, Option.isSome]
  go_wp2_with (fail)
  refine (textT _ _).mono ?_
  rintro e w4 ⟨rfl, hB4⟩
  have hb := hB.trans (hB4.mono hB.size)
  clear hB hB4
  unfold textV
  go_wp2_with (fail)
  refine (readNumbersT s p _ hs).mono ?_
  rintro e w6 ⟨⟨A1, c1, rfl, ho⟩, hB6⟩
  have ho := own_more (base := w.heap.size) ho hb.size
  have hB := hb.trans (hB6.mono hb.size)
  clear hb hB6
  rw [X3.out] at ho ⊢
  simp only [anRow, anPlace, Option.isSome] at ho ⊢
  go_wp2_with (fail)
  refine (numbersT _ _ _ _ _ (own_reads ho)).mono ?_
  rintro e w5 ⟨rfl, hB5⟩
  have hb := hB.trans (hB5.mono hB.size)
  clear hB hB5 ho
  unfold rowV
  go_wp2_with (fail)
  refine (wires_c _).mono ?_
  rintro e w7 ⟨rfl, hB7⟩
  have hB := hb.trans (hB7.mono hb.size)
  clear hb hB7
  go_wp2_with (fail)
  go_ret
  exact ⟨rfl, hB⟩

set_option maxRecDepth 100000 in
set_option maxHeartbeats 4000000 in
theorem wireSame_001 (s : ByteArray) (p : Nat) (w : World) (h : s.size ≤ 1000) (hp : p ≤ s.size) (xs : List Int) (q3 : Nat) (x1 : rdAt s p = none) (x2 : rdText s p = none) (x3 : rdNums s p = some (xs, q3)) :
    Calls Try.prog 11 #[.string s, .int .i64 p] w fun e w' => e = .returned (.bool true) ∧ Below w.heap.size w w' := by
  have hs : s.size ≤ 1000000 := by omega
  obtain ⟨-, c1, c2, c3, c4⟩ := rdNums_same x3
  rw [Int.toNat_natCast] at c4
  have c5 := rowErr_good c3
  have c1 : p < q3 := by omega
  have X1 := Lib.hid x1
  have X2 := Lib.hid x2
  have X3 := Lib.hid x3
  clear x1 x2 x3
  clear c3
  go_enter Try.func11, Try.ntmps11
  go_wp2_with (fail)
  refine (readNumberT s p _ hs).mono ?_
  rintro e w1 ⟨rfl, hB⟩
  rw [X1.out]
  simp only [anNum, anPlace, Option.isSome]
  go_wp2_with (fail)
  refine (numberT _ _).mono ?_
  rintro e w2 ⟨rfl, hB2⟩
  have hb := hB.trans (hB2.mono hB.size)
  clear hB hB2
  unfold numV
  go_wp2_with (fail)
  refine (readTextT s p _ hs).mono ?_
  rintro e w3 ⟨rfl, hB3⟩
  have hB := hb.trans (hB3.mono hb.size)
  clear hb hB3
  rw [X2.out]
  simp only [anText, anPlace, Option.isSome]
  go_wp2_with (fail)
  refine (textT _ _).mono ?_
  rintro e w4 ⟨rfl, hB4⟩
  have hb := hB.trans (hB4.mono hB.size)
  clear hB hB4
  unfold textV
  go_wp2_with (fail)
  refine (readNumbersT s p _ hs).mono ?_
  rintro e w6 ⟨⟨A1, c1, rfl, ho⟩, hB6⟩
  have ho := own_more (base := w.heap.size) ho hb.size
  have hB := hb.trans (hB6.mono hb.size)
  clear hb hB6
  rw [X3.out] at ho ⊢
  simp only [anRow, anPlace, Option.isSome] at ho ⊢
  go_wp2_with (fail)
  refine (numbersT _ _ _ _ _ (own_reads ho)).mono ?_
  rintro e w5 ⟨rfl, hB5⟩
  have hb := hB.trans (hB5.mono hB.size)
  clear hB hB5 ho
  unfold rowV
  go_wp2_with (fail)
  refine (wires_c _).mono ?_
  rintro e w7 ⟨rfl, hB7⟩
  have hB := hb.trans (hB7.mono hb.size)
  clear hb hB7
  go_wp2_with (fail)
  go_ret
  exact ⟨rfl, hB⟩

set_option maxRecDepth 100000 in
set_option maxHeartbeats 4000000 in
theorem wireSame_010 (s : ByteArray) (p : Nat) (w : World) (h : s.size ≤ 1000) (hp : p ≤ s.size) (t : ByteArray) (q2 : Nat) (x1 : rdAt s p = none) (x2 : rdText s p = some (t, q2)) (x3 : rdNums s p = none) :
    Calls Try.prog 11 #[.string s, .int .i64 p] w fun e w' => e = .returned (.bool true) ∧ Below w.heap.size w w' := by
  have hs : s.size ≤ 1000000 := by omega
  obtain ⟨-, b1, b2, b3, b4⟩ := rdText_same x2
  rw [Int.toNat_natCast] at b4
  have b5 := textErr_few b3
  have b1 : p < q2 := by omega
  have X1 := Lib.hid x1
  have X2 := Lib.hid x2
  have X3 := Lib.hid x3
  clear x1 x2 x3
  clear b3
  go_enter Try.func11, Try.ntmps11
  go_wp2_with (fail)
  refine (readNumberT s p _ hs).mono ?_
  rintro e w1 ⟨rfl, hB⟩
  rw [X1.out]
  simp only [anNum, anPlace, Option.isSome]
  go_wp2_with (fail)
  refine (numberT _ _).mono ?_
  rintro e w2 ⟨rfl, hB2⟩
  have hb := hB.trans (hB2.mono hB.size)
  clear hB hB2
  unfold numV
  go_wp2_with (fail)
  refine (readTextT s p _ hs).mono ?_
  rintro e w3 ⟨rfl, hB3⟩
  have hB := hb.trans (hB3.mono hb.size)
  clear hb hB3
  rw [X2.out]
  simp only [anText, anPlace, Option.isSome]
  go_wp2_with (fail)
  refine (textT _ _).mono ?_
  rintro e w4 ⟨rfl, hB4⟩
  have hb := hB.trans (hB4.mono hB.size)
  clear hB hB4
  unfold textV
  go_wp2_with (fail)
  refine (readNumbersT s p _ hs).mono ?_
  rintro e w6 ⟨⟨A1, c1, rfl, ho⟩, hB6⟩
  have ho := own_more (base := w.heap.size) ho hb.size
  have hB := hb.trans (hB6.mono hb.size)
  clear hb hB6
  rw [X3.out] at ho ⊢
  simp only [anRow, anPlace, Option.isSome] at ho ⊢
  go_wp2_with (fail)
  refine (numbersT _ _ _ _ _ (own_reads ho)).mono ?_
  rintro e w5 ⟨rfl, hB5⟩
  have hb := hB.trans (hB5.mono hB.size)
  clear hB hB5 ho
  unfold rowV
  go_wp2_with (fail)
  refine (wires_c _).mono ?_
  rintro e w7 ⟨rfl, hB7⟩
  have hB := hb.trans (hB7.mono hb.size)
  clear hb hB7
  go_wp2_with (fail)
  go_ret
  exact ⟨rfl, hB⟩

set_option maxRecDepth 100000 in
set_option maxHeartbeats 4000000 in
theorem wireSame_011 (s : ByteArray) (p : Nat) (w : World) (h : s.size ≤ 1000) (hp : p ≤ s.size) (t : ByteArray) (q2 : Nat) (xs : List Int) (q3 : Nat) (x1 : rdAt s p = none) (x2 : rdText s p = some (t, q2)) (x3 : rdNums s p = some (xs, q3)) :
    Calls Try.prog 11 #[.string s, .int .i64 p] w fun e w' => e = .returned (.bool true) ∧ Below w.heap.size w w' := by
  have hs : s.size ≤ 1000000 := by omega
  obtain ⟨-, b1, b2, b3, b4⟩ := rdText_same x2
  rw [Int.toNat_natCast] at b4
  have b5 := textErr_few b3
  have b1 : p < q2 := by omega
  obtain ⟨-, c1, c2, c3, c4⟩ := rdNums_same x3
  rw [Int.toNat_natCast] at c4
  have c5 := rowErr_good c3
  have c1 : p < q3 := by omega
  have X1 := Lib.hid x1
  have X2 := Lib.hid x2
  have X3 := Lib.hid x3
  clear x1 x2 x3
  clear b3
  clear c3
  go_enter Try.func11, Try.ntmps11
  go_wp2_with (fail)
  refine (readNumberT s p _ hs).mono ?_
  rintro e w1 ⟨rfl, hB⟩
  rw [X1.out]
  simp only [anNum, anPlace, Option.isSome]
  go_wp2_with (fail)
  refine (numberT _ _).mono ?_
  rintro e w2 ⟨rfl, hB2⟩
  have hb := hB.trans (hB2.mono hB.size)
  clear hB hB2
  unfold numV
  go_wp2_with (fail)
  refine (readTextT s p _ hs).mono ?_
  rintro e w3 ⟨rfl, hB3⟩
  have hB := hb.trans (hB3.mono hb.size)
  clear hb hB3
  rw [X2.out]
  simp only [anText, anPlace, Option.isSome]
  go_wp2_with (fail)
  refine (textT _ _).mono ?_
  rintro e w4 ⟨rfl, hB4⟩
  have hb := hB.trans (hB4.mono hB.size)
  clear hB hB4
  unfold textV
  go_wp2_with (fail)
  refine (readNumbersT s p _ hs).mono ?_
  rintro e w6 ⟨⟨A1, c1, rfl, ho⟩, hB6⟩
  have ho := own_more (base := w.heap.size) ho hb.size
  have hB := hb.trans (hB6.mono hb.size)
  clear hb hB6
  rw [X3.out] at ho ⊢
  simp only [anRow, anPlace, Option.isSome] at ho ⊢
  go_wp2_with (fail)
  refine (numbersT _ _ _ _ _ (own_reads ho)).mono ?_
  rintro e w5 ⟨rfl, hB5⟩
  have hb := hB.trans (hB5.mono hB.size)
  clear hB hB5 ho
  unfold rowV
  go_wp2_with (fail)
  refine (wires_c _).mono ?_
  rintro e w7 ⟨rfl, hB7⟩
  have hB := hb.trans (hB7.mono hb.size)
  clear hb hB7
  go_wp2_with (fail)
  go_ret
  exact ⟨rfl, hB⟩

set_option maxRecDepth 100000 in
set_option maxHeartbeats 4000000 in
theorem wireSame_100 (s : ByteArray) (p : Nat) (w : World) (h : s.size ≤ 1000) (hp : p ≤ s.size) (n q1 : Nat) (x1 : rdAt s p = some (n, q1)) (x2 : rdText s p = none) (x3 : rdNums s p = none) :
    Calls Try.prog 11 #[.string s, .int .i64 p] w fun e w' => e = .returned (.bool true) ∧ Below w.heap.size w w' := by
  have hs : s.size ≤ 1000000 := by omega
  obtain ⟨-, a1, a2, a3, a4⟩ := rdAt_same x1
  rw [Int.toNat_natCast] at a4
  have a5 := numErr_good a3
  have a1 : p < q1 := by omega
  have X1 := Lib.hid x1
  have X2 := Lib.hid x2
  have X3 := Lib.hid x3
  clear x1 x2 x3
  clear a3
  go_enter Try.func11, Try.ntmps11
  go_wp2_with (fail)
  refine (readNumberT s p _ hs).mono ?_
  rintro e w1 ⟨rfl, hB⟩
  rw [X1.out]
  simp only [anNum, anPlace, Option.isSome]
  go_wp2_with (fail)
  refine (numberT _ _).mono ?_
  rintro e w2 ⟨rfl, hB2⟩
  have hb := hB.trans (hB2.mono hB.size)
  clear hB hB2
  unfold numV
  go_wp2_with (fail)
  refine (readTextT s p _ hs).mono ?_
  rintro e w3 ⟨rfl, hB3⟩
  have hB := hb.trans (hB3.mono hb.size)
  clear hb hB3
  rw [X2.out]
  simp only [anText, anPlace, Option.isSome]
  go_wp2_with (fail)
  refine (textT _ _).mono ?_
  rintro e w4 ⟨rfl, hB4⟩
  have hb := hB.trans (hB4.mono hB.size)
  clear hB hB4
  unfold textV
  go_wp2_with (fail)
  refine (readNumbersT s p _ hs).mono ?_
  rintro e w6 ⟨⟨A1, c1, rfl, ho⟩, hB6⟩
  have ho := own_more (base := w.heap.size) ho hb.size
  have hB := hb.trans (hB6.mono hb.size)
  clear hb hB6
  rw [X3.out] at ho ⊢
  simp only [anRow, anPlace, Option.isSome] at ho ⊢
  go_wp2_with (fail)
  refine (numbersT _ _ _ _ _ (own_reads ho)).mono ?_
  rintro e w5 ⟨rfl, hB5⟩
  have hb := hB.trans (hB5.mono hB.size)
  clear hB hB5 ho
  unfold rowV
  go_wp2_with (fail)
  refine (wires_c _).mono ?_
  rintro e w7 ⟨rfl, hB7⟩
  have hB := hb.trans (hB7.mono hb.size)
  clear hb hB7
  go_wp2_with (fail)
  go_ret
  exact ⟨rfl, hB⟩

set_option maxRecDepth 100000 in
set_option maxHeartbeats 4000000 in
theorem wireSame_101 (s : ByteArray) (p : Nat) (w : World) (h : s.size ≤ 1000) (hp : p ≤ s.size) (n q1 : Nat) (xs : List Int) (q3 : Nat) (x1 : rdAt s p = some (n, q1)) (x2 : rdText s p = none) (x3 : rdNums s p = some (xs, q3)) :
    Calls Try.prog 11 #[.string s, .int .i64 p] w fun e w' => e = .returned (.bool true) ∧ Below w.heap.size w w' := by
  have hs : s.size ≤ 1000000 := by omega
  obtain ⟨-, a1, a2, a3, a4⟩ := rdAt_same x1
  rw [Int.toNat_natCast] at a4
  have a5 := numErr_good a3
  have a1 : p < q1 := by omega
  obtain ⟨-, c1, c2, c3, c4⟩ := rdNums_same x3
  rw [Int.toNat_natCast] at c4
  have c5 := rowErr_good c3
  have c1 : p < q3 := by omega
  have X1 := Lib.hid x1
  have X2 := Lib.hid x2
  have X3 := Lib.hid x3
  clear x1 x2 x3
  clear a3
  clear c3
  go_enter Try.func11, Try.ntmps11
  go_wp2_with (fail)
  refine (readNumberT s p _ hs).mono ?_
  rintro e w1 ⟨rfl, hB⟩
  rw [X1.out]
  simp only [anNum, anPlace, Option.isSome]
  go_wp2_with (fail)
  refine (numberT _ _).mono ?_
  rintro e w2 ⟨rfl, hB2⟩
  have hb := hB.trans (hB2.mono hB.size)
  clear hB hB2
  unfold numV
  go_wp2_with (fail)
  refine (readTextT s p _ hs).mono ?_
  rintro e w3 ⟨rfl, hB3⟩
  have hB := hb.trans (hB3.mono hb.size)
  clear hb hB3
  rw [X2.out]
  simp only [anText, anPlace, Option.isSome]
  go_wp2_with (fail)
  refine (textT _ _).mono ?_
  rintro e w4 ⟨rfl, hB4⟩
  have hb := hB.trans (hB4.mono hB.size)
  clear hB hB4
  unfold textV
  go_wp2_with (fail)
  refine (readNumbersT s p _ hs).mono ?_
  rintro e w6 ⟨⟨A1, c1, rfl, ho⟩, hB6⟩
  have ho := own_more (base := w.heap.size) ho hb.size
  have hB := hb.trans (hB6.mono hb.size)
  clear hb hB6
  rw [X3.out] at ho ⊢
  simp only [anRow, anPlace, Option.isSome] at ho ⊢
  go_wp2_with (fail)
  refine (numbersT _ _ _ _ _ (own_reads ho)).mono ?_
  rintro e w5 ⟨rfl, hB5⟩
  have hb := hB.trans (hB5.mono hB.size)
  clear hB hB5 ho
  unfold rowV
  go_wp2_with (fail)
  refine (wires_c _).mono ?_
  rintro e w7 ⟨rfl, hB7⟩
  have hB := hb.trans (hB7.mono hb.size)
  clear hb hB7
  go_wp2_with (fail)
  go_ret
  exact ⟨rfl, hB⟩

set_option maxRecDepth 100000 in
set_option maxHeartbeats 4000000 in
theorem wireSame_110 (s : ByteArray) (p : Nat) (w : World) (h : s.size ≤ 1000) (hp : p ≤ s.size) (n q1 : Nat) (t : ByteArray) (q2 : Nat) (x1 : rdAt s p = some (n, q1)) (x2 : rdText s p = some (t, q2)) (x3 : rdNums s p = none) :
    Calls Try.prog 11 #[.string s, .int .i64 p] w fun e w' => e = .returned (.bool true) ∧ Below w.heap.size w w' := by
  have hs : s.size ≤ 1000000 := by omega
  obtain ⟨-, a1, a2, a3, a4⟩ := rdAt_same x1
  rw [Int.toNat_natCast] at a4
  have a5 := numErr_good a3
  have a1 : p < q1 := by omega
  obtain ⟨-, b1, b2, b3, b4⟩ := rdText_same x2
  rw [Int.toNat_natCast] at b4
  have b5 := textErr_few b3
  have b1 : p < q2 := by omega
  have X1 := Lib.hid x1
  have X2 := Lib.hid x2
  have X3 := Lib.hid x3
  clear x1 x2 x3
  clear a3
  clear b3
  go_enter Try.func11, Try.ntmps11
  go_wp2_with (fail)
  refine (readNumberT s p _ hs).mono ?_
  rintro e w1 ⟨rfl, hB⟩
  rw [X1.out]
  simp only [anNum, anPlace, Option.isSome]
  go_wp2_with (fail)
  refine (numberT _ _).mono ?_
  rintro e w2 ⟨rfl, hB2⟩
  have hb := hB.trans (hB2.mono hB.size)
  clear hB hB2
  unfold numV
  go_wp2_with (fail)
  refine (readTextT s p _ hs).mono ?_
  rintro e w3 ⟨rfl, hB3⟩
  have hB := hb.trans (hB3.mono hb.size)
  clear hb hB3
  rw [X2.out]
  simp only [anText, anPlace, Option.isSome]
  go_wp2_with (fail)
  refine (textT _ _).mono ?_
  rintro e w4 ⟨rfl, hB4⟩
  have hb := hB.trans (hB4.mono hB.size)
  clear hB hB4
  unfold textV
  go_wp2_with (fail)
  refine (readNumbersT s p _ hs).mono ?_
  rintro e w6 ⟨⟨A1, c1, rfl, ho⟩, hB6⟩
  have ho := own_more (base := w.heap.size) ho hb.size
  have hB := hb.trans (hB6.mono hb.size)
  clear hb hB6
  rw [X3.out] at ho ⊢
  simp only [anRow, anPlace, Option.isSome] at ho ⊢
  go_wp2_with (fail)
  refine (numbersT _ _ _ _ _ (own_reads ho)).mono ?_
  rintro e w5 ⟨rfl, hB5⟩
  have hb := hB.trans (hB5.mono hB.size)
  clear hB hB5 ho
  unfold rowV
  go_wp2_with (fail)
  refine (wires_c _).mono ?_
  rintro e w7 ⟨rfl, hB7⟩
  have hB := hb.trans (hB7.mono hb.size)
  clear hb hB7
  go_wp2_with (fail)
  go_ret
  exact ⟨rfl, hB⟩

set_option maxRecDepth 100000 in
set_option maxHeartbeats 4000000 in
theorem wireSame_111 (s : ByteArray) (p : Nat) (w : World) (h : s.size ≤ 1000) (hp : p ≤ s.size) (n q1 : Nat) (t : ByteArray) (q2 : Nat) (xs : List Int) (q3 : Nat) (x1 : rdAt s p = some (n, q1)) (x2 : rdText s p = some (t, q2)) (x3 : rdNums s p = some (xs, q3)) :
    Calls Try.prog 11 #[.string s, .int .i64 p] w fun e w' => e = .returned (.bool true) ∧ Below w.heap.size w w' := by
  have hs : s.size ≤ 1000000 := by omega
  obtain ⟨-, a1, a2, a3, a4⟩ := rdAt_same x1
  rw [Int.toNat_natCast] at a4
  have a5 := numErr_good a3
  have a1 : p < q1 := by omega
  obtain ⟨-, b1, b2, b3, b4⟩ := rdText_same x2
  rw [Int.toNat_natCast] at b4
  have b5 := textErr_few b3
  have b1 : p < q2 := by omega
  obtain ⟨-, c1, c2, c3, c4⟩ := rdNums_same x3
  rw [Int.toNat_natCast] at c4
  have c5 := rowErr_good c3
  have c1 : p < q3 := by omega
  have X1 := Lib.hid x1
  have X2 := Lib.hid x2
  have X3 := Lib.hid x3
  clear x1 x2 x3
  clear a3
  clear b3
  clear c3
  go_enter Try.func11, Try.ntmps11
  go_wp2_with (fail)
  refine (readNumberT s p _ hs).mono ?_
  rintro e w1 ⟨rfl, hB⟩
  rw [X1.out]
  simp only [anNum, anPlace, Option.isSome]
  go_wp2_with (fail)
  refine (numberT _ _).mono ?_
  rintro e w2 ⟨rfl, hB2⟩
  have hb := hB.trans (hB2.mono hB.size)
  clear hB hB2
  unfold numV
  go_wp2_with (fail)
  refine (readTextT s p _ hs).mono ?_
  rintro e w3 ⟨rfl, hB3⟩
  have hB := hb.trans (hB3.mono hb.size)
  clear hb hB3
  rw [X2.out]
  simp only [anText, anPlace, Option.isSome]
  go_wp2_with (fail)
  refine (textT _ _).mono ?_
  rintro e w4 ⟨rfl, hB4⟩
  have hb := hB.trans (hB4.mono hB.size)
  clear hB hB4
  unfold textV
  go_wp2_with (fail)
  refine (readNumbersT s p _ hs).mono ?_
  rintro e w6 ⟨⟨A1, c1, rfl, ho⟩, hB6⟩
  have ho := own_more (base := w.heap.size) ho hb.size
  have hB := hb.trans (hB6.mono hb.size)
  clear hb hB6
  rw [X3.out] at ho ⊢
  simp only [anRow, anPlace, Option.isSome] at ho ⊢
  go_wp2_with (fail)
  refine (numbersT _ _ _ _ _ (own_reads ho)).mono ?_
  rintro e w5 ⟨rfl, hB5⟩
  have hb := hB.trans (hB5.mono hB.size)
  clear hB hB5 ho
  unfold rowV
  go_wp2_with (fail)
  refine (wires_c _).mono ?_
  rintro e w7 ⟨rfl, hB7⟩
  have hB := hb.trans (hB7.mono hb.size)
  clear hb hB7
  go_wp2_with (fail)
  go_ret
  exact ⟨rfl, hB⟩

theorem wireSame_c (s : ByteArray) (p : Int) (w : World) :
    Calls Try.prog 11 #[.string s, .int .i64 p] w fun e w' => e = .returned (.bool true) ∧ Below w.heap.size w w' := by
  by_cases h : 1000 < s.size ∨ p < 0 ∨ s.size < p
  · exact wireSame_far s p w h
  · obtain ⟨k, rfl⟩ : ∃ k : Nat, p = k := ⟨p.toNat, by omega⟩
    have h1 : s.size ≤ 1000 := by omega
    have h2 : k ≤ s.size := by omega
    rcases x1 : rdAt s k with _ | ⟨n, q1⟩ <;> rcases x2 : rdText s k with _ | ⟨t, q2⟩ <;> rcases x3 : rdNums s k with _ | ⟨xs, q3⟩
    · exact wireSame_000 s k w h1 h2 x1 x2 x3
    · exact wireSame_001 s k w h1 h2 xs q3 x1 x2 x3
    · exact wireSame_010 s k w h1 h2 t q2 x1 x2 x3
    · exact wireSame_011 s k w h1 h2 t q2 xs q3 x1 x2 x3
    · exact wireSame_100 s k w h1 h2 n q1 x1 x2 x3
    · exact wireSame_101 s k w h1 h2 n q1 xs q3 x1 x2 x3
    · exact wireSame_110 s k w h1 h2 n q1 t q2 x1 x2 x3
    · exact wireSame_111 s k w h1 h2 n q1 t q2 xs q3 x1 x2 x3
end Go.Proofs.Ytpkhlikeggolbaa
