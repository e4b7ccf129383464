/-
  WireLays: the walk.
-/
import Derived.Test.YtpkhlikeggolbaaWireTot
import Derived.Test.YtpkhlikeggolbaaInts
namespace Go.Proofs.Ytpkhlikeggolbaa
open Go.RowKit

theorem wireLays_far (n : Int) (s : ByteArray) (A : Option Addr) (len c : Nat) (w : World) (hs : s.size ≤ maxLen) (hl : len ≤ maxLen) (h : 5000 < s.size ∨ 5000 < len ∨ 100 < len ∧ len ≤ 4000) :
    Calls Try.prog 7 #[.int .i64 n, .string s, .slice A len c] w fun e w' => e = .returned (.bool true) ∧ Below w.heap.size w w' := by
  rcases Nat.lt_or_ge 5000 s.size with h1 | h1
  · go_enter Try.func7, Try.ntmps7
    go_wp2_with (fail)
    go_ret
    exact ⟨rfl, Below.refl _ _⟩
  · rcases Nat.lt_or_ge 5000 len with h2 | h2
    · go_enter Try.func7, Try.ntmps7
      go_wp2_with (fail)
      go_ret
      exact ⟨rfl, Below.refl _ _⟩
    · have h3 : 100 < len := by omega
      have h4 : len ≤ 4000 := by omega
      go_enter Try.func7, Try.ntmps7
      go_wp2_with (fail)
      go_ret
      exact ⟨rfl, Below.refl _ _⟩

set_option maxRecDepth 100000 in
set_option maxHeartbeats 2000000 in
theorem wireLays_c (n : Int) (s : ByteArray) (A : Option Addr) (len c : Nat) (xs : List Int) (w : World) (hr : Reads w w.heap.size 1 A len (iv xs)) (hs : s.size ≤ 5000) (hl : len ≤ 5000) (hl2 : ¬ (100 < len ∧ len ≤ 4000)) :
    Calls Try.prog 7 #[.int .i64 n, .string s, .slice A len c] w fun e w' => e = .returned (.bool true) ∧ Below w.heap.size w w' := by
  have hlen := hr.int_len
  have hml : len ≤ maxLen := by unfold maxLen; omega
  by_cases hh : len ≤ 100
  · have d1 : ¬ 100 < len := by omega
    go_enter Try.func7, Try.ntmps7
    go_wp2_with (fail)
    refine (own_c A len c xs w hr (by omega)).mono ?_
    rintro e w1 ⟨A1, c1, rfl, ho, hB⟩
    go_wp2_with (fail)
    refine (numberT n _).mono ?_
    rintro e w2 ⟨rfl, hB2⟩
    have ho2 := own_below ho hB2
    have hb := hB.trans (hB2.mono hB.size)
    clear ho hB hB2
    unfold numV
    go_wp2_with (fail)
    refine (refNumberT n _).mono ?_
    rintro e w3 ⟨rfl, hB3⟩
    have ho := own_below ho2 hB3
    have hB := hb.trans (hB3.mono hb.size)
    clear ho2 hb hB3
    unfold numV
    go_wp2_with (fail)
    refine (textT s _).mono ?_
    rintro e w4 ⟨rfl, hB4⟩
    have ho2 := own_below ho hB4
    have hb := hB.trans (hB4.mono hB.size)
    clear ho hB hB4
    unfold textV
    go_wp2_with (fail)
    refine (refTextT s _).mono ?_
    rintro e w5 ⟨rfl, hB5⟩
    have ho := own_below ho2 hB5
    have hB := hb.trans (hB5.mono hb.size)
    clear ho2 hb hB5
    unfold textV
    go_wp2_with (fail)
    refine (numbersT A len c xs _ ((hr.below hB).more hB.size)).mono ?_
    rintro e w6 ⟨rfl, hB6⟩
    have ho2 := own_below ho hB6
    have hb := hB.trans (hB6.mono hB.size)
    clear ho hB hB6
    unfold rowV
    go_wp2_with (fail)
    refine (refNumbersT A1 len c1 xs _ (own_reads ho2)).mono ?_
    rintro e w7 ⟨rfl, hB7⟩
    have ho := own_below ho2 hB7
    have hB := hb.trans (hB7.mono hb.size)
    clear ho2 hb hB7
    unfold rowV
    go_wp2_with (fail)
    refine (wires_c _).mono ?_
    rintro e w8 ⟨rfl, hB8⟩
    have ho2 := own_below ho hB8
    have hb := hB.trans (hB8.mono hB.size)
    clear ho hB hB8
    go_wp2_with (fail)
    refine (ints_c A A1 len len c c1 xs xs _ ((hr.below hb).more hb.size) (own_reads ho2) hml hml).mono ?_
    rintro e w9 ⟨rfl, hB9⟩
    have hB := hb.trans (hB9.mono hb.size)
    clear ho2 hb hB9
    have hT : decide (xs = xs) = true := by simp
    rw [hT]
    go_wp2_with (fail)
    go_ret
    exact ⟨rfl, hB⟩
  · have d1 : 4000 < len := by omega
    go_enter Try.func7, Try.ntmps7
    go_wp2_with (fail)
    refine (own_c A len c xs w hr (by omega)).mono ?_
    rintro e w1 ⟨A1, c1, rfl, ho, hB⟩
    go_wp2_with (fail)
    refine (numberT n _).mono ?_
    rintro e w2 ⟨rfl, hB2⟩
    have ho2 := own_below ho hB2
    have hb := hB.trans (hB2.mono hB.size)
    clear ho hB hB2
    unfold numV
    go_wp2_with (fail)
    refine (refNumberT n _).mono ?_
    rintro e w3 ⟨rfl, hB3⟩
    have ho := own_below ho2 hB3
    have hB := hb.trans (hB3.mono hb.size)
    clear ho2 hb hB3
    unfold numV
    go_wp2_with (fail)
    refine (textT s _).mono ?_
    rintro e w4 ⟨rfl, hB4⟩
    have ho2 := own_below ho hB4
    have hb := hB.trans (hB4.mono hB.size)
    clear ho hB hB4
    unfold textV
    go_wp2_with (fail)
    refine (refTextT s _).mono ?_
    rintro e w5 ⟨rfl, hB5⟩
    have ho := own_below ho2 hB5
    have hB := hb.trans (hB5.mono hb.size)
    clear ho2 hb hB5
    unfold textV
    go_wp2_with (fail)
    refine (numbersT A len c xs _ ((hr.below hB).more hB.size)).mono ?_
    rintro e w6 ⟨rfl, hB6⟩
    have ho2 := own_below ho hB6
    have hb := hB.trans (hB6.mono hB.size)
    clear ho hB hB6
    unfold rowV
    go_wp2_with (fail)
    refine (refNumbersT A1 len c1 xs _ (own_reads ho2)).mono ?_
    rintro e w7 ⟨rfl, hB7⟩
    have ho := own_below ho2 hB7
    have hB := hb.trans (hB7.mono hb.size)
    clear ho2 hb hB7
    unfold rowV
    go_wp2_with (fail)
    refine (wires_c _).mono ?_
    rintro e w8 ⟨rfl, hB8⟩
    have ho2 := own_below ho hB8
    have hb := hB.trans (hB8.mono hB.size)
    clear ho hB hB8
    go_wp2_with (fail)
    refine (ints_c A A1 len len c c1 xs xs _ ((hr.below hb).more hb.size) (own_reads ho2) hml hml).mono ?_
    rintro e w9 ⟨rfl, hB9⟩
    have hB := hb.trans (hB9.mono hb.size)
    clear ho2 hb hB9
    have hT : decide (xs = xs) = true := by simp
    rw [hT]
    go_wp2_with (fail)
    go_ret
    exact ⟨rfl, hB⟩
end Go.Proofs.Ytpkhlikeggolbaa
