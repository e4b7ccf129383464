/-
  WireFront: the walk.
-/
import Derived.Test.YtpkhlikeggolbaaWireLaws
namespace Go.Proofs.Ytpkhlikeggolbaa
open Go.RowKit

theorem list_beq {a b : ByteArray} : (a.toList == b.toList) = decide (a = b) := by
  rw [Bool.eq_iff_iff, beq_iff_eq, decide_eq_true_iff, Go.ByteArray.toList_eq, Go.ByteArray.toList_eq]
  exact ⟨fun h => bytes_ext h, fun h => by rw [h]⟩

theorem wireFront_far (n m : Int) (s t : ByteArray) (w : World) (h : 500 < s.size ∨ 500 < t.size) :
    Calls Try.prog 8 #[.int .i64 n, .int .i64 m, .string s, .string t] w fun e w' => e = .returned (.bool true) ∧ Below w.heap.size w w' := by
  rcases Nat.lt_or_ge 500 s.size with h1 | h1
  · go_enter Try.func8, Try.ntmps8
    go_wp2_with (fail)
    go_ret
    exact ⟨rfl, Below.refl _ _⟩
  · have h2 : 500 < t.size := by omega
    go_enter Try.func8, Try.ntmps8
    go_wp2_with (fail)
    go_ret
    exact ⟨rfl, Below.refl _ _⟩

set_option maxRecDepth 100000 in
set_option maxHeartbeats 2000000 in
theorem wireFront_n (n m : Int) (s t : ByteArray) (w : World) (h1 : s.size ≤ 500) (h2 : t.size ≤ 500) (hn : ¬ good n) :
    Calls Try.prog 8 #[.int .i64 n, .int .i64 m, .string s, .string t] w fun e w' => e = .returned (.bool true) ∧ Below w.heap.size w w' := by
  have e1 : textErr s = 0 := by unfold textErr; rw [if_pos (by omega)]
  have e2 : textErr t = 0 := by unfold textErr; rw [if_pos (by omega)]
  have e3 : numErr n = 1 := by unfold numErr; rw [if_neg hn]
  have HT : (((textStr t).extract 0 (textStr s).size).toList == (textStr s).toList) = (s.toList == t.toList) := by
    rw [list_beq, list_beq]
    exact decide_eq_decide.2 (text_front (by omega) (by omega))
  go_enter Try.func8, Try.ntmps8
  go_wp2_with (fail)
  refine (numberT n _).mono ?_
  rintro e w1 ⟨rfl, hB⟩
  unfold numV
  go_wp2_with (fail)
  refine (numberT m _).mono ?_
  rintro e w2 ⟨rfl, hB2⟩
  have hb := hB.trans (hB2.mono hB.size)
  clear hB hB2
  unfold numV
  go_wp2_with (fail)
  refine (textT s _).mono ?_
  rintro e w3 ⟨rfl, hB3⟩
  have hB := hb.trans (hB3.mono hb.size)
  clear hb hB3
  unfold textV
  go_wp2_with (fail)
  refine (textT t _).mono ?_
  rintro e w4 ⟨rfl, hB4⟩
  have hb := hB.trans (hB4.mono hB.size)
  clear hB hB4
  unfold textV
  go_wp2_with (fail)
  all_goals (refine (wires_c _).mono ?_)
  all_goals (rintro e w7 ⟨rfl, hB7⟩)
  all_goals (have hB := hb.trans (hB7.mono hb.size))
  all_goals (clear hb hB7)
  all_goals (go_wp2_with (fail))
  all_goals go_ret
  all_goals exact ⟨rfl, hB⟩
set_option maxRecDepth 100000 in
set_option maxHeartbeats 2000000 in
theorem wireFront_gn (n m : Int) (s t : ByteArray) (w : World) (h1 : s.size ≤ 500) (h2 : t.size ≤ 500) (hn : good n) (hm : ¬ good m) :
    Calls Try.prog 8 #[.int .i64 n, .int .i64 m, .string s, .string t] w fun e w' => e = .returned (.bool true) ∧ Below w.heap.size w w' := by
  have e1 : textErr s = 0 := by unfold textErr; rw [if_pos (by omega)]
  have e2 : textErr t = 0 := by unfold textErr; rw [if_pos (by omega)]
  have e3 : numErr n = 0 := by unfold numErr; rw [if_pos hn]
  have e4 : numErr m = 1 := by unfold numErr; rw [if_neg hm]
  have HT : (((textStr t).extract 0 (textStr s).size).toList == (textStr s).toList) = (s.toList == t.toList) := by
    rw [list_beq, list_beq]
    exact decide_eq_decide.2 (text_front (by omega) (by omega))
  go_enter Try.func8, Try.ntmps8
  go_wp2_with (fail)
  refine (numberT n _).mono ?_
  rintro e w1 ⟨rfl, hB⟩
  unfold numV
  go_wp2_with (fail)
  refine (numberT m _).mono ?_
  rintro e w2 ⟨rfl, hB2⟩
  have hb := hB.trans (hB2.mono hB.size)
  clear hB hB2
  unfold numV
  go_wp2_with (fail)
  refine (textT s _).mono ?_
  rintro e w3 ⟨rfl, hB3⟩
  have hB := hb.trans (hB3.mono hb.size)
  clear hb hB3
  unfold textV
  go_wp2_with (fail)
  refine (textT t _).mono ?_
  rintro e w4 ⟨rfl, hB4⟩
  have hb := hB.trans (hB4.mono hB.size)
  clear hB hB4
  unfold textV
  go_wp2_with (fail)
  all_goals (refine (wires_c _).mono ?_)
  all_goals (rintro e w7 ⟨rfl, hB7⟩)
  all_goals (have hB := hb.trans (hB7.mono hb.size))
  all_goals (clear hb hB7)
  all_goals (go_wp2_with (fail))
  all_goals go_ret
  all_goals exact ⟨rfl, hB⟩
set_option maxRecDepth 100000 in
set_option maxHeartbeats 2000000 in
theorem wireFront_gg (n m : Int) (s t : ByteArray) (w : World) (h1 : s.size ≤ 500) (h2 : t.size ≤ 500) (hn : good n) (hm : good m) :
    Calls Try.prog 8 #[.int .i64 n, .int .i64 m, .string s, .string t] w fun e w' => e = .returned (.bool true) ∧ Below w.heap.size w w' := by
  have e1 : textErr s = 0 := by unfold textErr; rw [if_pos (by omega)]
  have e2 : textErr t = 0 := by unfold textErr; rw [if_pos (by omega)]
  have e3 : numErr n = 0 := by unfold numErr; rw [if_pos hn]
  have e4 : numErr m = 0 := by unfold numErr; rw [if_pos hm]
  have HT : (((textStr t).extract 0 (textStr s).size).toList == (textStr s).toList) = (s.toList == t.toList) := by
    rw [list_beq, list_beq]
    exact decide_eq_decide.2 (text_front (by omega) (by omega))
  have HN : (((numStr m).extract 0 (numStr n).size).toList == (numStr n).toList) = (n == m) := by
    rw [list_beq, Bool.eq_iff_iff, decide_eq_true_iff, beq_iff_eq]
    exact num_front hn hm
  go_enter Try.func8, Try.ntmps8
  go_wp2_with (fail)
  refine (numberT n _).mono ?_
  rintro e w1 ⟨rfl, hB⟩
  unfold numV
  go_wp2_with (fail)
  refine (numberT m _).mono ?_
  rintro e w2 ⟨rfl, hB2⟩
  have hb := hB.trans (hB2.mono hB.size)
  clear hB hB2
  unfold numV
  go_wp2_with (fail)
  refine (textT s _).mono ?_
  rintro e w3 ⟨rfl, hB3⟩
  have hB := hb.trans (hB3.mono hb.size)
  clear hb hB3
  unfold textV
  go_wp2_with (fail)
  refine (textT t _).mono ?_
  rintro e w4 ⟨rfl, hB4⟩
  have hb := hB.trans (hB4.mono hB.size)
  clear hB hB4
  unfold textV
  go_wp2_with (fail)
  all_goals (refine (wires_c _).mono ?_)
  all_goals (rintro e w7 ⟨rfl, hB7⟩)
  all_goals (have hB := hb.trans (hB7.mono hb.size))
  all_goals (clear hb hB7)
  all_goals (go_wp2_with (fail))
  all_goals go_ret
  all_goals exact ⟨rfl, hB⟩
end Go.Proofs.Ytpkhlikeggolbaa
