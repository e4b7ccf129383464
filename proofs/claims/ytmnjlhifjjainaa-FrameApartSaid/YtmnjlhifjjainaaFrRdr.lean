/-
  The program's reader: a number, a text, an end; what is none is thrown.
-/
import Derived.Test.YtmnjlhifjjainaaFrCut
import Derived.Defers
import Derived.Recover
namespace Go.Proofs.Ytmnjlhifjjainaa
open Go.RowKit

/-- What is thrown. -/
def thrown : Ending := .panicked [{ v := .iface 28 (.int .i64 220), recovered := false }]
theorem must_yes (w : World) : Calls Try.prog 48 #[.bool true] w fun e w' => e = .returned (.tuple #[]) ∧ w' = w := by
  go_enter Try.func48, Try.ntmps48
  go_wp2
  first | (go_end0; done) | (go_end0; exact ⟨rfl, rfl⟩)
theorem must_no (w : World) : Calls Try.prog 48 #[.bool false] w fun e w' => e = thrown ∧ w' = w := by
  go_enter Try.func48, Try.ntmps48
  go_wp2
  exact ⟨rfl, rfl, rfl⟩

/-- The program's reader in its cells. -/
def RfAt (w : World) (b : Nat) (s : ByteArray) (p : Int) : Prop := w.heap[b]? = some (.cells #[.string s, .int .i64 p] 131 (0, 0))
theorem RfAt.cells {w : World} {b : Nat} {s : ByteArray} {p : Int} (h : RfAt w b s p) : w.cell? ⟨b, 0, none⟩ = some (.string s) ∧ w.cell? ⟨b, 1, none⟩ = some (.int .i64 p) := by
  unfold RfAt at h
  refine ⟨?_, ?_⟩ <;> · rw [Lib.cell_of_heap h]; rfl
theorem RfAt.frozen {w : World} {b : Nat} {s : ByteArray} {p : Int} (h : RfAt w b s p) (k : Nat) : w.frozen? ⟨b, k, none⟩ = false := Lib.frozen_of_heap h k
theorem RfAt.lt {w : World} {b : Nat} {s : ByteArray} {p : Int} (h : RfAt w b s p) : b < w.heap.size := (Array.getElem?_eq_some_iff.1 h).1
theorem RfAt.below {w w' : World} {b : Nat} {s : ByteArray} {p : Int} (h : RfAt w b s p) (hb : Below w.heap.size w w') : RfAt w' b s p := (hb.block b h.lt).trans h
theorem RfAt.setPlace {w : World} {b : Nat} {s : ByteArray} {p : Int} (h : RfAt w b s p) (p' : Int) : RfAt (w.setCell ⟨b, 1, none⟩ (.int .i64 p')) b s p' := by
  have := heap_setCell_same w b 1 _ _ (.int .i64 p') h
  unfold RfAt
  simpa using this

set_option maxRecDepth 100000 in
set_option maxHeartbeats 4000000 in
theorem rfNumber_none (b : Nat) (s : ByteArray) (p : Int) (w : World) (hc : RfAt w b s p) (hs : s.size ≤ 1000000) (ho : rdAt s p = none) :
    Calls Try.prog 45 #[.pointer (some ⟨b, 0, none⟩)] w fun e w' => e = thrown ∧ w.grownBy w' (some b) := by
  obtain ⟨c0, c1⟩ := hc.cells
  have HC := Lib.hid hc
  clear hc
  have HO := Lib.hid ho
  clear ho
  go_enter Try.func45, Try.ntmps45
  go_wp2_with (fail)
  go_region_law (go_simp; go_at_call 56; refine (readNumberT s p _ hs).mono ?_; rintro e w2 ⟨rfl, hB2⟩; rw [HO.out]; simp [anNum, anPlace])
  all_goals
    rename_i Q' K hK
    have hG := (only_of_below (a := w) (w := w2) ⟨hB2.os, hB2.tape, hB2.output, hB2.size, hB2.block⟩ (some b))
    refine hK _ _ ?_
    clear hK K hB2 c0 c1
    go_wp2_with (fail)
    refine (must_no _).mono ?_
    rintro e w3 ⟨rfl, rfl⟩
    unfold thrown
    first | exact ⟨rfl, rfl, hG⟩ | (go_wp2_with (fail); exact ⟨rfl, rfl, hG⟩)

set_option maxRecDepth 100000 in
set_option maxHeartbeats 4000000 in
theorem rfNumber_some (b : Nat) (s : ByteArray) (p : Int) (x : Nat) (q : Nat) (w : World) (hc : RfAt w b s p) (hs : s.size ≤ 1000000) (ho : rdAt s p = some (x, q)) :
    Calls Try.prog 45 #[.pointer (some ⟨b, 0, none⟩)] w fun e w' => e = .returned (.int .i64 (x : Nat)) ∧ RfAt w' b s q ∧ w.grownBy w' (some b) := by
  obtain ⟨c0, c1⟩ := hc.cells
  have HC := Lib.hid hc
  clear hc
  have HO := Lib.hid ho
  clear ho
  go_enter Try.func45, Try.ntmps45
  go_wp2_with (fail)
  go_region_law (go_simp; go_at_call 56; refine (readNumberT s p _ hs).mono ?_; rintro e w2 ⟨rfl, hB2⟩; rw [HO.out]; simp [anNum, anPlace])
  all_goals
    rename_i Q' K hK
    have hc2 := (RfAt.below (w := w) HC.out ⟨hB2.os, hB2.tape, hB2.output, hB2.size, hB2.block⟩)
    have hG := Lib.hid (only_of_below (a := w) (w := w2) ⟨hB2.os, hB2.tape, hB2.output, hB2.size, hB2.block⟩ (some b))
    refine hK _ _ ?_
    clear hK K hB2 c0 c1
    obtain ⟨c0, c1⟩ := hc2.cells
    have hf1 := hc2.frozen 1
    have hc3 := Lib.hid (hc2.setPlace q)
    clear hc2
    go_wp2_with (fail)
    refine (must_yes _).mono ?_
    rintro e w3 ⟨rfl, rfl⟩
    go_wp2_with (fail)
    go_ret
    exact ⟨rfl, hc3.out, only_trans_row hG.out (grown_set _ b 1 _)⟩

set_option maxRecDepth 100000 in
set_option maxHeartbeats 4000000 in
theorem rfText_none (b : Nat) (s : ByteArray) (p : Int) (w : World) (hc : RfAt w b s p) (hs : s.size ≤ 1000000) (ho : rdText s p = none) :
    Calls Try.prog 89 #[.pointer (some ⟨b, 0, none⟩)] w fun e w' => e = thrown ∧ w.grownBy w' (some b) := by
  obtain ⟨c0, c1⟩ := hc.cells
  have HC := Lib.hid hc
  clear hc
  have HO := Lib.hid ho
  clear ho
  go_enter Try.func89, Try.ntmps89
  go_wp2_with (fail)
  go_region_law (go_simp; go_at_call 105; refine (readTextT s p _ hs).mono ?_; rintro e w2 ⟨rfl, hB2⟩; rw [HO.out]; simp [anText, anPlace])
  all_goals
    rename_i Q' K hK
    have hG := (only_of_below (a := w) (w := w2) ⟨hB2.os, hB2.tape, hB2.output, hB2.size, hB2.block⟩ (some b))
    refine hK _ _ ?_
    clear hK K hB2 c0 c1
    go_wp2_with (fail)
    refine (must_no _).mono ?_
    rintro e w3 ⟨rfl, rfl⟩
    unfold thrown
    first | exact ⟨rfl, rfl, hG⟩ | (go_wp2_with (fail); exact ⟨rfl, rfl, hG⟩)

set_option maxRecDepth 100000 in
set_option maxHeartbeats 4000000 in
theorem rfText_some (b : Nat) (s : ByteArray) (p : Int) (x : ByteArray) (q : Nat) (w : World) (hc : RfAt w b s p) (hs : s.size ≤ 1000000) (ho : rdText s p = some (x, q)) :
    Calls Try.prog 89 #[.pointer (some ⟨b, 0, none⟩)] w fun e w' => e = .returned (.string x) ∧ RfAt w' b s q ∧ w.grownBy w' (some b) := by
  obtain ⟨c0, c1⟩ := hc.cells
  have HC := Lib.hid hc
  clear hc
  have HO := Lib.hid ho
  clear ho
  go_enter Try.func89, Try.ntmps89
  go_wp2_with (fail)
  go_region_law (go_simp; go_at_call 105; refine (readTextT s p _ hs).mono ?_; rintro e w2 ⟨rfl, hB2⟩; rw [HO.out]; simp [anText, anPlace])
  all_goals
    rename_i Q' K hK
    have hc2 := (RfAt.below (w := w) HC.out ⟨hB2.os, hB2.tape, hB2.output, hB2.size, hB2.block⟩)
    have hG := Lib.hid (only_of_below (a := w) (w := w2) ⟨hB2.os, hB2.tape, hB2.output, hB2.size, hB2.block⟩ (some b))
    refine hK _ _ ?_
    clear hK K hB2 c0 c1
    obtain ⟨c0, c1⟩ := hc2.cells
    have hf1 := hc2.frozen 1
    have hc3 := Lib.hid (hc2.setPlace q)
    clear hc2
    go_wp2_with (fail)
    refine (must_yes _).mono ?_
    rintro e w3 ⟨rfl, rfl⟩
    go_wp2_with (fail)
    go_ret
    exact ⟨rfl, hc3.out, only_trans_row hG.out (grown_set _ b 1 _)⟩

set_option maxRecDepth 100000 in
theorem rfMost_none (b : Nat) (s : ByteArray) (p : Int) (m : Int) (w : World) (hc : RfAt w b s p) (hs : s.size ≤ 1000000) (ho : rdAt s p = none) :
    Calls Try.prog 46 #[.pointer (some ⟨b, 0, none⟩), .int .i64 m] w fun e w' => e = thrown ∧ w.grownBy w' (some b) := by
  go_enter Try.func46, Try.ntmps46
  go_wp2_with (fail)
  refine (rfNumber_none b s p _ hc hs ho).mono ?_
  rintro e w2 ⟨rfl, hG⟩
  unfold thrown
  first | exact ⟨rfl, rfl, hG⟩ | (go_wp2_with (fail); exact ⟨rfl, rfl, hG⟩)
set_option maxRecDepth 100000 in
theorem rfMost_big (b : Nat) (s : ByteArray) (p : Int) (m : Int) (x q : Nat) (w : World) (hc : RfAt w b s p) (hs : s.size ≤ 1000000) (ho : rdAt s p = some (x, q)) (hm : ¬ (x : Int) ≤ m) :
    Calls Try.prog 46 #[.pointer (some ⟨b, 0, none⟩), .int .i64 m] w fun e w' => e = thrown ∧ w.grownBy w' (some b) := by
  have hd : decide ((x : Int) ≤ m) = false := decide_eq_false hm
  go_enter Try.func46, Try.ntmps46
  go_wp2_with (fail)
  refine (rfNumber_some b s p x q _ hc hs ho).mono ?_
  rintro e w2 ⟨rfl, -, hG⟩
  clear ho hc
  go_wp2_with (fail)
  refine (must_no _).mono ?_
  rintro e w3 ⟨rfl, rfl⟩
  unfold thrown
  first | exact ⟨rfl, rfl, hG⟩ | (go_wp2_with (fail); exact ⟨rfl, rfl, hG⟩)
set_option maxRecDepth 100000 in
theorem rfMost_some (b : Nat) (s : ByteArray) (p : Int) (m : Int) (x q : Nat) (w : World) (hc : RfAt w b s p) (hs : s.size ≤ 1000000) (ho : rdAt s p = some (x, q)) (hm : (x : Int) ≤ m) :
    Calls Try.prog 46 #[.pointer (some ⟨b, 0, none⟩), .int .i64 m] w fun e w' => e = .returned (.int .i64 x) ∧ RfAt w' b s q ∧ w.grownBy w' (some b) := by
  have hd : decide ((x : Int) ≤ m) = true := decide_eq_true hm
  go_enter Try.func46, Try.ntmps46
  go_wp2_with (fail)
  refine (rfNumber_some b s p x q _ hc hs ho).mono ?_
  rintro e w2 ⟨rfl, hc2, hG⟩
  clear ho hc
  go_wp2_with (fail)
  refine (must_yes _).mono ?_
  rintro e w3 ⟨rfl, rfl⟩
  go_wp2_with (fail)
  go_ret
  exact ⟨rfl, hc2, hG⟩
set_option maxRecDepth 100000 in
theorem rfEnd_yes (b : Nat) (s : ByteArray) (p : Nat) (w : World) (hc : RfAt w b s p) (hp : p = s.size) :
    Calls Try.prog 88 #[.pointer (some ⟨b, 0, none⟩)] w fun e w' => e = .returned (.tuple #[]) ∧ w' = w.drew := by
  obtain ⟨c0, c1⟩ := hc.cells
  clear hc
  subst hp
  go_enter Try.func88, Try.ntmps88
  go_wp2_with (fail)
  go_region_law (go_simp; go_at_call 48; refine (must_yes _).mono ?_; rintro e w2 ⟨rfl, rfl⟩; simp)
  all_goals
    refine (show bodyPost _ _ _ _ _ _ from ?_)
    first | (go_end0; done) | (go_end0; exact ⟨rfl, rfl⟩)
set_option maxRecDepth 100000 in
theorem rfEnd_no (b : Nat) (s : ByteArray) (p : Nat) (w : World) (hc : RfAt w b s p) (hp : ¬ p = s.size) :
    Calls Try.prog 88 #[.pointer (some ⟨b, 0, none⟩)] w fun e w' => e = thrown ∧ w' = w.drew := by
  obtain ⟨c0, c1⟩ := hc.cells
  clear hc
  have hd : ((p : Int) == (s.size : Int)) = false := by
    rw [beq_eq_false_iff_ne]
    omega
  go_enter Try.func88, Try.ntmps88
  go_wp2_with (fail)
  refine wp_region_still_tail 10 (by kernel_rfl) (by kernel_rfl) ?_
  simp only [List.take_succ_cons, List.take_zero, List.drop_succ_cons, List.drop_zero]
  obtain ⟨wd, hwd⟩ : ∃ wd, wd = w.drew := ⟨_, rfl⟩
  change w.drew.cell? _ = _ at c0 c1
  rw [← hwd] at c0 c1
  change wpStill _ _ w.drew (fun a' => wpList _ _ _ _ a' w.drew) _ _
  rw [← hwd]
  have HW := Lib.hid hwd
  clear hwd
  repeat still_step
  refine wpStill_nil ?_
  go_wp2_with (fail)
  refine (must_no _).mono ?_
  rintro e w3 ⟨rfl, rfl⟩
  unfold thrown
  first | exact ⟨rfl, rfl, HW.out⟩ | (go_wp2_with (fail); exact ⟨rfl, rfl, HW.out⟩)
end Go.Proofs.Ytmnjlhifjjainaa
