/-
  The reference's reader: a number, a text.
-/
import Derived.Test.YtmnjlhifjjainaaFrSame
import Derived.StillTailTactics
import Derived.BigRegion
namespace Go.Proofs.Ytmnjlhifjjainaa
open Go.RowKit

/-- The reference's reader in its cells. -/
def CutAt (w : World) (b : Nat) (s : ByteArray) (p : Int) (bad : Bool) : Prop := w.heap[b]? = some (.cells #[.string s, .int .i64 p, .bool bad] 84 (0, 0))
theorem CutAt.cells {w : World} {b : Nat} {s : ByteArray} {p : Int} {bad : Bool} (h : CutAt w b s p bad) :
    w.cell? ⟨b, 0, none⟩ = some (.string s) ∧ w.cell? ⟨b, 1, none⟩ = some (.int .i64 p) ∧ w.cell? ⟨b, 2, none⟩ = some (.bool bad) := by
  unfold CutAt at h
  refine ⟨?_, ?_, ?_⟩ <;> · rw [Lib.cell_of_heap h]; rfl
theorem CutAt.frozen {w : World} {b : Nat} {s : ByteArray} {p : Int} {bad : Bool} (h : CutAt w b s p bad) (k : Nat) : w.frozen? ⟨b, k, none⟩ = false := Lib.frozen_of_heap h k
theorem CutAt.lt {w : World} {b : Nat} {s : ByteArray} {p : Int} {bad : Bool} (h : CutAt w b s p bad) : b < w.heap.size := (Array.getElem?_eq_some_iff.1 h).1
theorem CutAt.below {w w' : World} {b : Nat} {s : ByteArray} {p : Int} {bad : Bool} (h : CutAt w b s p bad) (hb : Below w.heap.size w w') : CutAt w' b s p bad := (hb.block b h.lt).trans h
theorem CutAt.setBad {w : World} {b : Nat} {s : ByteArray} {p : Int} {bad : Bool} (h : CutAt w b s p bad) (bad' : Bool) : CutAt (w.setCell ⟨b, 2, none⟩ (.bool bad')) b s p bad' := by
  have := heap_setCell_same w b 2 _ _ (.bool bad') h
  unfold CutAt
  simpa using this
theorem CutAt.setPlace {w : World} {b : Nat} {s : ByteArray} {p : Int} {bad : Bool} (h : CutAt w b s p bad) (p' : Int) : CutAt (w.setCell ⟨b, 1, none⟩ (.int .i64 p')) b s p' bad := by
  have := heap_setCell_same w b 1 _ _ (.int .i64 p') h
  unfold CutAt
  simpa using this

set_option maxRecDepth 100000 in
set_option maxHeartbeats 4000000 in
theorem cutNumber_c (b : Nat) (s : ByteArray) (p : Int) (bad : Bool) (w : World) (hc : CutAt w b s p bad) (hs : s.size ≤ 1000000) :
    Calls Try.prog 49 #[.pointer (some ⟨b, 0, none⟩)] w fun e w' => e = .returned (.int .i64 (anNum (rdAt s p))) ∧
      CutAt w' b s (if (rdAt s p).isSome then anPlace (rdAt s p) else p) (bad || !(rdAt s p).isSome) ∧ w.grownBy w' (some b) := by
  obtain ⟨c0, c1, c2⟩ := hc.cells
  have HC := Lib.hid hc
  clear hc
  obtain ⟨o, ho⟩ : ∃ o, rdAt s p = o := ⟨_, rfl⟩
  rw [ho]
  have HO := Lib.hid ho
  clear ho
  rcases o with _ | ⟨x, q⟩
  · go_enter Try.func49, Try.ntmps49
    go_wp2_with (fail)
    go_region_law (go_simp; go_at_call 57; refine (refReadNumberT s p _ hs).mono ?_; rintro e w2 ⟨rfl, hB2⟩; rw [HO.out]; simp [anNum, anPlace])
    all_goals
      rename_i Q' K hK
      have hc2 := (CutAt.below (w := w) HC.out ⟨hB2.os, hB2.tape, hB2.output, hB2.size, hB2.block⟩)
      have hG := Lib.hid (only_of_below (a := w) (w := w2) ⟨hB2.os, hB2.tape, hB2.output, hB2.size, hB2.block⟩ (some b))
      refine hK _ _ ?_
      clear hK K hB2 c0 c1 c2
      obtain ⟨c0, c1, c2⟩ := hc2.cells
      have hf := hc2.frozen 2
      have hc3 := Lib.hid (hc2.setBad true)
      clear hc2
      rcases bad with _ | _
      all_goals
        go_wp2_with (fail)
        go_ret
        exact ⟨rfl, hc3.out, only_trans_row hG.out (grown_set _ b 2 _)⟩
  · go_enter Try.func49, Try.ntmps49
    go_wp2_with (fail)
    go_region_law (go_simp; go_at_call 57; refine (refReadNumberT s p _ hs).mono ?_; rintro e w2 ⟨rfl, hB2⟩; rw [HO.out]; simp [anNum, anPlace])
    all_goals
      rename_i Q' K hK
      have hc2 := (CutAt.below (w := w) HC.out ⟨hB2.os, hB2.tape, hB2.output, hB2.size, hB2.block⟩)
      have hG := Lib.hid (only_of_below (a := w) (w := w2) ⟨hB2.os, hB2.tape, hB2.output, hB2.size, hB2.block⟩ (some b))
      refine hK _ _ ?_
      clear hK K hB2 c0 c1 c2
      obtain ⟨c0, c1, c2⟩ := hc2.cells
      have hf := hc2.frozen 2
      have hf1 := hc2.frozen 1
      have hc3 := Lib.hid ((hc2.setBad bad).setPlace q)
      clear hc2
      rcases bad with _ | _
      all_goals
        go_wp2_with (fail)
        go_ret
        exact ⟨rfl, by simpa [anPlace] using hc3.out, only_trans_row (only_trans_row hG.out (grown_set _ b 2 _)) (grown_set _ b 1 _)⟩

set_option maxRecDepth 100000 in
set_option maxHeartbeats 4000000 in
theorem cutText_c (b : Nat) (s : ByteArray) (p : Int) (bad : Bool) (w : World) (hc : CutAt w b s p bad) (hs : s.size ≤ 1000000) :
    Calls Try.prog 50 #[.pointer (some ⟨b, 0, none⟩)] w fun e w' => e = .returned (.string (anText (rdText s p))) ∧
      CutAt w' b s (if (rdText s p).isSome then anPlace (rdText s p) else p) (bad || !(rdText s p).isSome) ∧ w.grownBy w' (some b) := by
  obtain ⟨c0, c1, c2⟩ := hc.cells
  have HC := Lib.hid hc
  clear hc
  obtain ⟨o, ho⟩ : ∃ o, rdText s p = o := ⟨_, rfl⟩
  rw [ho]
  have HO := Lib.hid ho
  clear ho
  rcases o with _ | ⟨x, q⟩
  · go_enter Try.func50, Try.ntmps50
    go_wp2_with (fail)
    go_region_law (go_simp; go_at_call 90; refine (refReadTextT s p _ hs).mono ?_; rintro e w2 ⟨rfl, hB2⟩; rw [HO.out]; simp [anText, anPlace])
    all_goals
      rename_i Q' K hK
      have hc2 := (CutAt.below (w := w) HC.out ⟨hB2.os, hB2.tape, hB2.output, hB2.size, hB2.block⟩)
      have hG := Lib.hid (only_of_below (a := w) (w := w2) ⟨hB2.os, hB2.tape, hB2.output, hB2.size, hB2.block⟩ (some b))
      refine hK _ _ ?_
      clear hK K hB2 c0 c1 c2
      obtain ⟨c0, c1, c2⟩ := hc2.cells
      have hf := hc2.frozen 2
      have hc3 := Lib.hid (hc2.setBad true)
      clear hc2
      rcases bad with _ | _
      all_goals
        go_wp2_with (fail)
        go_ret
        exact ⟨rfl, hc3.out, only_trans_row hG.out (grown_set _ b 2 _)⟩
  · go_enter Try.func50, Try.ntmps50
    go_wp2_with (fail)
    go_region_law (go_simp; go_at_call 90; refine (refReadTextT s p _ hs).mono ?_; rintro e w2 ⟨rfl, hB2⟩; rw [HO.out]; simp [anText, anPlace])
    all_goals
      rename_i Q' K hK
      have hc2 := (CutAt.below (w := w) HC.out ⟨hB2.os, hB2.tape, hB2.output, hB2.size, hB2.block⟩)
      have hG := Lib.hid (only_of_below (a := w) (w := w2) ⟨hB2.os, hB2.tape, hB2.output, hB2.size, hB2.block⟩ (some b))
      refine hK _ _ ?_
      clear hK K hB2 c0 c1 c2
      obtain ⟨c0, c1, c2⟩ := hc2.cells
      have hf := hc2.frozen 2
      have hf1 := hc2.frozen 1
      have hc3 := Lib.hid ((hc2.setBad bad).setPlace q)
      clear hc2
      rcases bad with _ | _
      all_goals
        go_wp2_with (fail)
        go_ret
        exact ⟨rfl, by simpa [anPlace] using hc3.out, only_trans_row (only_trans_row hG.out (grown_set _ b 2 _)) (grown_set _ b 1 _)⟩

end Go.Proofs.Ytmnjlhifjjainaa
