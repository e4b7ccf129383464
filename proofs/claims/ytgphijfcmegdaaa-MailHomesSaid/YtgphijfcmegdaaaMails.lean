/-
  The document's rows of chapter 16: mails.
-/
import Derived.Test.YtgphijfcmegdaaaMailBack
import Derived.Test.YtgphijfcmegdaaaMailParseR
import Derived.Test.YtgphijfcmegdaaaMailSplit0
namespace Go.Proofs.Ytgphijfcmegdaaa
open Go.RowKit

def row3 : List Msg := [⟨0, 0, 5, 3⟩, ⟨0, 0, 2, 9⟩, ⟨0, 0, 5, 1⟩]
def want2 : List Msg := [⟨0, 0, 2, 9⟩, ⟨0, 0, 5, 1⟩]
theorem comb3 : combine row3 = want2 := by
  simp [combine, row3, want2, putM, kless, kEq]
  rfl
theorem want_may : allMay want2 := by
  intro m hm
  simp [want2] at hm
  rcases hm with rfl | rfl <;> (unfold mayM mayK; simp)
theorem want_bytes : printS want2 = ⟨#[2, 0, 0, 2, 9, 0, 0, 5, 1]⟩ := by
  unfold printS
  rw [if_pos ⟨by simp [want2], want_may⟩]
  have h : printB want2 = [2, 0, 0, 2, 9, 0, 0, 5, 1] := by decide
  rw [h]
theorem empty_none : parseO ⟨#[]⟩ = none := parseO_none rfl
theorem reads_mlit (w : World) (ms : List Msg) (e : TypeId) : Reads (w.alloc (.cells (mv ms).toArray e)) (w.heap.size + 1) 4 (some ⟨w.heap.size, 0, none⟩) ms.length (mv ms) := by
  have h : (w.alloc (.cells (mv ms).toArray e)).heap[w.heap.size]? = some (.cells (mv ms).toArray e (0, 0)) := Array.getElem?_push_size
  refine ⟨by rw [mv_len], fun _ => ⟨_, _, rfl, by omega, fun j u hu => ?_⟩⟩
  rw [Lib.cell_of_heap h, Nat.zero_add]
  simpa using hu

theorem want_err : printErr want2 = 0 := by
  unfold printErr
  rw [if_neg (by simp [want2]), if_pos want_may]
theorem want_parse : parseL ⟨#[2, 0, 0, 2, 9, 0, 0, 5, 1]⟩ = want2 ∧ parseErr ⟨#[2, 0, 0, 2, 9, 0, 0, 5, 1]⟩ = 0 := by
  rw [← want_bytes]
  exact parse_some (parse_back (by simp [want2]) want_may)
theorem want_same : decide (want2 = want2) = true := decide_eq_true rfl
theorem row3_fits : ∀ m ∈ row3, m.fits := by
  intro m hm
  simp [row3] at hm
  rcases hm with rfl | rfl | rfl <;> (unfold Msg.fits; decide)

set_option maxRecDepth 100000 in
set_option maxHeartbeats 4000000 in
theorem mails_c (w : World) : Calls Try.prog 24 #[] w fun e w' => e = .returned (.bool true) ∧ Below w.heap.size w w' := by
  go_enter Try.func24, Try.ntmps24
  go_wp2_with (fail)
  have hr3 := (reads_mlit w row3 31).more (B' := (w.alloc (.cells (mv row3).toArray 31)).heap.size) (by simp)
  refine (combine_c (some ⟨w.heap.size, 0, none⟩) 3 3 row3 (w.alloc (.cells (mv row3).toArray 31)) hr3 (by omega) row3_fits).mono ?_
  rintro e w1 ⟨A1, n1, c1, rfl, hl1, ho1, hB1⟩
  rw [comb3] at ho1 hl1
  obtain rfl : n1 = 2 := by rw [← hl1]; rfl
  have hB := (below_one w (.cells (mv row3).toArray 31)).trans (hB1.mono (by simp))
  have ho1 := own_more (base := w.heap.size) ho1 (by simp)
  clear hr3 hl1 hB1
  go_wp2_with (fail)
  have hw0 := (reads_mlit w1 want2 31).more (B' := (w1.alloc (.cells (mv want2).toArray 31)).heap.size) (by simp)
  have ho2 := own_below ho1 (below_one w1 (.cells (mv want2).toArray 31))
  have hBw := hB.trans ((below_one w1 (.cells (mv want2).toArray 31)).mono hB.size)
  change Calls _ _ _ (w1.alloc (.cells (mv want2).toArray 31)) _
  generalize w1.alloc (.cells (mv want2).toArray 31) = w2 at hw0 ho2 hBw ⊢
  generalize w1.heap.size = b at hw0 ⊢
  have hw : Reads w2 w2.heap.size 4 (some ⟨b, 0, none⟩) 2 (mv want2) := hw0
  clear hw0 ho1 hB
  refine (print_c _ 2 2 want2 _ hw (by decide)).mono ?_
  rintro e w3 ⟨rfl, hB3⟩
  rw [want_bytes, want_err]
  have hw3 := (hw.below hB3).more hB3.size
  have ho3 := own_below ho2 hB3
  have hB := hBw.trans (hB3.mono hBw.size)
  clear hw ho2 hBw hB3
  go_wp2_with (fail)
  refine (parse_c _ _ (by decide)).mono ?_
  rintro e w4 ⟨A4, c4, rfl, ho4, hB4⟩
  rw [want_parse.1] at ho4 ⊢
  rw [want_parse.2]
  have hw4 := (hw3.below hB4).more hB4.size
  have ho1 := own_below ho3 hB4
  have ho4 := own_more (base := w.heap.size) ho4 hB.size
  have hb := hB.trans (hB4.mono hB.size)
  clear hw3 ho3 hB hB4
  go_wp2_with (fail)
  refine (parse_c _ _ (by decide)).mono ?_
  rintro e w5 ⟨A5, c5, rfl, ho5, hB5⟩
  rw [(parse_none empty_none).1, (parse_none empty_none).2]
  have hw5 := (hw4.below hB5).more hB5.size
  have ho1 := own_below ho1 hB5
  have ho4 := own_below ho4 hB5
  have hB := hb.trans (hB5.mono hb.size)
  clear hw4 hb hB5 ho5
  go_wp2_with (fail)
  refine (split_no _ 2 2 0 want2 _ hw5 (by decide) (fun h => by have := h.1.1; omega)).mono ?_
  rintro e w6 ⟨rfl, hB6⟩
  have hw6 := (hw5.below hB6).more hB6.size
  have ho1 := own_below ho1 hB6
  have ho4 := own_below ho4 hB6
  have hb := hB.trans (hB6.mono hB.size)
  clear hw5 hB hB6
  go_wp2_with (fail)
  refine (same16_c _ _ 2 2 _ _ want2 want2 _ (own_reads ho1) hw6 (by decide) (by decide)).mono ?_
  rintro e w7 ⟨rfl, hB7⟩
  rw [want_same]
  have hw7 := (hw6.below hB7).more hB7.size
  have ho4 := own_below ho4 hB7
  have hB := hb.trans (hB7.mono hb.size)
  clear hw6 ho1 hb hB7
  go_wp2_with (fail)
  refine (same16_c _ _ 2 2 _ _ want2 want2 _ (own_reads ho4) hw7 (by decide) (by decide)).mono ?_
  rintro e w8 ⟨rfl, hB8⟩
  rw [want_same]
  have hw8 := (hw7.below hB8).more hB8.size
  have hb := hB.trans (hB8.mono hB.size)
  clear hw7 ho4 hB hB8
  go_wp2_with (fail)
  refine (check_c _ 2 2 want2 _ hw8 (by decide)).mono ?_
  rintro e w9 ⟨rfl, hB9⟩
  rw [decide_eq_true want_may]
  have hB := hb.trans (hB9.mono hb.size)
  go_wp2_with (fail)
  go_ret
  exact ⟨rfl, hB⟩
end Go.Proofs.Ytgphijfcmegdaaa
