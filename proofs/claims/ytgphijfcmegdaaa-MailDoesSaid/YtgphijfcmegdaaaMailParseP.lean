/-
  Parse of messages: the walk of the program.
-/
import Derived.Test.YtgphijfcmegdaaaMailParse
namespace Go.Proofs.Ytgphijfcmegdaaa
open Go.RowKit

/-- The four cells, so many of them read. -/
def arr4 (xs : List Int) : Array Value := #[.int .i64 (xs.getD 0 0), .int .i64 (xs.getD 1 0), .int .i64 (xs.getD 2 0), .int .i64 (xs.getD 3 0)]
theorem arr4_set {xs : List Int} {j : Nat} (h : xs.length = j) (hj : j < 4) (x : Int) : (arr4 xs).setIfInBounds j (.int .i64 x) = arr4 (xs ++ [x]) := by
  have h4 : j = 0 ∨ j = 1 ∨ j = 2 ∨ j = 3 := by omega
  rcases h4 with rfl | rfl | rfl | rfl
  · match xs, h with
    | [], _ => rfl
  · match xs, h with
    | [a], _ => rfl
  · match xs, h with
    | [a, b], _ => rfl
  · match xs, h with
    | [a, b, c], _ => rfl
theorem arr4_cells {w : World} {b : Nat} {xs : List Int} (h : w.heap[b]? = some (.cells (arr4 xs) 79 (0, 0))) :
    w.cell? ⟨b, 0, none⟩ = some (.int .i64 (xs.getD 0 0)) ∧ w.cell? ⟨b, 1, none⟩ = some (.int .i64 (xs.getD 1 0)) ∧ w.cell? ⟨b, 2, none⟩ = some (.int .i64 (xs.getD 2 0)) ∧ w.cell? ⟨b, 3, none⟩ = some (.int .i64 (xs.getD 3 0)) := by
  refine ⟨?_, ?_, ?_, ?_⟩ <;> · rw [Lib.cell_of_heap h]; rfl

set_option maxRecDepth 100000 in
set_option maxHeartbeats 4000000 in
theorem parse_c (s : ByteArray) (w : World) (hs : s.size ≤ 1000000) :
    Calls Try.prog 25 #[.string s] w fun e w' => ∃ A c, e = .returned (.tuple #[.slice A (parseL s).length c, .int .i64 (parseErr s)]) ∧ w'.ownsRow w.heap.size 31 4 (.slice A (parseL s).length c) (parseL s).length (mv (parseL s)) ∧ Below w.heap.size w w' := by
  go_enter Try.func25, Try.ntmps25
  go_wp2_with (fail)
  refine (readNumberT s 0 _ hs).mono ?_
  rintro e w1 ⟨rfl, hB1⟩
  rcases h1 : rdAt s 0 with _ | ⟨n, q⟩
  · have H0 := Lib.hid (parse_none (parseO_none h1))
    clear h1
    simp only [anNum, anPlace, Option.isSome]
    go_wp2_with (fail)
    go_ret2
    obtain ⟨e1, e2⟩ := H0.out
    rw [e1, e2]
    exact ⟨none, 0, rfl, own_nil, hB1⟩
  · simp only [anNum, anPlace, Option.isSome]
    by_cases hn : n ≤ 1000
    · have H1 := Lib.hid h1
      clear h1
      go_wp2_with (fail)
      go_loopw [5, 7, 23] (fun pl l i wr => ∃ (k p : Nat) (ms : List Msg) (A : Option Addr) (c : Nat), k ≤ n ∧ i = .int .i64 k ∧ pl = .int .i64 p ∧ l = .slice A k c ∧ Hid (ms.length = k) ∧ Hid (rdMsgs s k q = some (ms, p)) ∧
          wr.ownsRow w.heap.size 31 4 (.slice A k c) k (mv ms) ∧ Below w.heap.size w wr) (fun _ _ i _ => n - (intOf i).toNat)
      case atStart => exact ⟨0, q, [], none, 0, Nat.zero_le _, rfl, rfl, rfl, rfl, rfl, own_nil, hB1⟩
      case round =>
        clear hB1
        obtain ⟨k, p, ms, A, c, hk, rfl, rfl, rfl, hms, hrd, ho, hB⟩ := hrel
        by_cases hlt : k < n
        · go_wp2_with (fail)
          have hbx : (wr.alloc (.cells #[.int .i64 0, .int .i64 0, .int .i64 0, .int .i64 0] 79)).heap[wr.heap.size]? = some (.cells (arr4 []) 79 (0, 0)) := Array.getElem?_push_size
          have hoA := ho.alloc (.cells #[.int .i64 0, .int .i64 0, .int .i64 0, .int .i64 0] 79)
          have hBA := hB.alloc hB.size (.cells #[.int .i64 0, .int .i64 0, .int .i64 0, .int .i64 0] 79)
          have hblk : Hid (∀ a, A = some a → a.block < wr.heap.size) := fun a ha => (own_lt ho a ha).2
          have hbw := hB.size
          generalize wr.heap.size = b at hbx hblk hbw ⊢
          generalize wr.alloc (.cells #[.int .i64 0, .int .i64 0, .int .i64 0, .int .i64 0] 79) = wa at hbx hoA hBA ⊢
          clear ho hB
          go_loopw [5, 25] (fun pl i wq => ∃ (j p' : Nat) (xs : List Int), j ≤ 4 ∧ i = .int .i64 j ∧ pl = .int .i64 p' ∧ Hid (xs.length = j) ∧ Hid (rdInts s j p = some (xs, p')) ∧ wq.heap[b]? = some (.cells (arr4 xs) 79 (0, 0)) ∧
              wq.ownsRow w.heap.size 31 4 (.slice A k c) k (mv ms) ∧ Below w.heap.size w wq) (fun _ i _ => 4 - (intOf i).toNat)
          case atStart => exact ⟨0, p, [], Nat.zero_le _, rfl, rfl, rfl, rfl, hbx, hoA, hBA⟩
          case round =>
            clear hbx hoA hBA
            obtain ⟨j, p', xs, hj, rfl, rfl, hxs, hri, hbq, ho, hB⟩ := hrel
            by_cases hlt2 : j < 4
            · go_wp2_with (fail)
              refine (readNumberT s p' _ hs).mono ?_
              rintro e w2 ⟨rfl, hB2⟩
              have hb2 := (hB2.block _ (Array.getElem?_eq_some_iff.1 hbq).1).trans hbq
              have ho2 := own_below ho hB2
              have hBB := hB.trans (hB2.mono hB.size)
              clear hbq ho hB hB2
              rcases h2 : rdAt s p' with _ | ⟨x, p2⟩
              · have H0 := Lib.hid (parse_none (parseO_short H1.out hn (rdMsgs_stop hrd.out (rdInts_stop hri.out h2 hlt2) hlt)))
                clear h2
                simp only [anNum, anPlace, Option.isSome]
                have hf : w2.frozen? ⟨b, j, none⟩ = false := Lib.frozen_of_heap hb2 j
                have hc : ∃ v, w2.cell? ⟨b, j, none⟩ = some v := by
                  rw [Lib.cell_of_heap hb2]
                  exact ⟨_, Array.getElem?_eq_getElem (by simpa [arr4] using hlt2)⟩
                obtain ⟨v, hc⟩ := hc
                go_wp2_with (fail)
                go_ret2
                obtain ⟨e1, e2⟩ := H0.out
                rw [e1, e2]
                first
                  | exact ⟨none, 0, rfl, own_nil, hBB.setCell hbw _⟩
                  | exact ⟨none, 0, rfl, own_nil, hBB⟩
              · simp only [anNum, anPlace, Option.isSome]
                have hri2 := Lib.hid (rdInts_more hri.out h2)
                have H2 := Lib.hid h2
                clear h2
                have hf : w2.frozen? ⟨b, j, none⟩ = false := Lib.frozen_of_heap hb2 j
                have hc : ∃ v, w2.cell? ⟨b, j, none⟩ = some v := by
                  rw [Lib.cell_of_heap hb2]
                  exact ⟨_, Array.getElem?_eq_getElem (by simpa [arr4] using hlt2)⟩
                obtain ⟨v, hc⟩ := hc
                have hb3 : (w2.setCell ⟨b, j, none⟩ (.int .i64 (x : Int))).heap[b]? = some (.cells (arr4 (xs ++ [(x : Int)])) 79 (0, 0)) := by
                  have := heap_setCell_same w2 b j _ _ (.int .i64 (x : Int)) hb2
                  rw [← arr4_set hxs.out hlt2]
                  simpa using this
                have HB3 := Lib.hid hb3
                clear hb3
                go_wp2_with (fail)
                go_roundw
                case rel => exact ⟨j + 1, p2, xs ++ [(x : Int)], by omega, by go_num, rfl, by show _ = _; simp [hxs.out], hri2.out, HB3.out, own_only ho2 (grown_set _ b j _) (fun a ha e => by have := hblk.out a ha; injection e; omega), hBB.setCell hbw _⟩
                case measure => simp [intOf]; omega
            · obtain rfl : j = 4 := by omega
              obtain ⟨c0, c1, c2, c3⟩ := arr4_cells hbq
              have hrd2 := Lib.hid (rdMsgs_more hrd.out hri.out)
              have hsz := hB.size
              go_wp2_with (at_builtin; go_must (refine wpList_push elMail rfl _ _ rfl ho rfl _ rfl rfl (mc_one (msgOf xs)) (by unfold maxLen; omega) (by omega) hsz ?_; intro A4 c4 w4 ho4 p4))
              go_roundw
              case rel =>
                refine ⟨k + 1, p', ms ++ [msgOf xs], A4, c4, by omega, by go_num, rfl, rfl, by show _ = _; simp [hms.out], hrd2.out, ?_, p4.below ho hB (Nat.le_refl _) hsz⟩
                rw [mv_append, show mv [msgOf xs] = mc (msgOf xs) by simp [mv]]
                exact ho4
              case measure => simp [intOf]; omega
        · obtain rfl : k = n := by omega
          by_cases hp : p = s.size
          · have hp' : (p : Int) = (s.size : Int) := by omega
            have HP := Lib.hid hp
            clear hp
            go_wp2_with (fail)
            refine (check_c A k c ms _ (own_reads ho) (by unfold maxLen; omega)).mono ?_
            rintro e w5 ⟨rfl, hB5⟩
            have ho5 := own_below ho hB5
            have hBB := hB.trans (hB5.mono hB.size)
            by_cases hm : allMay ms
            · obtain ⟨e1, e2⟩ := parse_some (parseO_some H1.out hn hrd.out ⟨HP.out, hm⟩)
              have E1 := Lib.hid e1
              have E2 := Lib.hid e2
              clear e1 e2
              rw [decide_eq_true hm]
              clear hm
              go_wp2_with (fail)
              go_ret2
              rw [E1.out, E2.out, hms.out]
              exact ⟨A, c, rfl, ho5, hBB⟩
            · obtain ⟨e1, e2⟩ := parse_none (parseO_bad H1.out hn hrd.out (fun h => hm h.2))
              have E1 := Lib.hid e1
              have E2 := Lib.hid e2
              clear e1 e2
              rw [decide_eq_false hm]
              clear hm
              go_wp2_with (fail)
              go_ret2
              rw [E1.out, E2.out]
              exact ⟨none, 0, rfl, own_nil, hBB⟩
          · obtain ⟨e1, e2⟩ := parse_none (parseO_bad H1.out hn hrd.out (fun h => hp h.1))
            have E1 := Lib.hid e1
            have E2 := Lib.hid e2
            clear e1 e2
            have hp' : ¬ (p : Int) = (s.size : Int) := by omega
            clear hp
            go_wp2_with (fail)
            go_ret2
            rw [E1.out, E2.out]
            exact ⟨none, 0, rfl, own_nil, hB⟩
    · have H0 := Lib.hid (parse_none (parseO_many h1 hn))
      clear h1
      go_wp2_with (fail)
      go_ret2
      obtain ⟨e1, e2⟩ := H0.out
      rw [e1, e2]
      exact ⟨none, 0, rfl, own_nil, hB1⟩
end Go.Proofs.Ytgphijfcmegdaaa
