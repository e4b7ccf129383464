/-
  Parse of messages: what is read, plainly.
  Parse of messages: the walk of the program.
  What is printed is parsed as it: plain laws.
  'carried' of the laws over layers: the walk.
  'walked' of the laws over layers: the walk; and 'few' and 'short'.
-/
import Derived.Test.YtichoidkemeibaaGreatJ28
import Derived.Test.YtichoidkemeibaaGreatJ08
import Derived.Test.YtichoidkemeibaaGreatJ13
import Derived.Test.YtichoidkemeibaaGreatJ26
import Derived.Test.YtichoidkemeibaaGreatJ27
namespace Go.Proofs.YtichoidkemeibaaGreat
open Go.RowKit

/-- So many numbers, one behind the other (the last one read last). -/
def rdInts (s : ByteArray) : Nat → Nat → Option (List Int × Nat)
  | 0, q => some ([], q)
  | k + 1, q => match rdInts s k q with
    | some (xs, p) => match rdAt s p with
      | some (x, p') => some (xs ++ [(x : Int)], p')
      | none => none
    | none => none

/-- A message of four numbers. -/
def msgOf (xs : List Int) : Msg := ⟨xs.getD 0 0, xs.getD 1 0, xs.getD 2 0, xs.getD 3 0⟩

/-- So many messages. -/
def rdMsgs (s : ByteArray) : Nat → Nat → Option (List Msg × Nat)
  | 0, q => some ([], q)
  | k + 1, q => match rdMsgs s k q with
    | some (l, p) => match rdInts s 4 p with
      | some (xs, p') => some (l ++ [msgOf xs], p')
      | none => none
    | none => none

theorem rdInts_none {s : ByteArray} {k q : Nat} (h : rdInts s k q = none) : ∀ n, k ≤ n → rdInts s n q = none := by
  intro n hn
  induction hn with
  | refl => exact h
  | step _ ih => simp only [rdInts, ih]
theorem rdMsgs_none {s : ByteArray} {k q : Nat} (h : rdMsgs s k q = none) : ∀ n, k ≤ n → rdMsgs s n q = none := by
  intro n hn
  induction hn with
  | refl => exact h
  | step _ ih => simp only [rdMsgs, ih]

theorem rdInts_more {s : ByteArray} {j q p p2 x : Nat} {xs : List Int} (h : rdInts s j q = some (xs, p)) (h2 : rdAt s p = some (x, p2)) : rdInts s (j + 1) q = some (xs ++ [(x : Int)], p2) := by
  simp only [rdInts, h, h2]
theorem rdInts_stop {s : ByteArray} {j q p : Nat} {xs : List Int} (h : rdInts s j q = some (xs, p)) (h2 : rdAt s p = none) (hj : j < 4) : rdInts s 4 q = none :=
  rdInts_none (k := j + 1) (by simp only [rdInts, h, h2]) 4 (by omega)
theorem rdMsgs_more {s : ByteArray} {k q p p2 : Nat} {l : List Msg} {xs : List Int} (h : rdMsgs s k q = some (l, p)) (h2 : rdInts s 4 p = some (xs, p2)) : rdMsgs s (k + 1) q = some (l ++ [msgOf xs], p2) := by
  simp only [rdMsgs, h, h2]
theorem rdMsgs_stop {s : ByteArray} {k q p n : Nat} {l : List Msg} (h : rdMsgs s k q = some (l, p)) (h2 : rdInts s 4 p = none) (hk : k < n) : rdMsgs s n q = none :=
  rdMsgs_none (k := k + 1) (by simp only [rdMsgs, h, h2]) n (by omega)

theorem rdInts_len {s : ByteArray} : ∀ {k q : Nat} {xs : List Int} {p : Nat}, rdInts s k q = some (xs, p) → xs.length = k
  | 0, q, xs, p, h => by simp [rdInts] at h; rw [h.1]; rfl
  | k + 1, q, xs, p, h => by
    simp only [rdInts] at h
    split at h
    · rename_i ys p1 h1
      split at h
      · rename_i x p2 h2
        injection h with h
        injection h with h3 h4
        rw [← h3]
        simp [rdInts_len h1]
      · cases h
    · cases h

theorem rdInts_same {s : ByteArray} : ∀ {k q : Nat} {xs : List Int} {p : Nat}, rdInts s k q = some (xs, p) → q ≤ s.size → q ≤ p ∧ p ≤ s.size ∧ layB xs = (s.data.toList.drop q).take (p - q) ∧ ∀ x ∈ xs, good x
  | 0, q, xs, p, h, hq => by
    simp [rdInts] at h
    obtain ⟨rfl, rfl⟩ := h
    exact ⟨Nat.le_refl _, hq, by simp [layB], fun x hx => by simp at hx⟩
  | k + 1, q, xs, p, h, hq => by
    simp only [rdInts] at h
    split at h
    · rename_i ys p1 h1
      split at h
      · rename_i x p2 h2
        injection h with h
        injection h with h3 h4
        subst h3 h4
        obtain ⟨i1, i2, i3, i4⟩ := rdInts_same h1 hq
        obtain ⟨a1, a2, a3, a4, a5⟩ := rdAt_same h2
        rw [Int.toNat_natCast] at a5
        have hp : p1 ≤ p2 := by omega
        have e1 : (numStr x).data.toList = (s.data.toList.drop p1).take (p2 - p1) := by
          rw [a5, ← extract_data, show p1 + (p2 - p1) = p2 by omega]
        refine ⟨by omega, a3, ?_, fun y hy => ?_⟩
        · rw [layB_snoc, i3, e1, show p2 - q = (p1 - q) + (p2 - p1) by omega, List.take_add, List.drop_drop, show q + (p1 - q) = p1 by omega]
        · rcases List.mem_append.1 hy with hy | hy
          · exact i4 y hy
          · simp at hy; subst hy; exact a4
      · cases h
    · cases h

theorem layB_msg {xs : List Int} (h : xs.length = 4) : msgB (msgOf xs) = layB xs := by
  match xs, h with
  | [a, b, c, d], _ => rfl

theorem rdMsgs_same {s : ByteArray} : ∀ {k q : Nat} {l : List Msg} {p : Nat}, rdMsgs s k q = some (l, p) → q ≤ s.size → l.length = k ∧ q ≤ p ∧ p ≤ s.size ∧ msgsB l = (s.data.toList.drop q).take (p - q)
  | 0, q, l, p, h, hq => by
    simp [rdMsgs] at h
    obtain ⟨rfl, rfl⟩ := h
    exact ⟨rfl, Nat.le_refl _, hq, by simp [msgsB]⟩
  | k + 1, q, l, p, h, hq => by
    simp only [rdMsgs] at h
    split at h
    · rename_i l1 p1 h1
      split at h
      · rename_i xs p2 h2
        injection h with h
        injection h with h3 h4
        subst h3 h4
        obtain ⟨i0, i1, i2, i3⟩ := rdMsgs_same h1 hq
        obtain ⟨a1, a2, a3, a4⟩ := rdInts_same h2 i2
        refine ⟨by simp [i0], by omega, a2, ?_⟩
        rw [msgsB_snoc, layB_msg (rdInts_len h2), i3, a3, show p2 - q = (p1 - q) + (p2 - p1) by omega, List.take_add, List.drop_drop, show q + (p1 - q) = p1 by omega]
      · cases h
    · cases h

/-- What the bytes are: messages, or none. -/
def parseO (s : ByteArray) : Option (List Msg) :=
  match rdAt s 0 with
  | some (n, q) => if n ≤ 1000 then (match rdMsgs s n q with
    | some (l, e) => if e = s.size ∧ allMay l then some l else none
    | none => none) else none
  | none => none
def parseL (s : ByteArray) : List Msg := (parseO s).getD []
def parseErr (s : ByteArray) : Int := if (parseO s).isSome then 0 else 220

theorem parse_same {s : ByteArray} {n q e : Nat} {l : List Msg} (h1 : rdAt s 0 = some (n, q)) (h2 : n ≤ 1000) (h3 : rdMsgs s n q = some (l, e)) :
    (printErr l = 0 ∧ printS l = s) ↔ (e = s.size ∧ allMay l) := by
  obtain ⟨-, a2, a3, a4, a5⟩ := rdAt_same h1
  obtain ⟨i0, i1, i2, i3⟩ := rdMsgs_same h3 a3
  have hp : allMay l → (printS l).data.toList = s.data.toList.take e := fun hm => by
    unfold printS
    rw [if_pos ⟨by omega, hm⟩]
    unfold printB
    rw [i0, i3]
    have e1 : layB [(n : Int)] = s.data.toList.take q := by
      have : layB [(n : Int)] = (numStr n).data.toList := by simp [layB]
      rw [this, a5]
      have := extract_data s 0 q
      rw [Nat.zero_add, List.drop_zero] at this
      exact this
    rw [e1]
    show s.data.toList.take q ++ (s.data.toList.drop q).take (e - q) = _
    rw [show e = q + (e - q) by omega, List.take_add, show q + (e - q) - q = e - q by omega]
  constructor
  · rintro ⟨p1, p2⟩
    have hm : allMay l := by
      unfold printErr at p1
      rw [if_neg (by omega)] at p1
      split at p1
      · assumption
      · omega
    have := hp hm
    rw [p2] at this
    have hl := congrArg List.length this
    rw [List.length_take, size_list] at hl
    exact ⟨by omega, hm⟩
  · rintro ⟨p1, hm⟩
    refine ⟨by unfold printErr; rw [if_neg (by omega), if_pos hm], bytes_ext ?_⟩
    rw [hp hm, p1, ← size_list, List.take_length]

theorem parseO_some {s : ByteArray} {n q e : Nat} {l : List Msg} (h1 : rdAt s 0 = some (n, q)) (h2 : n ≤ 1000) (h3 : rdMsgs s n q = some (l, e)) (h4 : e = s.size ∧ allMay l) : parseO s = some l := by
  unfold parseO
  simp only [h1, if_pos h2, h3, if_pos h4]
theorem parseO_bad {s : ByteArray} {n q e : Nat} {l : List Msg} (h1 : rdAt s 0 = some (n, q)) (h2 : n ≤ 1000) (h3 : rdMsgs s n q = some (l, e)) (h4 : ¬ (e = s.size ∧ allMay l)) : parseO s = none := by
  unfold parseO
  simp only [h1, if_pos h2, h3, if_neg h4]
theorem parseO_many {s : ByteArray} {n q : Nat} (h1 : rdAt s 0 = some (n, q)) (h2 : ¬ n ≤ 1000) : parseO s = none := by
  unfold parseO
  simp only [h1, if_neg h2]
theorem parseO_short {s : ByteArray} {n q : Nat} (h1 : rdAt s 0 = some (n, q)) (h2 : n ≤ 1000) (h3 : rdMsgs s n q = none) : parseO s = none := by
  unfold parseO
  simp only [h1, if_pos h2, h3]
theorem parseO_none {s : ByteArray} (h1 : rdAt s 0 = none) : parseO s = none := by
  unfold parseO
  simp only [h1]
theorem parse_none {s : ByteArray} (h : parseO s = none) : parseL s = [] ∧ parseErr s = 220 := by
  unfold parseL parseErr
  rw [h]
  exact ⟨rfl, rfl⟩
theorem parse_some {s : ByteArray} {l : List Msg} (h : parseO s = some l) : parseL s = l ∧ parseErr s = 0 := by
  unfold parseL parseErr
  rw [h]
  exact ⟨rfl, rfl⟩
end Go.Proofs.YtichoidkemeibaaGreat

namespace Go.Proofs.YtichoidkemeibaaGreat
open Go.RowKit

/-- The four cells, so many of them read. -/
def arr4 (xs : List Int) : Array Value := #[.int .i64 (xs.getD 0 0), .int .i64 (xs.getD 1 0), .int .i64 (xs.getD 2 0), .int .i64 (xs.getD 3 0)]
theorem arr4_set {xs : List Int} {j : Nat} (h : xs.length = j) (hj : j < 4) (x : Int) : (arr4 xs).setIfInBounds j (.int .i64 x) = arr4 (xs ++ [x]) := by
  have h4 : j = 0 ∨ j = 1 ∨ j = 2 ∨ j = 3 := by omega
  rcases h4 with rfl | rfl | rfl | rfl
  · match xs, h with
    | [], _ => rfl
  · match xs, h with
    | [a], _ => rfl
  · match xs, h with
    | [a, b], _ => rfl
  · match xs, h with
    | [a, b, c], _ => rfl
theorem arr4_cells {w : World} {b : Nat} {xs : List Int} (h : w.heap[b]? = some (.cells (arr4 xs) 132 (0, 0))) :
    w.cell? ⟨b, 0, none⟩ = some (.int .i64 (xs.getD 0 0)) ∧ w.cell? ⟨b, 1, none⟩ = some (.int .i64 (xs.getD 1 0)) ∧ w.cell? ⟨b, 2, none⟩ = some (.int .i64 (xs.getD 2 0)) ∧ w.cell? ⟨b, 3, none⟩ = some (.int .i64 (xs.getD 3 0)) := by
  refine ⟨?_, ?_, ?_, ?_⟩ <;> · rw [Lib.cell_of_heap h]; rfl

set_option maxRecDepth 100000 in
set_option maxHeartbeats 4000000 in
theorem parse_c (s : ByteArray) (w : World) (hs : s.size ≤ 1000000) :
    Calls Tryz.prog 42 #[.string s] w fun e w' => ∃ A c, e = .returned (.tuple #[.slice A (parseL s).length c, .int .i64 (parseErr s)]) ∧ w'.ownsRow w.heap.size 44 4 (.slice A (parseL s).length c) (parseL s).length (mv (parseL s)) ∧ Below w.heap.size w w' := by
  go_enter Tryz.func42, Tryz.ntmps42
  go_wp2_with (fail)
  refine (readNumberT s 0 _ hs).mono ?_
  rintro e w1 ⟨rfl, hB1⟩
  rcases h1 : rdAt s 0 with _ | ⟨n, q⟩
  · have H0 := Lib.hid (parse_none (parseO_none h1))
    clear h1
    simp only [anNum, anPlace, Option.isSome]
    go_wp2_with (fail)
    go_ret2
    obtain ⟨e1, e2⟩ := H0.out
    rw [e1, e2]
    exact ⟨none, 0, rfl, own_nil, hB1⟩
  · simp only [anNum, anPlace, Option.isSome]
    by_cases hn : n ≤ 1000
    · have H1 := Lib.hid h1
      clear h1
      go_wp2_with (fail)
      go_loopw [5, 7, 23] (fun pl l i wr => ∃ (k p : Nat) (ms : List Msg) (A : Option Addr) (c : Nat), k ≤ n ∧ i = .int .i64 k ∧ pl = .int .i64 p ∧ l = .slice A k c ∧ Hid (ms.length = k) ∧ Hid (rdMsgs s k q = some (ms, p)) ∧
          wr.ownsRow w.heap.size 44 4 (.slice A k c) k (mv ms) ∧ Below w.heap.size w wr) (fun _ _ i _ => n - (intOf i).toNat)
      case atStart => exact ⟨0, q, [], none, 0, Nat.zero_le _, rfl, rfl, rfl, rfl, rfl, own_nil, hB1⟩
      case round =>
        clear hB1
        obtain ⟨k, p, ms, A, c, hk, rfl, rfl, rfl, hms, hrd, ho, hB⟩ := hrel
        by_cases hlt : k < n
        · go_wp2_with (fail)
          have hbx : (wr.alloc (.cells #[.int .i64 0, .int .i64 0, .int .i64 0, .int .i64 0] 132)).heap[wr.heap.size]? = some (.cells (arr4 []) 132 (0, 0)) := Array.getElem?_push_size
          have hoA := ho.alloc (.cells #[.int .i64 0, .int .i64 0, .int .i64 0, .int .i64 0] 132)
          have hBA := hB.alloc hB.size (.cells #[.int .i64 0, .int .i64 0, .int .i64 0, .int .i64 0] 132)
          have hblk : Hid (∀ a, A = some a → a.block < wr.heap.size) := fun a ha => (own_lt ho a ha).2
          have hbw := hB.size
          generalize wr.heap.size = b at hbx hblk hbw ⊢
          generalize wr.alloc (.cells #[.int .i64 0, .int .i64 0, .int .i64 0, .int .i64 0] 132) = wa at hbx hoA hBA ⊢
          clear ho hB
          go_loopw [5, 25] (fun pl i wq => ∃ (j p' : Nat) (xs : List Int), j ≤ 4 ∧ i = .int .i64 j ∧ pl = .int .i64 p' ∧ Hid (xs.length = j) ∧ Hid (rdInts s j p = some (xs, p')) ∧ wq.heap[b]? = some (.cells (arr4 xs) 132 (0, 0)) ∧
              wq.ownsRow w.heap.size 44 4 (.slice A k c) k (mv ms) ∧ Below w.heap.size w wq) (fun _ i _ => 4 - (intOf i).toNat)
          case atStart => exact ⟨0, p, [], Nat.zero_le _, rfl, rfl, rfl, rfl, hbx, hoA, hBA⟩
          case round =>
            clear hbx hoA hBA
            obtain ⟨j, p', xs, hj, rfl, rfl, hxs, hri, hbq, ho, hB⟩ := hrel
            by_cases hlt2 : j < 4
            · go_wp2_with (fail)
              refine (readNumberT s p' _ hs).mono ?_
              rintro e w2 ⟨rfl, hB2⟩
              have hb2 := (hB2.block _ (Array.getElem?_eq_some_iff.1 hbq).1).trans hbq
              have ho2 := own_below ho hB2
              have hBB := hB.trans (hB2.mono hB.size)
              clear hbq ho hB hB2
              rcases h2 : rdAt s p' with _ | ⟨x, p2⟩
              · have H0 := Lib.hid (parse_none (parseO_short H1.out hn (rdMsgs_stop hrd.out (rdInts_stop hri.out h2 hlt2) hlt)))
                clear h2
                simp only [anNum, anPlace, Option.isSome]
                have hf : w2.frozen? ⟨b, j, none⟩ = false := Lib.frozen_of_heap hb2 j
                have hc : ∃ v, w2.cell? ⟨b, j, none⟩ = some v := by
                  rw [Lib.cell_of_heap hb2]
                  exact ⟨_, Array.getElem?_eq_getElem (by simpa [arr4] using hlt2)⟩
                obtain ⟨v, hc⟩ := hc
                go_wp2_with (fail)
                go_ret2
                obtain ⟨e1, e2⟩ := H0.out
                rw [e1, e2]
                first
                  | exact ⟨none, 0, rfl, own_nil, hBB.setCell hbw _⟩
                  | exact ⟨none, 0, rfl, own_nil, hBB⟩
              · simp only [anNum, anPlace, Option.isSome]
                have hri2 := Lib.hid (rdInts_more hri.out h2)
                have H2 := Lib.hid h2
                clear h2
                have hf : w2.frozen? ⟨b, j, none⟩ = false := Lib.frozen_of_heap hb2 j
                have hc : ∃ v, w2.cell? ⟨b, j, none⟩ = some v := by
                  rw [Lib.cell_of_heap hb2]
                  exact ⟨_, Array.getElem?_eq_getElem (by simpa [arr4] using hlt2)⟩
                obtain ⟨v, hc⟩ := hc
                have hb3 : (w2.setCell ⟨b, j, none⟩ (.int .i64 (x : Int))).heap[b]? = some (.cells (arr4 (xs ++ [(x : Int)])) 132 (0, 0)) := by
                  have := heap_setCell_same w2 b j _ _ (.int .i64 (x : Int)) hb2
                  rw [← arr4_set hxs.out hlt2]
                  simpa using this
                have HB3 := Lib.hid hb3
                clear hb3
                go_wp2_with (fail)
                go_roundw
                case rel => exact ⟨j + 1, p2, xs ++ [(x : Int)], by omega, by go_num, rfl, by show _ = _; simp [hxs.out], hri2.out, HB3.out, own_only ho2 (grown_set _ b j _) (fun a ha e => by have := hblk.out a ha; injection e; omega), hBB.setCell hbw _⟩
                case measure => simp [intOf]; omega
            · obtain rfl : j = 4 := by omega
              obtain ⟨c0, c1, c2, c3⟩ := arr4_cells hbq
              have hrd2 := Lib.hid (rdMsgs_more hrd.out hri.out)
              have hsz := hB.size
              go_wp2_with (at_builtin; go_must (refine wpList_push elMail rfl _ _ rfl ho rfl _ rfl rfl (mc_one (msgOf xs)) (by unfold maxLen; omega) (by omega) hsz ?_; intro A4 c4 w4 ho4 p4))
              go_roundw
              case rel =>
                refine ⟨k + 1, p', ms ++ [msgOf xs], A4, c4, by omega, by go_num, rfl, rfl, by show _ = _; simp [hms.out], hrd2.out, ?_, p4.below ho hB (Nat.le_refl _) hsz⟩
                rw [mv_append, show mv [msgOf xs] = mc (msgOf xs) by simp [mv]]
                exact ho4
              case measure => simp [intOf]; omega
        · obtain rfl : k = n := by omega
          by_cases hp : p = s.size
          · have hp' : (p : Int) = (s.size : Int) := by omega
            have HP := Lib.hid hp
            clear hp
            go_wp2_with (fail)
            refine (check_c A k c ms _ (own_reads ho) (by unfold maxLen; omega)).mono ?_
            rintro e w5 ⟨rfl, hB5⟩
            have ho5 := own_below ho hB5
            have hBB := hB.trans (hB5.mono hB.size)
            by_cases hm : allMay ms
            · obtain ⟨e1, e2⟩ := parse_some (parseO_some H1.out hn hrd.out ⟨HP.out, hm⟩)
              have E1 := Lib.hid e1
              have E2 := Lib.hid e2
              clear e1 e2
              rw [decide_eq_true hm]
              clear hm
              go_wp2_with (fail)
              go_ret2
              rw [E1.out, E2.out, hms.out]
              exact ⟨A, c, rfl, ho5, hBB⟩
            · obtain ⟨e1, e2⟩ := parse_none (parseO_bad H1.out hn hrd.out (fun h => hm h.2))
              have E1 := Lib.hid e1
              have E2 := Lib.hid e2
              clear e1 e2
              rw [decide_eq_false hm]
              clear hm
              go_wp2_with (fail)
              go_ret2
              rw [E1.out, E2.out]
              exact ⟨none, 0, rfl, own_nil, hBB⟩
          · obtain ⟨e1, e2⟩ := parse_none (parseO_bad H1.out hn hrd.out (fun h => hp h.1))
            have E1 := Lib.hid e1
            have E2 := Lib.hid e2
            clear e1 e2
            have hp' : ¬ (p : Int) = (s.size : Int) := by omega
            clear hp
            go_wp2_with (fail)
            go_ret2
            rw [E1.out, E2.out]
            exact ⟨none, 0, rfl, own_nil, hB⟩
    · have H0 := Lib.hid (parse_none (parseO_many h1 hn))
      clear h1
      go_wp2_with (fail)
      go_ret2
      obtain ⟨e1, e2⟩ := H0.out
      rw [e1, e2]
      exact ⟨none, 0, rfl, own_nil, hB1⟩
end Go.Proofs.YtichoidkemeibaaGreat

namespace Go.Proofs.YtichoidkemeibaaGreat
open Go.RowKit

theorem layB_good {x : Int} (h : good x) : (numStr x).data.toList = numBytes x.toNat := numStr_list h

theorem snoc_indM {α : Type} {p : List α → Prop} (h0 : p []) (h1 : ∀ l x, p l → p (l ++ [x])) : ∀ l, p l := by
  have key : ∀ (k : Nat) (l : List α), l.length = k → p l := by
    intro k
    induction k with
    | zero => intro l h; rw [List.eq_nil_of_length_eq_zero h]; exact h0
    | succ k ih =>
      intro l h
      have hne : l ≠ [] := fun e => by subst e; simp at h
      rw [← List.dropLast_concat_getLast hne]
      exact h1 _ _ (ih _ (by simp [h]))
  exact fun l => key _ l rfl

theorem rdInts_back {s : ByteArray} {q : Nat} : ∀ (xs : List Int) (r : List UInt8), s.data.toList.drop q = layB xs ++ r → (∀ x ∈ xs, good x) → rdInts s xs.length q = some (xs, q + (layB xs).length) := by
  refine snoc_indM (fun r _ _ => rfl) fun xs x ih r h hg => ?_
  have hx := hg x (by simp)
  rw [layB_snoc, List.append_assoc] at h
  have h1 := ih _ h (fun y hy => hg y (by simp [hy]))
  have hd : s.data.toList.drop (q + (layB xs).length) = numBytes x.toNat ++ r := by
    rw [← List.drop_drop, h, List.drop_left, layB_good hx]
  have h2 := rdAt_back hd (good_max hx)
  rw [List.length_append, List.length_singleton, rdInts_more h1 h2, layB_snoc, List.length_append, layB_good hx, Nat.add_assoc]
  rw [show ((x.toNat : Nat) : Int) = x from Int.toNat_of_nonneg hx.1]

theorem may_good {m : Msg} (h : mayM m) : ∀ x ∈ [m.slot, m.dir, m.v, m.d], good x := by
  intro x hx
  unfold mayM mayK at h
  unfold good
  simp only [List.mem_cons, List.not_mem_nil, or_false] at hx
  rcases hx with rfl | rfl | rfl | rfl <;> omega

theorem rdMsgs_back {s : ByteArray} {q : Nat} : ∀ (l : List Msg) (r : List UInt8), s.data.toList.drop q = msgsB l ++ r → allMay l → rdMsgs s l.length q = some (l, q + (msgsB l).length) := by
  refine snoc_indM (fun r _ _ => rfl) fun l m ih r h hg => ?_
  have hm := hg m (by simp)
  rw [msgsB_snoc, List.append_assoc] at h
  have h1 := ih _ h (fun y hy => hg y (by simp [hy]))
  have hd : s.data.toList.drop (q + (msgsB l).length) = layB [m.slot, m.dir, m.v, m.d] ++ r := by
    rw [← List.drop_drop, h, List.drop_left]; rfl
  have h2 := rdInts_back _ _ hd (may_good hm)
  rw [List.length_append, List.length_singleton, rdMsgs_more h1 h2, msgsB_snoc, List.length_append, Nat.add_assoc]
  rfl

theorem parse_back {l : List Msg} (h1 : l.length ≤ 1000) (h2 : allMay l) : parseO (printS l) = some l := by
  have hp : printS l = ⟨(printB l).toArray⟩ := by unfold printS; rw [if_pos ⟨h1, h2⟩]
  have hl : (printS l).data.toList = layB [(l.length : Int)] ++ msgsB l := by rw [hp]; simp [printB]
  have hg : good (l.length : Int) := ⟨by omega, by omega⟩
  have e1 : layB [(l.length : Int)] = numBytes l.length := by
    have : layB [(l.length : Int)] = (numStr (l.length : Int)).data.toList := by simp [layB]
    rw [this, layB_good hg]; rfl
  rw [e1] at hl
  have r1 : rdAt (printS l) (0 : Nat) = some (l.length, 0 + (numBytes l.length).length) := rdAt_back (p := 0) (r := msgsB l) (by rw [List.drop_zero]; exact hl) (by unfold maxNum; omega)
  rw [Nat.zero_add] at r1
  have r2 : rdMsgs (printS l) l.length (numBytes l.length).length = some (l, (numBytes l.length).length + (msgsB l).length) := rdMsgs_back l [] (by rw [hl, List.drop_left, List.append_nil]) h2
  refine parseO_some r1 h1 r2 ⟨?_, h2⟩
  rw [← size_list, hl, List.length_append]

/-- What is parsed is printed as it was. -/
theorem print_back {s : ByteArray} {l : List Msg} (h : parseO s = some l) : printErr l = 0 ∧ printS l = s := by
  unfold parseO at h
  split at h
  · rename_i n q h1
    split at h
    · rename_i hn
      split at h
      · rename_i l' e h3
        split at h
        · rename_i hc
          injection h with h
          subst h
          exact (parse_same h1 hn h3).2 hc
        · cases h
      · cases h
    · cases h
  · cases h
theorem parse_len {s : ByteArray} : (parseL s).length ≤ 1000 := by
  unfold parseL
  cases h : parseO s with
  | none => simp
  | some l =>
    have := (print_back h).1
    unfold printErr at this
    split at this
    · omega
    · simp; omega
end Go.Proofs.YtichoidkemeibaaGreat

namespace Go.Proofs.YtichoidkemeibaaGreat
open Go.RowKit

theorem printS_len (l : List Msg) : (printS l).size ≤ 5 + 20 * l.length := by
  unfold printS
  split
  · have h1 := layB_len [(l.length : Int)]
    have h2 := msgsB_len l
    have h3 : (ByteArray.mk (printB l).toArray).size = (printB l).length := by simp [ByteArray.size]
    rw [h3]
    unfold printB
    rw [List.length_append]
    simp at h1
    omega
  · exact Nat.zero_le _
theorem print_ok {l : List Msg} (h1 : l.length ≤ 1000) (h2 : allMay l) : printErr l = 0 := by
  unfold printErr
  rw [if_neg (by omega), if_pos h2]
theorem ofHome_may {l : List Msg} {k i : Nat} (h : allMay l) : allMay (ofHome l k i) := fun m hm => h m (List.mem_filter.1 hm).1
theorem ofHome_len (l : List Msg) (k i : Nat) : (ofHome l k i).length ≤ l.length := List.length_filter_le _ _
theorem flat_takeC {l : List (List Msg)} {i : Nat} {r : List Msg} (h : l[i]? = some r) : (l.take (i + 1)).flatten = (l.take i).flatten ++ r := by
  rw [List.take_add_one, h]; simp
theorem flat_take_le (l : List (List Msg)) (i : Nat) : (l.take i).flatten.length ≤ l.flatten.length := by
  have h := List.take_append_drop i l
  have e : l.flatten = (l.take i).flatten ++ (l.drop i).flatten := by rw [← List.flatten_append, h]
  rw [e, List.length_append]; omega

set_option maxRecDepth 100000 in
set_option maxHeartbeats 4000000 in
theorem carried_c (A : Option Addr) (n c k : Nat) (ms : List Msg) (w : World) (hk1 : 1 ≤ k) (hk2 : k ≤ 16) (hr : Reads w w.heap.size 4 A n (mv ms)) (hn : n ≤ 1000) (hm : allMay ms) :
    Calls Tryz.prog 15 #[.slice A n c, .int .i64 k] w fun e w' =>
      ∃ A' n' c', e = .returned (.tuple #[.slice A' n' c', .bool true]) ∧ w'.ownsRow w.heap.size 44 4 (.slice A' n' c') n' (mv (parted ms k).flatten) ∧ Below w.heap.size w w' := by
  have HL := Lib.hid hr.mail_len
  have HM := Lib.hid hm
  have HR := Lib.hid hr
  have HF : Hid ((parted ms k).flatten.length ≤ 1000) := by
    have h1 := (parted_permR k hk1 hk2 ms hm).length_eq
    have h2 := HL.out
    show _ ≤ _
    omega
  clear hr hm
  go_enter Tryz.func15, Tryz.ntmps15
  go_wp2_with (fail)
  refine (split_c A n c k ms _ hk1 hk2 HR.out (by omega) HM.out).mono ?_
  rintro e w1 ⟨A1, c1, vs, rfl, ho1, hrs1, hB1⟩
  have HO1 := Lib.hid ho1
  have HS1 := Lib.hid hrs1
  have HB1 := Lib.hid hB1
  have hs1 := hB1.size
  have HVL : Hid (vs.length = k) := by
    have h := hrs1.len
    rw [mvs, List.length_map, parted_len] at h
    exact h
  clear ho1 hrs1 hB1
  go_wp2_with (fail)
  go_loopw [9, 8] (fun i v wr => ∃ (j nn : Nat) (An : Option Addr) (cn : Nat), j ≤ k ∧ i = .int .i64 j ∧ v = .slice An nn cn ∧ wr.ownsRow w1.heap.size 44 4 (.slice An nn cn) nn (mv ((parted ms k).take j).flatten) ∧ Below w1.heap.size w1 wr) (fun i _ _ => k - (intOf i).toNat)
  case atStart => exact ⟨0, 0, none, 0, Nat.zero_le _, rfl, rfl, own_nil, Below.refl _ _⟩
  case round =>
    obtain ⟨j, nn, An, cn, hj, rfl, rfl, hon, hB⟩ := hrel
    have HB := Lib.hid hB
    have HON := Lib.hid hon
    have hsr := HB.out.size
    by_cases hlt : j < k
    · obtain ⟨Ar, mr, cr, hv, hor⟩ := HS1.out.at_ (i := j) (r := mv (ofHome ms k j)) (by rw [mvs, List.getElem?_map, parted_get _ _ _ hlt]; rfl)
      obtain ⟨b, o, rfl, d0⟩ := ((own_reads HO1.out).below hB).val_at hv
      have HRJ := Lib.hid (((own_reads hor).below hB).more hsr)
      have hmr : mr ≤ 1000 := by
        have h1 := HRJ.out.mail_len
        have h2 := ofHome_len ms k j
        have h3 := HL.out
        omega
      have hnn : nn ≤ 1000 := by
        have h1 := (own_reads hon).mail_len
        have h2 := flat_take_le (parted ms k) j
        have h3 := HF.out
        omega
      have HLJ : Hid ((ofHome ms k j).length ≤ 1000) := by
        have h1 := HRJ.out.mail_len
        show _ ≤ _
        omega
      have f1 : (0 : Int) ≤ (j : Int) := by omega
      have f2 : (j : Int) < (k : Int) := by omega
      clear hon hB hv hor
      go_wp2_with (fail)
      refine (print_c Ar mr cr (ofHome ms k j) _ HRJ.out (by unfold maxLen; omega)).mono ?_
      rintro e w2 ⟨rfl, hB2⟩
      rw [print_ok HLJ.out (ofHome_may HM.out)]
      have HB2 := Lib.hid (HB.out.trans (hB2.mono HB.out.size))
      have HON2 := Lib.hid (own_below HON.out hB2)
      clear hB2 HRJ HB HON d0
      go_wp2_with (fail)
      refine (parse_c (printS (ofHome ms k j)) _ (by have h1 := printS_len (ofHome ms k j); have h2 := HLJ.out; omega)).mono ?_
      have hps := parse_some (parse_back HLJ.out (ofHome_may HM.out))
      rw [hps.1, hps.2]
      rintro e w3 ⟨A3, c3, rfl, ho3, hB3⟩
      have HB3 := Lib.hid (HB2.out.trans (hB3.mono HB2.out.size))
      have HON3 := Lib.hid (own_below HON2.out hB3)
      have HR3 := Lib.hid (own_reads ho3)
      have hs3 := HB3.out.size
      have hl3 := HLJ.out
      clear ho3 hB3 HB2 HON2 hps
      go_wp2_with (at_builtin; refine wpList_cat elMail rfl _ _ rfl HON3.out rfl HR3.out rfl (mv_one _) (by unfold maxLen; omega) (by omega) hs3 ?_)
      intro A4 c4 w4 ho4 p4
      have HB4 := Lib.hid (p4.below HON3.out HB3.out (Nat.le_refl _) HB3.out.size)
      have HO4 := Lib.hid ho4
      clear p4 ho4 HON3 HR3 hs3
      go_wp2_with (fail)
      go_roundw
      case rel =>
        refine ⟨j + 1, nn + (ofHome ms k j).length, A4, c4, by omega, by go_num, rfl, ?_, HB4.out⟩
        rw [flat_takeC (parted_get ms k j hlt), mv_append]
        exact HO4.out
      case measure => simp [intOf]; omega
    · obtain rfl : j = k := by omega
      have e1 : (parted ms j).take j = parted ms j := List.take_of_length_le (by rw [parted_len]; exact Nat.le_refl _)
      rw [e1] at hon
      have HON := Lib.hid (own_more (base := w.heap.size) hon hs1)
      have HBB := Lib.hid (HB1.out.trans (hB.mono hs1))
      clear hon hB e1
      go_wp2_with (fail)
      refine bodyPost_ret (v := .tuple #[.slice An nn cn, .bool true]) ?_ rfl ⟨An, nn, cn, rfl, HON.out, HBB.out⟩
      simp [results, Tryz.results15, go_sem]
end Go.Proofs.YtichoidkemeibaaGreat

namespace Go.Proofs.YtichoidkemeibaaGreat
open Go.RowKit

set_option maxRecDepth 100000 in
set_option maxHeartbeats 4000000 in
theorem walked_c (w : World) : Calls Tryz.prog 13 #[] w fun e w' => e = .returned (.bool true) ∧ Below w.heap.size w w' := by
  obtain ⟨i0, hi0, hz0, hz1, hz2⟩ := info_parts infoTexts
  go_enter Tryz.func13, Tryz.ntmps13
  go_wp2_with (at_make; refine wpList_make_full _ rfl _ _ 75 rfl (w.heap.size + 1) 22 i0 _ 1 Tryz.underlying75 hi0 hz0 hz1 _ _ _ _ 2 rfl rfl rfl rfl (by rw [hz2]; omega) (by unfold maxLen; omega) (by simp) ?_; intro w1 hown1 hg1)
  have hown : w1.ownsRow (w.heap.size + 1) 22 1 (.slice (some ⟨w.heap.size + 1, 0, none⟩) 2 2) 2 [.slice none 0 0, .slice none 0 0] := by
    have e : (madeCells (Value.slice none 0 0).cells (2 * 1)).toList = [.slice none 0 0, .slice none 0 0] := by kernel_rfl
    rw [← e]; simpa using hown1
  have hB1 : Below (w.heap.size + 1) (w.alloc (.cells #[.int .i64 0, .int .i64 1] 73)) w1 := (Below.refl _ _).grown hg1 (by simp) (fun _ h => by cases h)
  have HG := Lib.hid (gr01_made hown hB1)
  have HB1 := Lib.hid ((below_one w (.cells #[.int .i64 0, .int .i64 1] 73)).trans (hB1.mono (Nat.le_succ _)))
  clear hown1 hg1 hown hB1
  refine (make_c _ _ _ _ _ w1 HG.out).mono ?_
  rintro e w2 ⟨a, har, he, hrw, hB2⟩
  unfold rwVal at he
  subst he
  obtain ⟨W3, hW3⟩ : ∃ W3, W3 = (w2.alloc (rwBox a)).alloc (quBox qu01) := ⟨_, rfl⟩
  have hb3 : Below w2.heap.size w2 W3 := by rw [hW3]; exact below_two _ _ _
  have ht3 : TwoAt w2.heap.size (w2.heap.size + 1) w2.heap.size qu01 a W3 := by
    refine ⟨?_, ?_, hrw.below hb3, hb3.size⟩
    · rw [hW3]
      have := (w2.alloc (rwBox a)).alloc_heap_new (quBox qu01)
      rw [World.size_alloc] at this
      exact this
    · rw [hW3, Below.heap_alloc _ _ _ (by simp)]
      exact w2.alloc_heap_new _
  have HB3 := Lib.hid ((HB1.out.trans (hB2.mono HB1.out.size)).trans (hb3.mono (Nat.le_trans HB1.out.size hB2.size)))
  have HT3 := Lib.hid ht3
  have HAR := Lib.hid har
  have HW3 := Lib.hid hW3
  clear hrw hB2 hb3 ht3 har hW3 HG HB1
  go_wp2_with (fail)
  change Code.wp _ _ _ _ ((w2.alloc (rwBox a)).alloc (quBox qu01))
  rw [← HW3.out]
  obtain ⟨q0, q1, q2, q3, q4, q5⟩ := HT3.out.qc
  obtain ⟨r0, r1, r2, r3⟩ := HT3.out.rc
  unfold qu01 at q0 q1 q2 q3 q4 q5
  have HST : Hid (∀ W, Below W3.heap.size W3 W → ∀ (A4 : Option Addr) (c4 : Nat), Reads W W.heap.size 4 A4 1 (mv ms0) → Calls Tryz.prog 16 #[.agg #[.int .i64 2, .int .i64 0, .int .i64 1, .slice none 0 0, .int .i64 0, .int .i64 0], .agg #[.slice a.A1 a.n1 a.c1, .slice a.A2 a.n2 a.c2, .slice a.A3 a.n3 a.c3, .slice a.A4 a.n4 a.c4], .slice none 0 0, .slice A4 1 c4, .int .i64 2, .slice none 0 0] W fun e w' =>
      ∃ A1 c1 A2 c2, e = .returned (.tuple #[.slice A1 1 c1, .slice A2 1 c2, .int .i64 0]) ∧ Reads w' w'.heap.size 4 A1 1 (mv ms0) ∧ Reads w' w'.heap.size 4 A2 1 (mv ms1) ∧ Below W.heap.size W w') := fun W hB A4 c4 hr =>
    step_lit a none A4 0 0 1 c4 [] ms0 ms0 ms1 W (HT3.out.step hB).in_ HAR.out Reads.none_ hr step01_ok step01_s step01_m (by omega) (by omega) (by simp) ms0_fits
  have HKS : Hid (∀ W, Below W3.heap.size W3 W → (W.cell? ⟨w2.heap.size + 1, 0, none⟩ = some (.int .i64 2) ∧ W.cell? ⟨w2.heap.size + 1, 1, none⟩ = some (.int .i64 0) ∧ W.cell? ⟨w2.heap.size + 1, 2, none⟩ = some (.int .i64 1) ∧ W.cell? ⟨w2.heap.size + 1, 3, none⟩ = some (.slice none 0 0) ∧ W.cell? ⟨w2.heap.size + 1, 4, none⟩ = some (.int .i64 0) ∧ W.cell? ⟨w2.heap.size + 1, 5, none⟩ = some (.int .i64 0)) ∧
      (W.cell? ⟨w2.heap.size, 0, none⟩ = some (.slice a.A1 a.n1 a.c1) ∧ W.cell? ⟨w2.heap.size, 1, none⟩ = some (.slice a.A2 a.n2 a.c2) ∧ W.cell? ⟨w2.heap.size, 2, none⟩ = some (.slice a.A3 a.n3 a.c3) ∧ W.cell? ⟨w2.heap.size, 3, none⟩ = some (.slice a.A4 a.n4 a.c4))) := fun W hB => ⟨(HT3.out.step hB).qc, (HT3.out.step hB).rc⟩
  go_region_held3 (fun W : World => (W.cell? ⟨w2.heap.size + 1, 0, none⟩ = some (.int .i64 2) ∧ W.cell? ⟨w2.heap.size + 1, 1, none⟩ = some (.int .i64 0) ∧ W.cell? ⟨w2.heap.size + 1, 2, none⟩ = some (.int .i64 1) ∧ W.cell? ⟨w2.heap.size + 1, 3, none⟩ = some (.slice none 0 0) ∧ W.cell? ⟨w2.heap.size + 1, 4, none⟩ = some (.int .i64 0) ∧ W.cell? ⟨w2.heap.size + 1, 5, none⟩ = some (.int .i64 0)) ∧
      (W.cell? ⟨w2.heap.size, 0, none⟩ = some (.slice a.A1 a.n1 a.c1) ∧ W.cell? ⟨w2.heap.size, 1, none⟩ = some (.slice a.A2 a.n2 a.c2) ∧ W.cell? ⟨w2.heap.size, 2, none⟩ = some (.slice a.A3 a.n3 a.c3) ∧ W.cell? ⟨w2.heap.size, 3, none⟩ = some (.slice a.A4 a.n4 a.c4)))
    (first | exact HKS.out _ ((Below.refl _ _).drew) | exact HKS.out _ HB5.out | exact HKS.out _ HB4.out)
    ((first
      | (go_at_call 14; refine (start_lit _).mono ?_; rintro e w4 ⟨A4, c4, rfl, hr4, hB4⟩; have HB4 := Lib.hid (((Below.refl W3.heap.size W3).drew).trans hB4); have HR4 := Lib.hid hr4; clear hB4 hr4)
      | (go_at_call 16; refine (HST.out _ HB4.out _ _ HR4.out).mono ?_; rintro e w5 ⟨A5, c5, A6, c6, rfl, hr5, hr6, hB5'⟩; have HB5 := Lib.hid (HB4.out.trans (hB5'.mono HB4.out.size)); have HR5 := Lib.hid hr5; have HR6 := Lib.hid hr6; clear hr5 hr6 hB5')))
  have HB5' := Lib.hid (HB3.out.trans (HB5.out.mono HB3.out.size))
  obtain ⟨b, o, m, rfl, hm, m0, m1, m2, m3⟩ := HR6.out.mail_at (k := 0) (by decide)
  obtain rfl : m = ⟨0, 0, 1, 1⟩ := by have := hm.out; simp [ms1] at this; exact this.symm
  simp only at m0 m1 m2 m3
  clear q0 q1 q2 q3 q4 q5 r0 r1 r2 r3 HB4 HR4 HR5 HR6 hm
  go_wp2_with (fail)
  go_ret
  exact ⟨rfl, HB5'.out⟩

/-- A truth value that is true only when P. -/
def OnlyIf (w w' : World) (P : Prop) (e : Ending) : Prop := ∃ b : Bool, e = .returned (.bool b) ∧ (b = true → P) ∧ Below w.heap.size w w'
theorem only_no {w w' : World} {P : Prop} (h : Below w.heap.size w w') : OnlyIf w w' P (.returned (.bool false)) := ⟨false, rfl, fun h => by simp at h, h⟩
theorem only_yes {w w' : World} {P : Prop} {b : Bool} (h : Below w.heap.size w w') (p : P) : OnlyIf w w' P (.returned (.bool b)) := ⟨b, rfl, fun _ => p, h⟩
/-- What 'few' lets through. -/
def fewA (a : RwA) : Prop := a.n1 ≤ 30 ∧ a.n3 ≤ 30 ∧ a.n2 ≤ 150 ∧ a.n4 ≤ 150
set_option maxRecDepth 100000 in
set_option maxHeartbeats 2000000 in
theorem few_c (a : RwA) (w : World) : Calls Tryz.prog 9 #[rwVal a] w fun e w' => OnlyIf w w' (fewA a) e := by
  show Calls Tryz.prog 9 #[.agg #[.slice a.A1 a.n1 a.c1, .slice a.A2 a.n2 a.c2, .slice a.A3 a.n3 a.c3, .slice a.A4 a.n4 a.c4]] w _
  have hB := Lib.hid (below_one w (rwBox a))
  by_cases h1 : a.n1 ≤ 30
  rotate_left
  · have h1' : ¬ (a.n1 : Int) ≤ 30 := by omega
    go_enter Tryz.func9, Tryz.ntmps9
    go_wp2_with (fail)
    go_ret
    exact only_no hB.out
  have h1' : (a.n1 : Int) ≤ 30 := by omega
  by_cases h2 : a.n3 ≤ 30
  rotate_left
  · have h2' : ¬ (a.n3 : Int) ≤ 30 := by omega
    go_enter Tryz.func9, Tryz.ntmps9
    go_wp2_with (fail)
    go_ret
    exact only_no hB.out
  have h2' : (a.n3 : Int) ≤ 30 := by omega
  by_cases h3 : a.n2 ≤ 150
  rotate_left
  · have h3' : ¬ (a.n2 : Int) ≤ 150 := by omega
    go_enter Tryz.func9, Tryz.ntmps9
    go_wp2_with (fail)
    go_ret
    exact only_no hB.out
  have h3' : (a.n2 : Int) ≤ 150 := by omega
  by_cases h4 : a.n4 ≤ 150
  rotate_left
  · have h4' : ¬ (a.n4 : Int) ≤ 150 := by omega
    go_enter Tryz.func9, Tryz.ntmps9
    go_wp2_with (fail)
    go_ret
    exact only_no hB.out
  have h4' : (a.n4 : Int) ≤ 150 := by omega
  go_enter Tryz.func9, Tryz.ntmps9
  go_wp2_with (fail)
  go_ret
  exact only_yes hB.out ⟨h1, h2, h3, h4⟩

set_option maxRecDepth 100000 in
set_option maxHeartbeats 2000000 in
theorem short_c (A : Option Addr) (n c : Nat) (l : List ByteArray) (w : World) (h1 : Reads w w.heap.size 1 A n (sv l)) (hn : n ≤ maxLen) (hz : ∀ s ∈ l, s.size ≤ maxLen) :
    Calls Tryz.prog 10 #[.slice A n c] w fun e w' => OnlyIf w w' (∀ s ∈ l, s.size ≤ 60) e := by
  have l1 := h1.str_len
  have HZ := Lib.hid hz
  clear hz
  unfold maxLen at hn
  go_enter Tryz.func10, Tryz.ntmps10
  go_wp2_with (fail)
  go_loopw [3] (fun i wr => ∃ k : Nat, k ≤ n ∧ i = .int .i64 k ∧ Hid (∀ d ∈ l.take k, d.size ≤ 60) ∧ wr = w) (fun i _ => n - (intOf i).toNat)
  case atStart => exact ⟨0, Nat.zero_le _, rfl, fun c hc => by simp at hc, rfl⟩
  case round =>
    obtain ⟨k, hk, rfl, hl, rfl⟩ := hrel
    by_cases hlt : k < n
    · obtain ⟨a1, o1, x, rfl, hx, hc1⟩ := h1.str_at hlt
      clear h1
      have L1 := Lib.hid l1
      clear l1
      have hxz := HZ.out x (List.mem_of_getElem? hx.out)
      unfold maxLen at hxz
      have f1 : (0 : Int) ≤ (k : Int) := by omega
      have f2 : (k : Int) < (n : Int) := by omega
      by_cases hm : x.size ≤ 60
      · have H := Lib.hid (all_more (p := fun d : ByteArray => d.size ≤ 60) hl.out hx.out hm)
        have f3 : ¬ (60 : Int) < (x.size : Int) := by omega
        go_wp2_with (fail)
        go_roundw
        case rel => exact ⟨k + 1, by omega, by go_num, H.out, trivial⟩
        case measure => simp [intOf]; omega
      · have f3 : (60 : Int) < (x.size : Int) := by omega
        go_wp2_with (fail)
        go_ret
        exact only_no (Below.refl _ _)
    · obtain rfl : k = n := by omega
      have H : Hid (∀ d ∈ l, d.size ≤ 60) := all_full hl.out (by omega)
      clear l1
      go_wp2_with (fail)
      go_ret
      exact only_yes (Below.refl _ _) H.out
end Go.Proofs.YtichoidkemeibaaGreat
