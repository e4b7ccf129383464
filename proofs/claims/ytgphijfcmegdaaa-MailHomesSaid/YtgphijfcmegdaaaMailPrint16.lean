/-
  The reference's Print of messages.
-/
import Derived.Test.YtgphijfcmegdaaaMailPrint
namespace Go.Proofs.Ytgphijfcmegdaaa
open Go.RowKit

theorem cat_list (a b : ByteArray) : (a ++ b).data.toList = a.data.toList ++ b.data.toList := by rw [ByteArray.data_append, Array.toList_append]

set_option maxRecDepth 100000 in
set_option maxHeartbeats 2000000 in
theorem print16_c (A : Option Addr) (n c : Nat) (xs : List Msg) (w : World) (hr : Reads w w.heap.size 4 A n (mv xs)) (hn : n ≤ maxLen) :
    Calls Try.prog 20 #[.slice A n c] w fun e w' => e = .returned (.tuple #[.string (printS xs), .int .i64 (printErr xs)]) ∧ Below w.heap.size w w' := by
  have hl := hr.mail_len
  by_cases h : 1000 < n
  · have e1 : printErr xs = 2 := by unfold printErr; rw [if_pos (by omega)]
    have e2 : printS xs = ⟨#[]⟩ := by unfold printS; rw [if_neg (by omega)]
    rw [e1, e2]
    go_enter Try.func20, Try.ntmps20
    go_wp2_with (fail)
    go_ret2
    exact ⟨rfl, Below.refl _ _⟩
  · by_cases hm : allMay xs
    · have e1 : printErr xs = 0 := by unfold printErr; rw [if_neg (by omega), if_pos hm]
      have e2 : printS xs = ⟨(printB xs).toArray⟩ := by unfold printS; rw [if_pos ⟨by omega, hm⟩]
      rw [e1, e2]
      have HL := Lib.hid hl
      clear e1 e2 hl
      go_enter Try.func20, Try.ntmps20
      go_wp2_with (fail)
      refine (check16_c A n c xs _ hr hn).mono ?_
      rintro e w1 ⟨rfl, hB1⟩
      rw [decide_eq_true hm]
      clear hm
      go_wp2_with (fail)
      refine (refNumberT n _).mono ?_
      rintro e w2 ⟨rfl, hB2⟩
      have hBB := hB1.trans (hB2.mono hB1.size)
      clear hB1 hB2
      unfold numV
      go_wp2_with (fail)
      go_loopw [4, 6] (fun out i wr => ∃ (k : Nat) (S : ByteArray), k ≤ n ∧ i = .int .i64 k ∧ out = .string S ∧ Hid (S.data.toList = layB [(n : Int)] ++ msgsB (xs.take k)) ∧ S.size ≤ 5 + 20 * k ∧ Below w.heap.size w wr) (fun _ i _ => n - (intOf i).toNat)
      case atStart => exact ⟨0, numStr n, Nat.zero_le _, rfl, rfl, by show _ = _; simp [layB, msgsB], numStr_len _, hBB⟩
      case round =>
        clear hBB
        obtain ⟨k, S, hk, rfl, rfl, hS, hsz, hB⟩ := hrel
        by_cases hlt : k < n
        · obtain ⟨a1, o1, x, rfl, hx, c0, c1, c2, c3⟩ := (hr.below hB).mail_at hlt
          go_wp2_with (fail)
          refine (refNumberT x.slot _).mono ?_
          rintro e w3 ⟨rfl, hB3⟩
          have hb := hB.trans (hB3.mono hB.size)
          clear hB3 c0 c1 c2 c3 hB
          obtain ⟨a2, o2, x', e1, e2, c0, c1, c2, c3⟩ := (hr.below hb).mail_at hlt
          cases e1
          obtain rfl : x = x' := by have := hx.out; rw [e2.out] at this; exact (Option.some.inj this).symm
          unfold numV
          go_wp2_with (fail)
          refine (refNumberT x.dir _).mono ?_
          rintro e w4 ⟨rfl, hB4⟩
          have hB := hb.trans (hB4.mono hb.size)
          clear hB4 c0 c1 c2 c3 hb e2
          obtain ⟨a2, o2, x', e1, e2, c0, c1, c2, c3⟩ := (hr.below hB).mail_at hlt
          cases e1
          obtain rfl : x = x' := by have := hx.out; rw [e2.out] at this; exact (Option.some.inj this).symm
          unfold numV
          go_wp2_with (fail)
          refine (refNumberT x.v _).mono ?_
          rintro e w5 ⟨rfl, hB5⟩
          have hb := hB.trans (hB5.mono hB.size)
          clear hB5 c0 c1 c2 c3 hB e2
          obtain ⟨a2, o2, x', e1, e2, c0, c1, c2, c3⟩ := (hr.below hb).mail_at hlt
          cases e1
          obtain rfl : x = x' := by have := hx.out; rw [e2.out] at this; exact (Option.some.inj this).symm
          unfold numV
          go_wp2_with (fail)
          refine (refNumberT x.d _).mono ?_
          rintro e w6 ⟨rfl, hB6⟩
          have hB := hb.trans (hB6.mono hb.size)
          clear hB6 c0 c1 c2 c3 hb e2
          unfold numV
          have q1 := numStr_len x.slot
          have q2 := numStr_len x.dir
          have q3 := numStr_len x.v
          have q4 := numStr_len x.d
          have o1 : ¬ 9223372036854775807 < S.size + (numStr x.slot).size := by omega
          have o2 : ¬ 9223372036854775807 < S.size + (numStr x.slot).size + (numStr x.dir).size := by omega
          have o3 : ¬ 9223372036854775807 < S.size + (numStr x.slot).size + (numStr x.dir).size + (numStr x.v).size := by omega
          have o4 : ¬ 9223372036854775807 < S.size + (numStr x.slot).size + (numStr x.dir).size + (numStr x.v).size + (numStr x.d).size := by omega
          go_wp2_with (fail)
          go_roundw
          case rel =>
            refine ⟨k + 1, S ++ numStr x.slot ++ numStr x.dir ++ numStr x.v ++ numStr x.d, by omega, by go_num, rfl, ?_, ?_, hB⟩
            · show _ = _
              rw [cat_list, cat_list, cat_list, cat_list, hS.out, List.take_add_one, hx.out, Option.toList_some, msgsB_snoc]
              simp [msgB, layB]
            · rw [ByteArray.size_append, ByteArray.size_append, ByteArray.size_append, ByteArray.size_append]; omega
          case measure => simp [intOf]; omega
        · obtain rfl : k = n := by omega
          have hp : Hid (S = ⟨(printB xs).toArray⟩) := by
            refine bytes_ext ?_
            rw [hS.out, List.take_of_length_le (by rw [HL.out]; exact Nat.le_refl _)]
            unfold printB
            rw [HL.out]
          clear hr
          go_wp2_with (fail)
          go_ret2
          exact ⟨by rw [hp.out]; rfl, hB⟩
    · have e1 : printErr xs = 1 := by unfold printErr; rw [if_neg (by omega), if_neg hm]
      have e2 : printS xs = ⟨#[]⟩ := by unfold printS; rw [if_neg (fun h => hm h.2)]
      rw [e1, e2]
      clear e1 e2 hl
      go_enter Try.func20, Try.ntmps20
      go_wp2_with (fail)
      refine (check16_c A n c xs _ hr hn).mono ?_
      rintro e w1 ⟨rfl, hB1⟩
      rw [decide_eq_false hm]
      go_wp2_with (fail)
      go_ret2
      exact ⟨rfl, hB1⟩
end Go.Proofs.Ytgphijfcmegdaaa
