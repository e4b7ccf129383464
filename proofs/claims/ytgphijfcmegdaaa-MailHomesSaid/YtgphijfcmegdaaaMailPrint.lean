/-
  Print of messages: the program's and the reference's.
-/
import Derived.Test.YtgphijfcmegdaaaNOut
import Derived.Test.YtgphijfcmegdaaaMailSmall
import Derived.Test.YtgphijfcmegdaaaMailComb
namespace Go.Proofs.Ytgphijfcmegdaaa
open Go.RowKit

theorem isB_below {w w' : World} {B b : Nat} {l : List UInt8} (h : IsB w B b l) (hb : Below w.heap.size w w') : IsB w' B b l := by
  have key : ∀ p, Lib.BuilderAt 69 5 B b p (Lib.byteCells l) w → Lib.BuilderAt 69 5 B b p (Lib.byteCells l) w' := by
    intro p hp
    have hlt := hp.lt
    obtain ⟨hB, v, hbk, hown, hne⟩ := hp
    obtain ⟨A, c, rfl, _⟩ := own_form hown
    exact ⟨hB, _, (hb.block b hlt).trans hbk, own_below hown hb, hne⟩
  rcases h with h | h
  · exact .inl (key _ h)
  · exact .inr (key _ h)


/-- Numbers, one behind the other. -/
def layB (xs : List Int) : List UInt8 := xs.flatMap fun x => (numStr x).data.toList
theorem layB_snoc (xs : List Int) (x : Int) : layB (xs ++ [x]) = layB xs ++ (numStr x).data.toList := by simp [layB]
theorem layB_len (xs : List Int) : (layB xs).length ≤ 5 * xs.length := by
  induction xs with
  | nil => simp [layB]
  | cons x xs ih =>
    have h1 := numStr_len x
    rw [← size_list] at h1
    simp only [layB, List.flatMap_cons, List.length_append, List.length_cons] at ih ⊢
    omega

set_option maxRecDepth 100000 in
set_option maxHeartbeats 1000000 in
theorem lay_c (A : Option Addr) (n c : Nat) (xs : List Int) (w : World) (hr : Reads w w.heap.size 1 A n (iv xs)) (h : n ≤ 4000) :
    Calls Try.prog 42 #[.slice A n c] w fun e w' => e = .returned (.string ⟨(layB xs).toArray⟩) ∧ Below w.heap.size w w' := by
  have hl := hr.int_len
  have HL := Lib.hid hl
  clear hl
  go_enter Try.func42, Try.ntmps42
  go_wp2_with (fail)
  go_loopw [10] (fun i wr => ∃ k : Nat, k ≤ n ∧ i = .int .i64 k ∧ IsB wr w.heap.size w.heap.size (layB (xs.take k)) ∧ Below w.heap.size w wr) (fun i _ => n - (intOf i).toNat)
  case atStart => exact ⟨0, by omega, rfl, isB_fresh w, (Below.refl _ w).alloc (Nat.le_refl _) _⟩
  case round =>
    obtain ⟨k, hk, rfl, hib, hB⟩ := hrel
    by_cases hlt : k < n
    · obtain ⟨a1, o1, x, rfl, hx, hc1⟩ := (hr.below hB).int_at hlt
      clear hr
      go_wp2_with (fail)
      refine (numberT x _).mono ?_
      rintro e w2 ⟨rfl, hB2⟩
      have hib2 : IsB w2 w.heap.size w.heap.size (layB (xs.take k)) := isB_below hib hB2
      have hBB : Below w.heap.size w w2 := hB.trans (hB2.mono hB.size)
      clear hib hB hB2
      have hlen : (layB (xs.take k)).length + (numStr x).size ≤ 140737488355328 := by
        have h1 := numStr_len x
        have h3 := layB_len (xs.take k)
        have h4 : (xs.take k).length ≤ k := by rw [List.length_take]; omega
        omega
      have hbsz := hBB.size
      have HB := Lib.hid hBB
      have HI := Lib.hid hib2
      have HN := Lib.hid hlen
      clear hBB hib2 hlen
      unfold numV
      go_wp2_with (fail)
      refine (writeString_c w.heap.size w.heap.size _ _ w2 HI.out HN.out hbsz).mono ?_
      rintro e w3 ⟨rfl, hib3, hB3⟩
      go_wp2_with (fail)
      go_roundw
      case rel =>
        refine ⟨k + 1, by omega, by go_num, ?_, HB.out.trans hB3⟩
        rw [List.take_add_one, hx.out, Option.toList_some, layB_snoc]
        exact hib3
      case measure => simp [intOf] <;> omega
    · obtain rfl : k = n := by omega
      rw [List.take_of_length_le (by rw [HL.out]; exact Nat.le_refl _)] at hib
      have hbsz := hB.size
      go_wp2_with (fail)
      refine (builderString_c w.heap.size w.heap.size _ _ hib hbsz).mono ?_
      rintro e w3 ⟨rfl, hB3⟩
      go_wp2_with (fail)
      go_ret
      exact ⟨rfl, hB.trans hB3⟩

/-- A message's bytes. -/
def msgB (m : Msg) : List UInt8 := layB [m.slot, m.dir, m.v, m.d]
def msgsB (l : List Msg) : List UInt8 := l.flatMap msgB
theorem msgsB_snoc (l : List Msg) (m : Msg) : msgsB (l ++ [m]) = msgsB l ++ msgB m := by simp [msgsB]
theorem msgB_len (m : Msg) : (msgB m).length ≤ 20 := layB_len _
theorem msgsB_len (l : List Msg) : (msgsB l).length ≤ 20 * l.length := by
  induction l with
  | nil => simp [msgsB]
  | cons x xs ih =>
    have h1 := msgB_len x
    simp only [msgsB, List.flatMap_cons, List.length_append, List.length_cons] at ih ⊢
    omega
/-- The bytes of messages. -/
def printB (l : List Msg) : List UInt8 := layB [(l.length : Int)] ++ msgsB l
def printErr (l : List Msg) : Int := if 1000 < l.length then 2 else if allMay l then 0 else 1
def printS (l : List Msg) : ByteArray := if l.length ≤ 1000 ∧ allMay l then ⟨(printB l).toArray⟩ else ⟨#[]⟩

set_option maxRecDepth 100000 in
set_option maxHeartbeats 2000000 in
theorem print_c (A : Option Addr) (n c : Nat) (xs : List Msg) (w : World) (hr : Reads w w.heap.size 4 A n (mv xs)) (hn : n ≤ maxLen) :
    Calls Try.prog 19 #[.slice A n c] w fun e w' => e = .returned (.tuple #[.string (printS xs), .int .i64 (printErr xs)]) ∧ Below w.heap.size w w' := by
  have hl := hr.mail_len
  by_cases h : 1000 < n
  · have e1 : printErr xs = 2 := by unfold printErr; rw [if_pos (by omega)]
    have e2 : printS xs = ⟨#[]⟩ := by unfold printS; rw [if_neg (by omega)]
    rw [e1, e2]
    go_enter Try.func19, Try.ntmps19
    go_wp2_with (fail)
    go_ret2
    exact ⟨rfl, Below.refl _ _⟩
  · by_cases hm : allMay xs
    · have e1 : printErr xs = 0 := by unfold printErr; rw [if_neg (by omega), if_pos hm]
      have e2 : printS xs = ⟨(printB xs).toArray⟩ := by unfold printS; rw [if_pos ⟨by omega, hm⟩]
      rw [e1, e2]
      have HL := Lib.hid hl
      clear e1 e2 hl
      go_enter Try.func19, Try.ntmps19
      go_wp2_with (fail)
      refine (check_c A n c xs _ hr hn).mono ?_
      rintro e w1 ⟨rfl, hB1⟩
      rw [decide_eq_true hm]
      have HM := Lib.hid hm
      clear hm
      go_wp2_with (fail)
      have hb1 := hB1.size
      have hib : IsB ((w1.alloc (.cells #[.pointer none, .slice none 0 0] 69)).alloc (.cells #[.int .i64 (n : Int)] 3)) w1.heap.size w1.heap.size [] := isB_below (isB_fresh w1) (below_one _ _)
      have hrow : Reads ((w1.alloc (.cells #[.pointer none, .slice none 0 0] 69)).alloc (.cells #[.int .i64 (n : Int)] 3)) ((w1.alloc (.cells #[.pointer none, .slice none 0 0] 69)).alloc (.cells #[.int .i64 (n : Int)] 3)).heap.size 1 (some ⟨w1.heap.size + 1, 0, none⟩) 1 (iv [(n : Int)]) := by
        have := reads_lit (w1.alloc (.cells #[.pointer none, .slice none 0 0] 69)) [(n : Int)] 3
        rw [World.size_alloc] at this
        exact this.more (by simp)
      have hBA := (hB1.alloc hB1.size (.cells #[.pointer none, .slice none 0 0] 69)).alloc (by simp; omega) (.cells #[.int .i64 (n : Int)] 3)
      refine (lay_c _ 1 1 [(n : Int)] _ hrow (by omega)).mono ?_
      rintro e w2 ⟨rfl, hB2⟩
      have hib2 := isB_below hib hB2
      have hBB := hBA.trans (hB2.mono hBA.size)
      have hbs2 : w1.heap.size ≤ w2.heap.size := by have := hB2.size; simp at this; omega
      generalize w1.heap.size = b at hib2 hbs2 hb1 ⊢
      clear hib hrow hBA hB2
      have hl1 : ([] : List UInt8).length + (ByteArray.mk (layB [(n : Int)]).toArray).size ≤ 140737488355328 := by
        have := layB_len [(n : Int)]
        have h5 : (ByteArray.mk (layB [(n : Int)]).toArray).size = (layB [(n : Int)]).length := by simp [ByteArray.size]
        simp at this
        rw [h5]; simp; omega
      have HI := Lib.hid hib2
      have HN := Lib.hid hl1
      have HB := Lib.hid hBB
      clear hib2 hl1 hBB
      go_wp2_with (fail)
      refine (writeString_c b b _ _ w2 HI.out HN.out hbs2).mono ?_
      rintro e w3 ⟨rfl, hib3, hB3⟩
      have hBB := HB.out.trans (hB3.mono hb1)
      have hib3 : IsB w3 b b (layB [(n : Int)] ++ msgsB (xs.take 0)) := by simpa [msgsB] using hib3
      have hbs3 : b ≤ w3.heap.size := Nat.le_trans hbs2 hB3.size
      clear HI HN HB hB3
      go_wp2_with (fail)
      go_loopw [22] (fun i wr => ∃ k : Nat, k ≤ n ∧ i = .int .i64 k ∧ IsB wr b b (layB [(n : Int)] ++ msgsB (xs.take k)) ∧ Below w.heap.size w wr ∧ b ≤ wr.heap.size) (fun i _ => n - (intOf i).toNat)
      case atStart => exact ⟨0, Nat.zero_le _, rfl, hib3, hBB, hbs3⟩
      case round =>
        clear hib3 hBB hbs3 hbs2
        obtain ⟨k, hk, rfl, hib, hB, hbs⟩ := hrel
        by_cases hlt : k < n
        · obtain ⟨a1, o1, x, rfl, hx, c0, c1, c2, c3⟩ := (hr.below hB).mail_at hlt
          clear hr
          have HI := Lib.hid hib
          clear hib
          go_wp2_with (fail)
          have hrow : Reads ((wr.alloc (.cells #[.int .i64 x.slot, .int .i64 x.dir, .int .i64 x.v, .int .i64 x.d] 31)).alloc (.cells #[.int .i64 x.slot, .int .i64 x.dir, .int .i64 x.v, .int .i64 x.d] 3)) ((wr.alloc (.cells #[.int .i64 x.slot, .int .i64 x.dir, .int .i64 x.v, .int .i64 x.d] 31)).alloc (.cells #[.int .i64 x.slot, .int .i64 x.dir, .int .i64 x.v, .int .i64 x.d] 3)).heap.size 1 (some ⟨wr.heap.size + 1, 0, none⟩) 4 (iv [x.slot, x.dir, x.v, x.d]) := by
            have := reads_lit (wr.alloc (.cells #[.int .i64 x.slot, .int .i64 x.dir, .int .i64 x.v, .int .i64 x.d] 31)) [x.slot, x.dir, x.v, x.d] 3
            rw [World.size_alloc] at this
            exact this.more (by simp)
          have hBA := (hB.alloc hB.size (.cells #[.int .i64 x.slot, .int .i64 x.dir, .int .i64 x.v, .int .i64 x.d] 31)).alloc (by have := hB.size; simp; omega) (.cells #[.int .i64 x.slot, .int .i64 x.dir, .int .i64 x.v, .int .i64 x.d] 3)
          have hib2 := Lib.hid (isB_below HI.out (below_two wr (.cells #[.int .i64 x.slot, .int .i64 x.dir, .int .i64 x.v, .int .i64 x.d] 31) (.cells #[.int .i64 x.slot, .int .i64 x.dir, .int .i64 x.v, .int .i64 x.d] 3)))
          clear hB c0 c1 c2 c3 HI
          refine (lay_c _ 4 4 [x.slot, x.dir, x.v, x.d] _ hrow (by omega)).mono ?_
          rintro e w4 ⟨rfl, hB4⟩
          have HI := Lib.hid (isB_below hib2.out hB4)
          have HB := Lib.hid (hBA.trans (hB4.mono hBA.size))
          have hbs4 : b ≤ w4.heap.size := by have := hB4.size; simp at this; omega
          clear hrow hBA hib2 hB4
          have hl1 : (layB [(n : Int)] ++ msgsB (xs.take k)).length + (ByteArray.mk (layB [x.slot, x.dir, x.v, x.d]).toArray).size ≤ 140737488355328 := by
            have q1 := layB_len [(n : Int)]
            have q2 := msgsB_len (xs.take k)
            have q3 : (xs.take k).length ≤ k := by rw [List.length_take]; omega
            have q4 := layB_len [x.slot, x.dir, x.v, x.d]
            have h5 : (ByteArray.mk (layB [x.slot, x.dir, x.v, x.d]).toArray).size = (layB [x.slot, x.dir, x.v, x.d]).length := by simp [ByteArray.size]
            rw [List.length_append, h5]
            simp at q1 q4
            omega
          have HN := Lib.hid hl1
          clear hl1
          go_wp2_with (fail)
          refine (writeString_c b b _ _ w4 HI.out HN.out hbs4).mono ?_
          rintro e w5 ⟨rfl, hib5, hB5⟩
          have hBB := HB.out.trans (hB5.mono hb1)
          go_wp2_with (fail)
          go_roundw
          case rel =>
            refine ⟨k + 1, by omega, by go_num, ?_, hBB, Nat.le_trans hbs4 hB5.size⟩
            rw [List.take_add_one, hx.out, Option.toList_some, msgsB_snoc, ← List.append_assoc]
            exact hib5
          case measure => simp [intOf] <;> omega
        · obtain rfl : k = n := by omega
          have hp : Hid (layB [(k : Int)] ++ msgsB (xs.take k) = printB xs) := by
            show _ = _
            rw [List.take_of_length_le (by rw [HL.out]; exact Nat.le_refl _)]
            unfold printB
            rw [HL.out]
          rw [hp.out] at hib
          have HI := Lib.hid hib
          clear hib hr
          go_wp2_with (fail)
          refine (builderString_c b b _ _ HI.out hbs).mono ?_
          rintro e w4 ⟨rfl, hB4⟩
          go_wp2_with (fail)
          go_ret2
          exact ⟨rfl, hB.trans (hB4.mono hb1)⟩
    · have e1 : printErr xs = 1 := by unfold printErr; rw [if_neg (by omega), if_neg hm]
      have e2 : printS xs = ⟨#[]⟩ := by unfold printS; rw [if_neg (fun h => hm h.2)]
      rw [e1, e2]
      clear e1 e2 hl
      go_enter Try.func19, Try.ntmps19
      go_wp2_with (fail)
      refine (check_c A n c xs _ hr hn).mono ?_
      rintro e w1 ⟨rfl, hB1⟩
      rw [decide_eq_false hm]
      go_wp2_with (fail)
      go_ret2
      exact ⟨rfl, hB1⟩
end Go.Proofs.Ytgphijfcmegdaaa
