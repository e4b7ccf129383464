/-
  MailBack: the walk.
-/
import Derived.Test.YtgphijfcmegdaaaMails
namespace Go.Proofs.Ytgphijfcmegdaaa
open Go.RowKit

theorem printS_len (l : List Msg) : (printS l).size ≤ 5 + 20 * l.length := by
  unfold printS
  split
  · have h1 := layB_len [(l.length : Int)]
    have h2 := msgsB_len l
    have h3 : (ByteArray.mk (printB l).toArray).size = (printB l).length := by simp [ByteArray.size]
    rw [h3]
    unfold printB
    rw [List.length_append]
    simp at h1
    omega
  · exact Nat.zero_le _
theorem print_ok {l : List Msg} (h : l.length ≤ 1000) (hm : allMay l) : printErr l = 0 := by
  unfold printErr
  rw [if_neg (by omega), if_pos hm]
theorem print_bad {l : List Msg} (h : l.length ≤ 1000) (hm : ¬ allMay l) : printErr l = 1 := by
  unfold printErr
  rw [if_neg (by omega), if_neg hm]

theorem mailBack_far (A : Option Addr) (n c : Nat) (s : ByteArray) (w : World) (hn : n ≤ maxLen) (h : 100 < n ∨ 1000 < s.size) :
    Calls Try.prog 9 #[.slice A n c, .string s] w fun e w' => e = .returned (.bool true) ∧ Below w.heap.size w w' := by
  rcases Nat.lt_or_ge 100 n with h1 | h1
  · go_enter Try.func9, Try.ntmps9
    go_wp2_with (fail)
    go_ret
    exact ⟨rfl, Below.refl _ _⟩
  · have h2 : 1000 < s.size := by omega
    go_enter Try.func9, Try.ntmps9
    go_wp2_with (fail)
    go_ret
    exact ⟨rfl, Below.refl _ _⟩

set_option maxRecDepth 100000 in
set_option maxHeartbeats 4000000 in
theorem mailBack_00 (A : Option Addr) (n c : Nat) (ms : List Msg) (s : ByteArray) (w : World) (hr : Reads w w.heap.size 4 A n (mv ms)) (hn : n ≤ 100) (hz : s.size ≤ 1000) (hm : ¬ allMay ms) (hp : parseO s = none) :
    Calls Try.prog 9 #[.slice A n c, .string s] w fun e w' => e = .returned (.bool true) ∧ Below w.heap.size w w' := by
  have hl := hr.mail_len
  have hml : n ≤ maxLen := by unfold maxLen; omega
  have hps := printS_len ms
  have hsz : (printS ms).size ≤ 1000000 := by omega
  have hsz2 : s.size ≤ 1000000 := by omega
  have e1 := print_bad (by omega) hm
  have HP := Lib.hid (parse_none hp)
  have HL := Lib.hid hl
  clear hp hps hl
  go_enter Try.func9, Try.ntmps9
  go_wp2_with (fail)
  refine (print_c A n c ms _ hr hml).mono ?_
  rintro e w1 ⟨rfl, hB⟩
  go_wp2_with (fail)
  refine (parse_c _ _ hsz).mono ?_
  rintro e w2 ⟨A2, c2, rfl, ho2, hB2⟩
  have hb := hB.trans (hB2.mono hB.size)
  generalize (parseL (printS ms)).length = z1
  generalize parseErr (printS ms) = z2
  clear hB hB2 ho2
  go_wp2_with (fail)
  refine (parse_c _ _ hsz2).mono ?_
  rintro e w4 ⟨A4, c4, rfl, ho4, hB4⟩
  have hB := hb.trans (hB4.mono hb.size)
  have hb := hB
  clear hB hB4
  rw [HP.out.1] at ho4 ⊢
  rw [HP.out.2]
  go_wp2_with (fail)
  refine (print_c _ _ _ _ _ (own_reads ho4) (by simp)).mono ?_
  rintro e w5 ⟨rfl, hB5⟩
  have hB := hb.trans (hB5.mono hb.size)
  clear hb hB5 ho4
  generalize printErr [] = y1
  generalize printS [] = y2
  go_wp2_with (fail)
  refine (mails_c _).mono ?_
  rintro e w6 ⟨rfl, hB6⟩
  have hb := hB.trans (hB6.mono hB.size)
  clear hB hB6
  go_wp2_with (fail)
  refine (check_c A n c ms _ ((hr.below hb).more hb.size) hml).mono ?_
  rintro e w7 ⟨rfl, hB7⟩
  have hB := hb.trans (hB7.mono hb.size)
  rw [decide_eq_false hm]
  clear hm hb hB7
  go_wp2_with (fail)
  go_ret
  exact ⟨rfl, hB⟩

set_option maxRecDepth 100000 in
set_option maxHeartbeats 4000000 in
theorem mailBack_01 (A : Option Addr) (n c : Nat) (ms : List Msg) (s : ByteArray) (ns : List Msg) (w : World) (hr : Reads w w.heap.size 4 A n (mv ms)) (hn : n ≤ 100) (hz : s.size ≤ 1000) (hm : ¬ allMay ms) (hp : parseO s = some ns) :
    Calls Try.prog 9 #[.slice A n c, .string s] w fun e w' => e = .returned (.bool true) ∧ Below w.heap.size w w' := by
  have hl := hr.mail_len
  have hml : n ≤ maxLen := by unfold maxLen; omega
  have hps := printS_len ms
  have hsz : (printS ms).size ≤ 1000000 := by omega
  have hsz2 : s.size ≤ 1000000 := by omega
  have e1 := print_bad (by omega) hm
  have HP := Lib.hid (parse_some hp)
  have e2 := (print_back hp).1
  have e3 := Lib.hid (print_back hp).2
  have hln : ns.length ≤ 1000 := by have := parse_len (s := s); rw [HP.out.1] at this; exact this
  have hlm : ns.length ≤ maxLen := by unfold maxLen; omega
  have HL := Lib.hid hl
  clear hp hps hl
  go_enter Try.func9, Try.ntmps9
  go_wp2_with (fail)
  refine (print_c A n c ms _ hr hml).mono ?_
  rintro e w1 ⟨rfl, hB⟩
  go_wp2_with (fail)
  refine (parse_c _ _ hsz).mono ?_
  rintro e w2 ⟨A2, c2, rfl, ho2, hB2⟩
  have hb := hB.trans (hB2.mono hB.size)
  generalize (parseL (printS ms)).length = z1
  generalize parseErr (printS ms) = z2
  clear hB hB2 ho2
  go_wp2_with (fail)
  refine (parse_c _ _ hsz2).mono ?_
  rintro e w4 ⟨A4, c4, rfl, ho4, hB4⟩
  have hB := hb.trans (hB4.mono hb.size)
  have hb := hB
  clear hB hB4
  rw [HP.out.1] at ho4 ⊢
  rw [HP.out.2]
  go_wp2_with (fail)
  refine (print_c _ _ _ _ _ (own_reads ho4) hlm).mono ?_
  rintro e w5 ⟨rfl, hB5⟩
  have hB := hb.trans (hB5.mono hb.size)
  clear hb hB5 ho4
  rw [e3.out]
  go_wp2_with (fail)
  refine (mails_c _).mono ?_
  rintro e w6 ⟨rfl, hB6⟩
  have hb := hB.trans (hB6.mono hB.size)
  clear hB hB6
  go_wp2_with (fail)
  refine (check_c A n c ms _ ((hr.below hb).more hb.size) hml).mono ?_
  rintro e w7 ⟨rfl, hB7⟩
  have hB := hb.trans (hB7.mono hb.size)
  rw [decide_eq_false hm]
  clear hm hb hB7
  go_wp2_with (fail)
  go_ret
  exact ⟨rfl, hB⟩

set_option maxRecDepth 100000 in
set_option maxHeartbeats 4000000 in
theorem mailBack_10 (A : Option Addr) (n c : Nat) (ms : List Msg) (s : ByteArray) (w : World) (hr : Reads w w.heap.size 4 A n (mv ms)) (hn : n ≤ 100) (hz : s.size ≤ 1000) (hm : allMay ms) (hp : parseO s = none) :
    Calls Try.prog 9 #[.slice A n c, .string s] w fun e w' => e = .returned (.bool true) ∧ Below w.heap.size w w' := by
  have hl := hr.mail_len
  have hml : n ≤ maxLen := by unfold maxLen; omega
  have hps := printS_len ms
  have hsz : (printS ms).size ≤ 1000000 := by omega
  have hsz2 : s.size ≤ 1000000 := by omega
  have e1 := print_ok (by omega) hm
  have HQ := Lib.hid (parse_some (parse_back (by omega) hm))
  have HP := Lib.hid (parse_none hp)
  have HL := Lib.hid hl
  clear hp hps hl
  go_enter Try.func9, Try.ntmps9
  go_wp2_with (fail)
  refine (print_c A n c ms _ hr hml).mono ?_
  rintro e w1 ⟨rfl, hB⟩
  go_wp2_with (fail)
  refine (parse_c _ _ hsz).mono ?_
  rintro e w2 ⟨A2, c2, rfl, ho2, hB2⟩
  have hb := hB.trans (hB2.mono hB.size)
  rw [HQ.out.1] at ho2 ⊢
  rw [HQ.out.2]
  rw [HL.out] at ho2 ⊢
  have ho2 := own_more (base := w.heap.size) ho2 hB.size
  clear hB hB2
  go_wp2_with (fail)
  refine (same16_c A2 A n n c2 c ms ms _ (own_reads ho2) ((hr.below hb).more hb.size) hml hml).mono ?_
  rintro e w3 ⟨rfl, hB3⟩
  have hB := hb.trans (hB3.mono hb.size)
  have hT : decide (ms = ms) = true := decide_eq_true rfl
  rw [hT]
  clear hT ho2 hb hB3
  go_wp2_with (fail)
  refine (parse_c _ _ hsz2).mono ?_
  rintro e w4 ⟨A4, c4, rfl, ho4, hB4⟩
  have hb := hB.trans (hB4.mono hB.size)
  clear hB hB4
  rw [HP.out.1] at ho4 ⊢
  rw [HP.out.2]
  go_wp2_with (fail)
  refine (print_c _ _ _ _ _ (own_reads ho4) (by simp)).mono ?_
  rintro e w5 ⟨rfl, hB5⟩
  have hB := hb.trans (hB5.mono hb.size)
  clear hb hB5 ho4
  generalize printErr [] = y1
  generalize printS [] = y2
  go_wp2_with (fail)
  refine (mails_c _).mono ?_
  rintro e w6 ⟨rfl, hB6⟩
  have hb := hB.trans (hB6.mono hB.size)
  clear hB hB6
  go_wp2_with (fail)
  refine (check_c A n c ms _ ((hr.below hb).more hb.size) hml).mono ?_
  rintro e w7 ⟨rfl, hB7⟩
  have hB := hb.trans (hB7.mono hb.size)
  rw [decide_eq_true hm]
  clear hm hb hB7
  go_wp2_with (fail)
  go_ret
  exact ⟨rfl, hB⟩

set_option maxRecDepth 100000 in
set_option maxHeartbeats 4000000 in
theorem mailBack_11 (A : Option Addr) (n c : Nat) (ms : List Msg) (s : ByteArray) (ns : List Msg) (w : World) (hr : Reads w w.heap.size 4 A n (mv ms)) (hn : n ≤ 100) (hz : s.size ≤ 1000) (hm : allMay ms) (hp : parseO s = some ns) :
    Calls Try.prog 9 #[.slice A n c, .string s] w fun e w' => e = .returned (.bool true) ∧ Below w.heap.size w w' := by
  have hl := hr.mail_len
  have hml : n ≤ maxLen := by unfold maxLen; omega
  have hps := printS_len ms
  have hsz : (printS ms).size ≤ 1000000 := by omega
  have hsz2 : s.size ≤ 1000000 := by omega
  have e1 := print_ok (by omega) hm
  have HQ := Lib.hid (parse_some (parse_back (by omega) hm))
  have HP := Lib.hid (parse_some hp)
  have e2 := (print_back hp).1
  have e3 := Lib.hid (print_back hp).2
  have hln : ns.length ≤ 1000 := by have := parse_len (s := s); rw [HP.out.1] at this; exact this
  have hlm : ns.length ≤ maxLen := by unfold maxLen; omega
  have HL := Lib.hid hl
  clear hp hps hl
  go_enter Try.func9, Try.ntmps9
  go_wp2_with (fail)
  refine (print_c A n c ms _ hr hml).mono ?_
  rintro e w1 ⟨rfl, hB⟩
  go_wp2_with (fail)
  refine (parse_c _ _ hsz).mono ?_
  rintro e w2 ⟨A2, c2, rfl, ho2, hB2⟩
  have hb := hB.trans (hB2.mono hB.size)
  rw [HQ.out.1] at ho2 ⊢
  rw [HQ.out.2]
  rw [HL.out] at ho2 ⊢
  have ho2 := own_more (base := w.heap.size) ho2 hB.size
  clear hB hB2
  go_wp2_with (fail)
  refine (same16_c A2 A n n c2 c ms ms _ (own_reads ho2) ((hr.below hb).more hb.size) hml hml).mono ?_
  rintro e w3 ⟨rfl, hB3⟩
  have hB := hb.trans (hB3.mono hb.size)
  have hT : decide (ms = ms) = true := decide_eq_true rfl
  rw [hT]
  clear hT ho2 hb hB3
  go_wp2_with (fail)
  refine (parse_c _ _ hsz2).mono ?_
  rintro e w4 ⟨A4, c4, rfl, ho4, hB4⟩
  have hb := hB.trans (hB4.mono hB.size)
  clear hB hB4
  rw [HP.out.1] at ho4 ⊢
  rw [HP.out.2]
  go_wp2_with (fail)
  refine (print_c _ _ _ _ _ (own_reads ho4) hlm).mono ?_
  rintro e w5 ⟨rfl, hB5⟩
  have hB := hb.trans (hB5.mono hb.size)
  clear hb hB5 ho4
  rw [e3.out]
  go_wp2_with (fail)
  refine (mails_c _).mono ?_
  rintro e w6 ⟨rfl, hB6⟩
  have hb := hB.trans (hB6.mono hB.size)
  clear hB hB6
  go_wp2_with (fail)
  refine (check_c A n c ms _ ((hr.below hb).more hb.size) hml).mono ?_
  rintro e w7 ⟨rfl, hB7⟩
  have hB := hb.trans (hB7.mono hb.size)
  rw [decide_eq_true hm]
  clear hm hb hB7
  go_wp2_with (fail)
  go_ret
  exact ⟨rfl, hB⟩
end Go.Proofs.Ytgphijfcmegdaaa
