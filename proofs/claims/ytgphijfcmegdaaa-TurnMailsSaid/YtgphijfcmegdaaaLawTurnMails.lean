/-
  TurnMails: the walk.
-/
import Derived.Test.YtgphijfcmegdaaaTrTurns
import Derived.Test.YtgphijfcmegdaaaMailComb
import Derived.Test.YtgphijfcmegdaaaMailSame
namespace Go.Proofs.Ytgphijfcmegdaaa
open Go.RowKit

theorem turnMails_far (A C : Option Addr) (n c m d : Nat) (w : World) (hn : n ≤ maxLen) (hm : m ≤ maxLen) (h : 60 < n ∨ 150 < m) :
    Calls Try.prog 3 #[.slice A n c, .slice C m d] w fun e w' => e = .returned (.bool true) ∧ Below w.heap.size w w' := by
  rcases Nat.lt_or_ge 60 n with h1 | h1
  · go_enter Try.func3, Try.ntmps3
    go_wp2_with (fail)
    go_ret
    exact ⟨rfl, Below.refl _ _⟩
  · have h2 : 150 < m := by omega
    go_enter Try.func3, Try.ntmps3
    go_wp2_with (fail)
    go_ret
    exact ⟨rfl, Below.refl _ _⟩

/-- Where a message of the order lies in what came in. -/
theorem ord_at {ms : List Msg} {n : Nat} (hl : ms.length = n) (ps : List Int) {k : Nat} (hk : k < n) :
    ∃ q : Nat, q < n ∧ (ord (upto n) ps)[k]? = some (q : Int) ∧ (ord ms ps)[k]? = ms[q]? := by
  have hmap : (upto n).map (fun v : Int => ms.getD v.toNat ⟨0, 0, 0, 0⟩) = ms := by
    apply List.ext_getElem?
    intro i
    by_cases hi : i < n
    · rw [List.getElem?_map, upto_get n i hi]
      have : i < ms.length := by omega
      simp [this]
    · rw [List.getElem?_eq_none (by simp [upto_len]; omega), List.getElem?_eq_none (by omega)]
  have hol : (ord (upto n) ps).length = n := by rw [length_ord, upto_len]
  have hx : (ord (upto n) ps)[k]? = some ((ord (upto n) ps)[k]'(by omega)) := List.getElem?_eq_getElem (by omega)
  generalize (ord (upto n) ps)[k]'(by omega) = v at hx
  have hmem : v ∈ upto n := (perm_ord (upto n) ps).mem_iff.1 (List.mem_of_getElem? hx)
  obtain ⟨q, hq, rfl⟩ : ∃ q : Nat, q < n ∧ (q : Int) = v := by
    simp [upto] at hmem
    obtain ⟨q, h1, h2⟩ := hmem
    exact ⟨q, h1, h2⟩
  refine ⟨q, hq, hx, ?_⟩
  have e : ord ms ps = (ord (upto n) ps).map (fun v : Int => ms.getD v.toNat ⟨0, 0, 0, 0⟩) := by rw [← ord_map, hmap]
  rw [e, List.getElem?_map, hx]
  have : q < ms.length := by omega
  simp [this]

set_option maxRecDepth 100000 in
set_option maxHeartbeats 8000000 in
theorem turnMailsLaw_c (A C : Option Addr) (n c m d : Nat) (ms : List Msg) (ps : List Int) (w : World) (hr : Reads w w.heap.size 4 A n (mv ms)) (hrp : Reads w w.heap.size 1 C m (iv ps)) (hn : n ≤ 60) (hm : m ≤ 150) (hf : ∀ m ∈ ms, m.fits) :
    Calls Try.prog 3 #[.slice A n c, .slice C m d] w fun e w' => e = .returned (.bool true) ∧ Below w.heap.size w w' := by
  have hl := hr.mail_len
  have HL := Lib.hid hl
  clear hl
  have hml : n ≤ maxLen := by unfold maxLen; omega
  have hmm : m ≤ maxLen := by unfold maxLen; omega
  go_enter Try.func3, Try.ntmps3
  go_wp2_with (fail)
  refine (turnMails_c A C n c m d ms ps _ hr (by omega) hrp hmm).mono ?_
  rintro e w1 ⟨A5, c5, rfl, ho5, hB⟩
  go_wp2_with (fail)
  refine (turnOrder_c C n m d ps _ (by omega) ((hrp.below hB).more hB.size) hmm).mono ?_
  rintro e w2 ⟨A6, c6, rfl, ho6, hB2⟩
  have ho5 := own_below ho5 hB2
  have ho6 := own_more (base := w.heap.size) ho6 hB.size
  have hb := hB.trans (hB2.mono hB.size)
  clear hB hB2
  go_wp2_with (fail)
  go_loopw [8] (fun i wr => ∃ k : Nat, k ≤ n ∧ i = .int .i64 k ∧ wr.ownsRow w.heap.size 31 4 (.slice A5 n c5) n (mv (ord ms ps)) ∧ wr.ownsRow w.heap.size 3 1 (.slice A6 n c6) n (iv (ord (upto n) ps)) ∧ Below w.heap.size w wr) (fun i _ => n - (intOf i).toNat)
  case atStart => exact ⟨0, Nat.zero_le _, rfl, ho5, ho6, hb⟩
  case round =>
    clear ho5 ho6 hb
    obtain ⟨k, hk, rfl, ho5, ho6, hB⟩ := hrel
    by_cases hlt : k < n
    · obtain ⟨q, hqn, hq1, hq2⟩ := ord_at HL.out ps hlt
      obtain ⟨b5, o5, x, e5, hx, c0, c1, c2, c3⟩ := (own_reads ho5).mail_at hlt
      obtain ⟨b6, o6, v, e6, hv, hcv⟩ := (own_reads ho6).int_at hlt
      obtain ⟨b, o, y, rfl, hy, d0, d1, d2, d3⟩ := (hr.below hB).mail_at hqn
      obtain rfl : v = (q : Int) := by have := hv.out; rw [hq1] at this; exact (Option.some.inj this).symm
      obtain rfl : x = y := by have := hx.out; rw [hq2, hy.out] at this; exact (Option.some.inj this).symm
      subst e5
      subst e6
      have f1 : decide ((q : Int) < 0) = false := by simp
      have f2 : decide ((n : Int) ≤ (q : Int)) = false := by simp; omega
      have f3 : (0 : Int) ≤ (q : Int) := by omega
      have f4 : (q : Int) < (n : Int) := by omega
      clear hx hy hv hq1 hq2
      go_wp2_with (fail)
      go_quiet (fail)
      go_wp2_with (fail)
      go_roundw
      case rel => exact ⟨k + 1, by omega, by go_num, ho5, ho6, below_drewN hB _⟩
      case measure => simp [intOf]; omega
    · clear ho6
      have hsame : Hid (combine (ord ms ps) = combine ms) := combine_same fun m => (perm_ord ms ps).mem_iff
      have hfo : Hid (∀ m ∈ ord ms ps, m.fits) := fun m hm => hf m ((perm_ord ms ps).mem_iff.1 hm)
      go_wp2_with (fail)
      refine (turns_c _).mono ?_
      rintro e w4 ⟨rfl, hB4⟩
      have ho5 := own_below ho5 hB4
      have hb := hB.trans (hB4.mono hB.size)
      clear hB hB4
      go_wp2_with (fail)
      refine (combine_c A5 n c5 (ord ms ps) _ (own_reads ho5) (by omega) hfo.out).mono ?_
      rintro e w6 ⟨A7, n7, c7, rfl, hl7, ho7, hB6⟩
      rw [hsame.out] at ho7 hl7
      have hB := hb.trans (hB6.mono hb.size)
      have H7 := Lib.hid hl7
      clear hl7 hb hB6 ho5
      go_wp2_with (fail)
      refine (combine_c A n c ms _ ((hr.below hB).more hB.size) (by omega) hf).mono ?_
      rintro e w7 ⟨A8, n8, c8, rfl, hl8, ho8, hB7⟩
      obtain rfl : n8 = n7 := by rw [← hl8, H7.out]
      have ho7 := own_below ho7 hB7
      have hb := hB.trans (hB7.mono hB.size)
      have hm8 : n8 ≤ maxLen := Nat.le_trans (own_cap ho8).1 (own_cap ho8).2
      clear hl8 hB hB7
      go_wp2_with (fail)
      refine (same16_c A7 A8 n8 n8 _ _ _ _ _ (own_reads ho7) (own_reads ho8) hm8 hm8).mono ?_
      rintro e w8 ⟨rfl, hB8⟩
      have hT : decide (combine ms = combine ms) = true := decide_eq_true rfl
      rw [hT]
      have hB := hb.trans (hB8.mono hb.size)
      clear hT hb hB8 ho7 ho8
      go_wp2_with (fail)
      refine (turnMails_c A none n c 0 0 ms [] _ ((hr.below hB).more hB.size) (by omega) Reads.none_ (by unfold maxLen; omega)).mono ?_
      rintro e w9 ⟨A9, c9, rfl, ho9, hB9⟩
      rw [ord_none] at ho9
      have hb := hB.trans (hB9.mono hB.size)
      clear hB hB9
      go_wp2_with (fail)
      refine (same16_c A9 A n n _ _ ms ms _ (own_reads ho9) ((hr.below hb).more hb.size) hml hml).mono ?_
      rintro e w10 ⟨rfl, hB10⟩
      have hT : decide (ms = ms) = true := decide_eq_true rfl
      rw [hT]
      have hB := hb.trans (hB10.mono hb.size)
      go_wp2_with (fail)
      go_ret
      exact ⟨rfl, hB⟩
end Go.Proofs.Ytgphijfcmegdaaa
