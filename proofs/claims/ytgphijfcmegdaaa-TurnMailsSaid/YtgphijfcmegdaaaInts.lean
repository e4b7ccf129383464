/-
  The walk of Ints.
-/
import Derived.Test.YtgphijfcmegdaaaProg
import Derived.Test.YtgphijfcmegdaaaMem
import Derived.Handy
import Derived.BigQuiet
import Derived.WalkLawsBesides
import Derived.WalkSpells
namespace Go.Proofs.Ytgphijfcmegdaaa
open Go.RowKit

theorem ints_c (A1 A2 : Option Addr) (n1 n2 c1 c2 : Nat) (xs ys : List Int) (w : World) (h1 : Reads w w.heap.size 1 A1 n1 (iv xs)) (h2 : Reads w w.heap.size 1 A2 n2 (iv ys)) (hn1 : n1 ≤ maxLen) (hn2 : n2 ≤ maxLen) :
    Calls Try.prog 33 #[.slice A1 n1 c1, .slice A2 n2 c2] w fun e w' => e = .returned (.bool (decide (xs = ys))) ∧ Below w.heap.size w w' := by
  have l1 := h1.int_len
  have l2 := h2.int_len
  unfold maxLen at hn1 hn2
  by_cases hn : n1 = n2
  · subst hn
    go_enter Try.func33, Try.ntmps33
    go_wp2
    go_loopw [5] (fun i wr => ∃ k : Nat, k ≤ n1 ∧ i = .int .i64 k ∧ Hid (xs.take k = ys.take k) ∧ Below w.heap.size w wr) (fun i _ => n1 - (intOf i).toNat)
    case atStart => exact ⟨0, Nat.zero_le _, rfl, rfl, Below.refl _ _⟩
    case round =>
      obtain ⟨k, hk, rfl, ht, hB⟩ := hrel
      by_cases hlt : k < n1
      · obtain ⟨a1, o1, x, rfl, hx, hc1⟩ := (h1.below hB).int_at hlt
        obtain ⟨a2, o2, y, rfl, hy, hc2⟩ := (h2.below hB).int_at hlt
        clear h1 h2
        have L1 := Lib.hid l1
        have L2 := Lib.hid l2
        clear l1 l2
        go_wp2
        go_quiet (fail)
        go_wp2
        · have hne : (x != y) = true := by assumption
          have hne : x ≠ y := by simpa using hne
          go_ret
          have hf : ¬ xs = ys := fun e => hne (by
            have e1 := hx.out
            rw [e, hy.out] at e1
            injection e1 with e1; exact e1.symm)
          exact ⟨ret_bool (decide_eq_false hf).symm, below_drewN hB _⟩
        · have he : (x != y) = false := by assumption
          have he : x = y := by simpa using he
          go_roundw
          case rel =>
            refine ⟨k + 1, by omega, by go_num, ?_, below_drewN hB _⟩
            show _ = _
            rw [List.take_add_one, List.take_add_one, ht.out, hx.out, hy.out, he]
          case measure => simp [intOf]; omega
      · obtain rfl : k = n1 := by omega
        have hf : Hid (xs = ys) := by
          have := ht.out
          rw [List.take_of_length_le (by omega), List.take_of_length_le (by omega)] at this
          exact this
        clear l1 l2
        go_wp2
        go_ret
        exact ⟨ret_bool (decide_eq_true hf.out).symm, hB⟩
  · have hf : Hid (¬ xs = ys) := fun e => hn (by rw [← l1, ← l2, e])
    clear l1 l2
    go_enter Try.func33, Try.ntmps33
    go_wp2
    go_ret
    exact ⟨ret_bool (decide_eq_false hf.out).symm, Below.refl _ _⟩
end Go.Proofs.Ytgphijfcmegdaaa
