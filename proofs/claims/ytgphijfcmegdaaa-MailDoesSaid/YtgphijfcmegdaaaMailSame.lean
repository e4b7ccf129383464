/-
  The walks of Own and Same of messages (for a seat without turn).
-/
import Derived.Test.YtgphijfcmegdaaaEl
namespace Go.Proofs.Ytgphijfcmegdaaa
open Go.RowKit

theorem own16_c (A : Option Addr) (n c : Nat) (xs : List Msg) (w : World) (h1 : Reads w w.heap.size 4 A n (mv xs)) (hn : n * 32 ≤ 140737488355328) :
    Calls Try.prog 15 #[.slice A n c] w fun e w' => ∃ A' c', e = .returned (.slice A' n c') ∧ w'.ownsRow w.heap.size 31 4 (.slice A' n c') n (mv xs) ∧ Below w.heap.size w w' := by
  go_enter Try.func15, Try.ntmps15
  go_wp2_with (at_builtin; refine wpList_cat elMail rfl _ _ rfl (own_nil (base := w.heap.size)) rfl h1 rfl (mv_one _) (by unfold maxLen; omega) (by omega) (Nat.le_refl _) ?_; intro A1 c1 w1 hown p1)
  go_ret
  exact ⟨A1, c1, rfl, by simpa using hown, p1.below0 (Below.refl _ _) (Nat.le_refl _)⟩

def mval (m : Msg) : Value := .agg #[.int .i64 m.slot, .int .i64 m.dir, .int .i64 m.v, .int .i64 m.d]

theorem run_neq_mail (x y : Msg) (h : x ≠ y) (w : World) :
    (binOp .neq 31 (.agg #[.int .i64 x.slot, .int .i64 x.dir, .int .i64 x.v, .int .i64 x.d]) (.agg #[.int .i64 y.slot, .int .i64 y.dir, .int .i64 y.v, .int .i64 y.d])).run Try.prog w = .ok (.bool true) w := by
  have h' : ¬ (x.slot = y.slot ∧ x.dir = y.dir ∧ x.v = y.v ∧ x.d = y.d) := fun e => h ((Msg.eq_iff _ _).2 e)
  have H := Lib.hid h'
  clear h h'
  go_simp
  by_cases e1 : x.slot = y.slot
  · by_cases e2 : x.dir = y.dir
    · by_cases e3 : x.v = y.v
      · by_cases e4 : x.d = y.d
        · exact absurd ⟨e1, e2, e3, e4⟩ H.out
        · simp [e1, e2, e3, e4]
      · simp [e1, e2, e3]
    · simp [e1, e2]
  · simp [e1]

theorem run_eql_mail (x y : Msg) (h : x ≠ y) (w : World) :
    (binOp .eql 31 (.agg #[.int .i64 x.slot, .int .i64 x.dir, .int .i64 x.v, .int .i64 x.d]) (.agg #[.int .i64 y.slot, .int .i64 y.dir, .int .i64 y.v, .int .i64 y.d])).run Try.prog w = .ok (.bool false) w := by
  have h' : ¬ (x.slot = y.slot ∧ x.dir = y.dir ∧ x.v = y.v ∧ x.d = y.d) := fun e => h ((Msg.eq_iff _ _).2 e)
  have H := Lib.hid h'
  clear h h'
  go_simp
  by_cases e1 : x.slot = y.slot
  · by_cases e2 : x.dir = y.dir
    · by_cases e3 : x.v = y.v
      · by_cases e4 : x.d = y.d
        · exact absurd ⟨e1, e2, e3, e4⟩ H.out
        · simp [e1, e2, e3, e4]
      · simp [e1, e2, e3]
    · simp [e1, e2]
  · simp [e1]

theorem same16_c (A1 A2 : Option Addr) (n1 n2 c1 c2 : Nat) (xs ys : List Msg) (w : World) (h1 : Reads w w.heap.size 4 A1 n1 (mv xs)) (h2 : Reads w w.heap.size 4 A2 n2 (mv ys)) (hn1 : n1 ≤ maxLen) (hn2 : n2 ≤ maxLen) :
    Calls Try.prog 13 #[.slice A1 n1 c1, .slice A2 n2 c2] w fun e w' => e = .returned (.bool (decide (xs = ys))) ∧ Below w.heap.size w w' := by
  have l1 := h1.mail_len
  have l2 := h2.mail_len
  unfold maxLen at hn1 hn2
  by_cases hn : n1 = n2
  · subst hn
    go_enter Try.func13, Try.ntmps13
    go_wp2
    go_loopw [5] (fun i wr => ∃ k : Nat, k ≤ n1 ∧ i = .int .i64 k ∧ Hid (xs.take k = ys.take k) ∧ Below w.heap.size w wr) (fun i _ => n1 - (intOf i).toNat)
    case atStart => exact ⟨0, Nat.zero_le _, rfl, rfl, Below.refl _ _⟩
    case round =>
      obtain ⟨k, hk, rfl, ht, hB⟩ := hrel
      by_cases hlt : k < n1
      · obtain ⟨a1, o1, x, rfl, hx, hc10, hc11, hc12, hc13⟩ := (h1.below hB).mail_at hlt
        obtain ⟨a2, o2, y, rfl, hy, hc20, hc21, hc22, hc23⟩ := (h2.below hB).mail_at hlt
        clear h1 h2
        have L1 := Lib.hid l1
        have L2 := Lib.hid l2
        clear l1 l2
        by_cases hxy : x = y
        · subst hxy
          go_wp2
          go_quiet (fail)
          go_wp2
          go_roundw
          case rel =>
            refine ⟨k + 1, by omega, by go_num, ?_, below_drewN hB _⟩
            show _ = _
            rw [List.take_add_one, List.take_add_one, ht.out, hx.out, hy.out]
          case measure => simp [intOf]; omega
        · have hrun := run_neq_mail x y hxy
          have hxy := Lib.hid hxy
          go_wp2
          go_quiet (fail)
          go_wp2
          have hf : ¬ xs = ys := fun e => hxy.out (by
            have e1 := hx.out
            rw [e, hy.out] at e1
            injection e1 with e1; exact e1.symm)
          go_ret
          exact ⟨ret_bool (decide_eq_false hf).symm, below_drewN hB _⟩
      · obtain rfl : n1 = k := by omega
        have hf : Hid (xs = ys) := by
          have := ht.out
          rw [List.take_of_length_le (by omega), List.take_of_length_le (by omega)] at this
          exact this
        clear l1 l2
        go_wp2
        go_ret
        exact ⟨ret_bool (decide_eq_true hf.out).symm, hB⟩
  · have hf : Hid (¬ xs = ys) := fun e => hn (by rw [← l1, ← l2, e])
    clear l1 l2
    go_enter Try.func13, Try.ntmps13
    go_wp2
    go_ret
    exact ⟨ret_bool (decide_eq_false hf.out).symm, Below.refl _ _⟩
end Go.Proofs.Ytgphijfcmegdaaa
