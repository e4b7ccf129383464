/-
  What may be, what stands ahead, whose home: the small functions.
-/
import Derived.Test.YtgphijfcmegdaaaMailSame
import Derived.Test.YtgphijfcmegdaaaMailPlain
namespace Go.Proofs.Ytgphijfcmegdaaa
open Go.RowKit

def mayK (m : Msg) : Prop := (0 ≤ m.slot ∧ m.slot ≤ 1000) ∧ (m.dir = 0 ∨ m.dir = 1) ∧ (0 ≤ m.v ∧ m.v < 200)
instance (m : Msg) : Decidable (mayK m) := by unfold mayK; infer_instance
def mayM (m : Msg) : Prop := mayK m ∧ (0 ≤ m.d ∧ m.d ≤ 200)
instance (m : Msg) : Decidable (mayM m) := by unfold mayM; infer_instance
def allMay (l : List Msg) : Prop := ∀ m ∈ l, mayM m
instance (l : List Msg) : Decidable (allMay l) := by unfold allMay; infer_instance

theorem below_two (w : World) (o1 o2 : Obj) : Below w.heap.size w ((w.alloc o1).alloc o2) := ((Below.refl _ _).alloc (Nat.le_refl _) _).alloc (by simp) _
theorem below_one (w : World) (o1 : Obj) : Below w.heap.size w (w.alloc o1) := (Below.refl _ _).alloc (Nat.le_refl _) _

set_option maxHeartbeats 2000000 in
theorem less14_c (x y : Msg) (w : World) : Calls Try.prog 27 #[.agg #[.int .i64 x.slot, .int .i64 x.dir, .int .i64 x.v], .agg #[.int .i64 y.slot, .int .i64 y.dir, .int .i64 y.v]] w fun e w' => e = .returned (.bool (decide (kless x y))) ∧ Below w.heap.size w w' := by
  go_enter Try.func27, Try.ntmps27
  go_wp2
  all_goals go_ret
  all_goals refine ⟨ret_bool ?_, below_two _ _ _⟩
  all_goals unfold kless
  all_goals first | (refine Eq.symm (decide_eq_true ?_); omega) | (refine Eq.symm (decide_eq_false ?_); omega) | (refine decide_eq_decide.2 ?_; omega) | trace_state

set_option maxHeartbeats 2000000 in
theorem may14_c (x : Msg) (w : World) : Calls Try.prog 55 #[.agg #[.int .i64 x.slot, .int .i64 x.dir, .int .i64 x.v]] w fun e w' => e = .returned (.bool (decide (mayK x))) ∧ Below w.heap.size w w' := by
  go_enter Try.func55, Try.ntmps55
  go_wp2
  all_goals go_ret
  all_goals refine ⟨ret_bool ?_, below_one _ _⟩
  all_goals unfold mayK
  all_goals first | (refine Eq.symm (decide_eq_true ?_); omega) | (refine Eq.symm (decide_eq_false ?_); omega) | (refine decide_eq_decide.2 ?_; omega) | trace_state

set_option maxHeartbeats 2000000 in
theorem may16_c (x : Msg) (w : World) : Calls Try.prog 46 #[.agg #[.int .i64 x.slot, .int .i64 x.dir, .int .i64 x.v, .int .i64 x.d]] w fun e w' => e = .returned (.bool (decide (mayM x))) ∧ Below w.heap.size w w' := by
  go_enter Try.func46, Try.ntmps46
  go_wp2_with (go_at_call 55; refine (may14_c x _).mono ?_; rintro e w3 ⟨rfl, hB3⟩; have d3 : w3.cell? ⟨w.heap.size, 3, none⟩ = some (.int .i64 x.d) := by rw [hB3.cell (by simp)]; simp)
  all_goals have hBB := (below_one w (.cells #[.int .i64 x.slot, .int .i64 x.dir, .int .i64 x.v, .int .i64 x.d] 31)).trans (hB3.mono (by simp))
  all_goals go_ret
  all_goals refine ⟨ret_bool ?_, hBB⟩
  all_goals unfold mayM
  all_goals first | (refine decide_eq_decide.2 ⟨fun h => ⟨by assumption, by omega, h⟩, fun h => h.2.2⟩) | (refine Eq.symm (decide_eq_false fun h => ?_); first | omega | exact absurd h.1 (by assumption))

set_option maxHeartbeats 2000000 in
theorem may_c (x : Msg) (w : World) : Calls Try.prog 45 #[.agg #[.int .i64 x.slot, .int .i64 x.dir, .int .i64 x.v, .int .i64 x.d]] w fun e w' => e = .returned (.bool (decide (mayM x))) ∧ Below w.heap.size w w' := by
  go_enter Try.func45, Try.ntmps45
  go_wp2
  all_goals go_ret
  all_goals refine ⟨ret_bool ?_, below_two _ _ _⟩
  all_goals unfold mayM mayK
  all_goals first | (refine Eq.symm (decide_eq_true ?_); omega) | (refine Eq.symm (decide_eq_false ?_); omega) | (refine decide_eq_decide.2 ?_; omega) | trace_state

theorem check16_c (A : Option Addr) (n c : Nat) (xs : List Msg) (w : World) (h1 : Reads w w.heap.size 4 A n (mv xs)) (hn1 : n ≤ maxLen) :
    Calls Try.prog 23 #[.slice A n c] w fun e w' => e = .returned (.bool (decide (allMay xs))) ∧ Below w.heap.size w w' := by
  have l1 := h1.mail_len
  unfold maxLen at hn1
  go_enter Try.func23, Try.ntmps23
  go_wp2_with (fail)
  go_loopw [3] (fun i wr => ∃ k : Nat, k ≤ n ∧ i = .int .i64 k ∧ Hid (allMay (xs.take k)) ∧ Below w.heap.size w wr) (fun i _ => n - (intOf i).toNat)
  case atStart => exact ⟨0, Nat.zero_le _, rfl, fun m hm => by simp at hm, Below.refl _ _⟩
  case round =>
    obtain ⟨k, hk, rfl, ht, hB⟩ := hrel
    by_cases hlt : k < n
    · obtain ⟨a1, o1, x, rfl, hx, hc10, hc11, hc12, hc13⟩ := (h1.below hB).mail_at hlt
      clear h1
      have L1 := Lib.hid l1
      clear l1
      go_wp2_with (fail)
      refine (may16_c x _).mono ?_
      rintro e w3 ⟨rfl, hB3⟩
      have hBB := hB.trans (hB3.mono hB.size)
      clear hB3
      by_cases hm : mayM x
      · have hd : decide (mayM x) = true := decide_eq_true hm
        rw [hd]
        have HM := Lib.hid hm
        clear hm hd
        go_wp2_with (fail)
        go_roundw
        case rel =>
          refine ⟨k + 1, by omega, by go_num, fun m hm => ?_, hBB⟩
          rw [List.take_add_one, hx.out] at hm
          rcases List.mem_append.1 hm with h | h
          · exact ht.out m h
          · simp at h; subst h; exact HM.out
        case measure => simp [intOf]; omega
      · have hd : decide (mayM x) = false := decide_eq_false hm
        rw [hd]
        have HM := Lib.hid hm
        clear hm hd
        go_wp2_with (fail)
        go_ret
        exact ⟨ret_bool (decide_eq_false fun h => HM.out (h x (List.mem_of_getElem? hx.out))).symm, hBB⟩
    · obtain rfl : n = k := by omega
      have hf : Hid (allMay xs) := by
        have := ht.out
        rw [List.take_of_length_le (by omega)] at this
        exact this
      clear l1
      go_wp2_with (fail)
      go_ret
      exact ⟨ret_bool (decide_eq_true hf.out).symm, hB⟩

theorem check_c (A : Option Addr) (n c : Nat) (xs : List Msg) (w : World) (h1 : Reads w w.heap.size 4 A n (mv xs)) (hn1 : n ≤ maxLen) :
    Calls Try.prog 22 #[.slice A n c] w fun e w' => e = .returned (.bool (decide (allMay xs))) ∧ Below w.heap.size w w' := by
  have l1 := h1.mail_len
  unfold maxLen at hn1
  go_enter Try.func22, Try.ntmps22
  go_wp2_with (fail)
  go_loopw [7] (fun i wr => ∃ k : Nat, k ≤ n ∧ i = .int .i64 k ∧ Hid (allMay (xs.take k)) ∧ Below w.heap.size w wr) (fun i _ => n - (intOf i).toNat)
  case atStart => exact ⟨0, Nat.zero_le _, rfl, fun m hm => by simp at hm, Below.refl _ _⟩
  case round =>
    obtain ⟨k, hk, rfl, ht, hB⟩ := hrel
    by_cases hlt : k < n
    · obtain ⟨a1, o1, x, rfl, hx, hc10, hc11, hc12, hc13⟩ := (h1.below hB).mail_at hlt
      clear h1
      have L1 := Lib.hid l1
      clear l1
      go_wp2_with (fail)
      refine (may_c x _).mono ?_
      rintro e w3 ⟨rfl, hB3⟩
      have hBB := (hB.alloc hB.size _).trans (hB3.mono (by simp; have := hB.size; omega))
      clear hB3
      by_cases hm : mayM x
      · have hd : decide (mayM x) = true := decide_eq_true hm
        rw [hd]
        have HM := Lib.hid hm
        clear hm hd
        go_wp2_with (fail)
        go_roundw
        case rel =>
          refine ⟨k + 1, by omega, by go_num, fun m hm => ?_, hBB⟩
          rw [List.take_add_one, hx.out] at hm
          rcases List.mem_append.1 hm with h | h
          · exact ht.out m h
          · simp at h; subst h; exact HM.out
        case measure => simp [intOf]; omega
      · have hd : decide (mayM x) = false := decide_eq_false hm
        rw [hd]
        have HM := Lib.hid hm
        clear hm hd
        go_wp2_with (fail)
        go_ret
        exact ⟨ret_bool (decide_eq_false fun h => HM.out (h x (List.mem_of_getElem? hx.out))).symm, hBB⟩
    · obtain rfl : n = k := by omega
      have hf : Hid (allMay xs) := by
        have := ht.out
        rw [List.take_of_length_le (by omega)] at this
        exact this
      clear l1
      go_wp2_with (fail)
      go_ret
      exact ⟨ret_bool (decide_eq_true hf.out).symm, hB⟩

/-- Whose home a place is. -/
def homeOk (v k : Int) : Prop := (0 ≤ v ∧ v ≤ 1000000) ∧ (1 ≤ k ∧ k ≤ 16)
instance (v k : Int) : Decidable (homeOk v k) := by unfold homeOk; infer_instance
def homeI (v k : Int) : Int := if homeOk v k then (v * 40503 + 12345) % 65536 % k else 0

theorem home_no (f : Nat) (v k : Int) (w : World) (hf : f = 28 ∨ f = 40) (h : ¬ homeOk v k) : Calls Try.prog f #[.int .i64 v, .int .i64 k] w fun e w' => e = .returned (.tuple #[.int .i64 (homeI v k), .bool (decide (homeOk v k))]) ∧ Below w.heap.size w w' := by
  have e1 : homeI v k = 0 := by unfold homeI; rw [if_neg h]
  have e2 : decide (homeOk v k) = false := decide_eq_false h
  rw [e1, e2]
  have h' : v < 0 ∨ 1000000 < v ∨ k < 1 ∨ 16 < k := by unfold homeOk at h; omega
  clear h e1 e2
  rcases hf with rfl | rfl
  · go_enter Try.func28, Try.ntmps28
    go_wp2_with (fail)
    all_goals go_ret2
    all_goals exact ⟨rfl, Below.refl _ _⟩
  · go_enter Try.func40, Try.ntmps40
    go_wp2_with (fail)
    all_goals go_ret2
    all_goals exact ⟨rfl, Below.refl _ _⟩

theorem home_yes (f : Nat) (v k : Int) (w : World) (hf : f = 28 ∨ f = 40) (h : homeOk v k) : Calls Try.prog f #[.int .i64 v, .int .i64 k] w fun e w' => e = .returned (.tuple #[.int .i64 (homeI v k), .bool (decide (homeOk v k))]) ∧ Below w.heap.size w w' := by
  have e1 : Hid (homeI v k = (v * 40503 + 12345) % 65536 % k) := by show _ = _; unfold homeI; rw [if_pos h]
  have e2 : decide (homeOk v k) = true := decide_eq_true h
  rw [e2]
  obtain ⟨⟨h1, h2⟩, h3, h4⟩ := h
  clear e2
  rcases hf with rfl | rfl
  · go_enter Try.func28, Try.ntmps28
    go_wp2_with (fail)
    go_ret2
    exact ⟨by rw [e1.out]; rfl, Below.refl _ _⟩
  · go_enter Try.func40, Try.ntmps40
    go_wp2_with (fail)
    go_ret2
    exact ⟨by rw [e1.out]; rfl, Below.refl _ _⟩

theorem home_c (v k : Int) (w : World) : Calls Try.prog 28 #[.int .i64 v, .int .i64 k] w fun e w' => e = .returned (.tuple #[.int .i64 (homeI v k), .bool (decide (homeOk v k))]) ∧ Below w.heap.size w w' := by
  by_cases h : homeOk v k
  · exact home_yes _ v k w (.inl rfl) h
  · exact home_no _ v k w (.inl rfl) h
theorem home06_c (v k : Int) (w : World) : Calls Try.prog 40 #[.int .i64 v, .int .i64 k] w fun e w' => e = .returned (.tuple #[.int .i64 (homeI v k), .bool (decide (homeOk v k))]) ∧ Below w.heap.size w w' := by
  by_cases h : homeOk v k
  · exact home_yes _ v k w (.inr rfl) h
  · exact home_no _ v k w (.inr rfl) h
end Go.Proofs.Ytgphijfcmegdaaa
