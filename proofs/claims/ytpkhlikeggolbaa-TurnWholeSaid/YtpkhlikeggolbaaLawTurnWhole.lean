/-
  The walk of the law TurnWhole.
-/
import Derived.Test.YtpkhlikeggolbaaTurns
import Derived.Test.YtpkhlikeggolbaaOrderIs
namespace Go.Proofs.Ytpkhlikeggolbaa
open Go.RowKit

theorem upto_mem (n : Nat) (z : Int) (h : z ∈ upto n) : 0 ≤ z ∧ z < n := by
  unfold upto at h
  obtain ⟨j, hj, rfl⟩ := List.mem_map.1 h
  have := List.mem_range.1 hj
  omega
theorem upto_nodup (n : Nat) : (upto n).Nodup := by
  unfold upto
  rw [List.nodup_iff_pairwise_ne, List.pairwise_map]
  exact List.Pairwise.imp (fun h e => h (by omega)) List.nodup_range
theorem ord_upto_mem (n : Nat) (ps : List Int) : ∀ z ∈ ord (upto n) ps, 0 ≤ z ∧ z < n := fun z hz => upto_mem n z ((perm_ord _ _).mem_iff.1 hz)
theorem ord_upto_nodup (n : Nat) (ps : List Int) : (ord (upto n) ps).Nodup := (perm_ord _ _).symm.nodup (upto_nodup n)

theorem turnWhole_far (n : Int) (A1 : Option Addr) (l1 c1 : Nat) (w : World) (hl1 : l1 ≤ maxLen) (h : 100 < n ∨ 150 < l1) :
    Calls Try.prog 6 #[.int .i64 n, .slice A1 l1 c1] w fun e w' => e = .returned (.bool true) ∧ Below w.heap.size w w' := by
  unfold maxLen at hl1
  by_cases h1 : 100 < n
  · clear h
    go_enter Try.func6, Try.ntmps6
    go_wp2
    go_ret
    exact ⟨rfl, Below.refl _ _⟩
  · have h2 : 150 < l1 := by omega
    clear h
    go_enter Try.func6, Try.ntmps6
    go_wp2
    go_ret
    exact ⟨rfl, Below.refl _ _⟩

theorem turnWhole_neg (n : Int) (A1 : Option Addr) (l1 c1 : Nat) (w : World) (hl1 : l1 ≤ 150) (h : n < 0) :
    Calls Try.prog 6 #[.int .i64 n, .slice A1 l1 c1] w fun e w' => e = .returned (.bool true) ∧ Below w.heap.size w w' := by
  have d1 : decide ((100 : Int) < n) = false := by simp; omega
  go_enter Try.func6, Try.ntmps6
  go_wp2_with (first
    | (go_at_call 13; refine (order_no _ _ _ _ _ (Or.inl h)).mono ?_; rintro e w1 ⟨rfl, rfl⟩)
    | (go_at_call 12; refine (turns_c _).mono ?_; rintro e w1 ⟨rfl, hB⟩))
  go_ret
  exact ⟨rfl, hB⟩

theorem turnWhole_c (N : Nat) (A1 : Option Addr) (l1 c1 : Nat) (ps : List Int) (w : World) (hN : N ≤ 100) (hl1 : l1 ≤ 150) (h1 : Reads w w.heap.size 1 A1 l1 (iv ps)) :
    Calls Try.prog 6 #[.int .i64 N, .slice A1 l1 c1] w fun e w' => e = .returned (.bool true) ∧ Below w.heap.size w w' := by
  have d1 : decide ((100 : Int) < (N : Int)) = false := by simp; omega
  go_enter Try.func6, Try.ntmps6
  go_wp2_with (fail)
  refine (order_c A1 N l1 c1 ps w (by omega) h1 (by unfold maxLen; omega)).mono ?_
  rintro e w2 ⟨A5, c5, rfl, ha, hB⟩
  go_wp2_with (fail)
  refine (order_c none N 0 0 [] w2 (by omega) Reads.none_ (by decide)).mono ?_
  rintro e w3 ⟨A7, c7, rfl, hb, hB3⟩
  have ha3 := own_below ha hB3
  have hB := hB.trans (hB3.mono hB.size)
  rw [ord_none] at hb
  have hmem := Lib.hid (ord_upto_mem N ps)
  have hnd := Lib.hid (ord_upto_nodup N ps)
  have hrb := own_reads hb
  clear ha hB3 hb h1
  go_wp2
  go_loop [9] (fun i => ∃ k : Nat, k ≤ N ∧ i = .int .i64 k) (fun i => N - (intOf i).toNat)
  case atStart => exact ⟨0, Nat.zero_le _, rfl⟩
  case round =>
    obtain ⟨k, hk, rfl⟩ := hrel
    by_cases hlt : k < N
    · obtain ⟨b, o, x, rfl, hx, hcx⟩ := hrb.int_at hlt
      have hxk : x = (k : Int) := by have h2 := hx.out; rw [upto_get N k hlt] at h2; injection h2 with h2; exact h2.symm
      subst hxk
      go_wp2
      go_round
      case rel => exact ⟨k + 1, by omega, by go_num⟩
      case measure => simp [intOf]; omega
    · obtain rfl : N = k := by omega
      go_wp2_with (fail)
      refine (turns_c w3).mono ?_
      rintro e w4 ⟨rfl, hB4⟩
      have ha4 := own_below ha3 hB4
      have hB := hB.trans (hB4.mono hB.size)
      clear ha3 hB4 hrb
      go_wp2_with (fail)
      refine (isOrder_c A5 N c5 _ w4 (own_reads ha4) (by omega) hmem.out hnd.out).mono ?_
      rintro e w5 ⟨rfl, hB5⟩
      have hB := hB.trans (hB5.mono hB.size)
      go_wp2_with (fail)
      go_ret
      exact ⟨rfl, hB⟩
end Go.Proofs.Ytpkhlikeggolbaa
