/-
  The walk of the law TurnDeals.
-/
import Derived.Test.YtpkhlikeggolbaaTurns
import Derived.Test.YtpkhlikeggolbaaDeal
namespace Go.Proofs.Ytpkhlikeggolbaa
open Go.RowKit

theorem turnDeals_far (A1 : Option Addr) (l1 c1 : Nat) (p : Int) (w : World) (hl1 : l1 ≤ maxLen) (h : 200 < l1) :
    Calls Try.prog 4 #[.slice A1 l1 c1, .int .i64 p] w fun e w' => e = .returned (.bool true) ∧ Below w.heap.size w w' := by
  unfold maxLen at hl1
  go_enter Try.func4, Try.ntmps4
  go_wp2
  go_ret
  exact ⟨rfl, Below.refl _ _⟩

theorem turnDeals_no (A1 : Option Addr) (l1 c1 : Nat) (p : Int) (w : World) (hl1 : l1 ≤ 200) (h : p < 1 ∨ 100 < p) :
    Calls Try.prog 4 #[.slice A1 l1 c1, .int .i64 p] w fun e w' => e = .returned (.bool true) ∧ Below w.heap.size w w' := by
  have hd := Lib.hid h
  by_cases h1 : p < 1
  · clear h
    go_enter Try.func4, Try.ntmps4
    go_wp2_with (first
      | (go_at_call 15; refine (deal_no _ _ _ _ _ hd.out).mono ?_; rintro e w1 ⟨rfl, rfl⟩)
      | (go_at_call 12; refine (turns_c _).mono ?_; rintro e w1 ⟨rfl, hB⟩))
    go_ret
    exact ⟨rfl, hB⟩
  · have h2 : 100 < p := by omega
    clear h
    go_enter Try.func4, Try.ntmps4
    go_wp2_with (first
      | (go_at_call 15; refine (deal_no _ _ _ _ _ hd.out).mono ?_; rintro e w1 ⟨rfl, rfl⟩)
      | (go_at_call 12; refine (turns_c _).mono ?_; rintro e w1 ⟨rfl, hB⟩))
    go_ret
    exact ⟨rfl, hB⟩

theorem own_head' {w : World} {base e size n c : Nat} {A : Option Addr} {xs : List Value} (h : w.ownsRow base e size (.slice A n c) n xs) (hn : 0 < n) : ∃ g, A = some ⟨g, 0, none⟩ := by
  obtain ⟨g, cap, hv, _⟩ := h.form hn
  injection hv with h1
  exact ⟨g, h1⟩

theorem sum_take_le (l : List Nat) : ∀ k, (l.take k).sum ≤ l.sum := by
  intro k
  conv => rhs; rw [← List.take_append_drop k l, List.sum_append]
  omega

theorem turnDeals_c (A1 : Option Addr) (l1 c1 p : Nat) (ps : List Int) (w : World) (hl1 : l1 ≤ 200) (hp1 : 1 ≤ p) (hp2 : p ≤ 100) (h1 : Reads w w.heap.size 1 A1 l1 (iv ps)) :
    Calls Try.prog 4 #[.slice A1 l1 c1, .int .i64 p] w fun e w' => e = .returned (.bool true) ∧ Below w.heap.size w w' := by
  have hlp := Lib.hid h1.int_len
  have d1 : decide ((p : Int) < 1) = false := by simp; omega
  go_enter Try.func4, Try.ntmps4
  go_wp2_with (fail)
  refine (deal_c _ _ _ _ ps w hp1 hp2 h1 (by omega)).mono ?_
  rintro e w2 ⟨A5, c5, vs, rfl, ho, hrs, hB⟩
  obtain ⟨g, rfl⟩ := own_head' ho (by omega)
  have hsum := Lib.hid (sum_dealt ps p (by omega))
  have hsz := hB.size
  go_wp2
  go_loop [7, 6] (fun i n => ∃ (k s : Nat), k ≤ p ∧ s ≤ l1 ∧ i = .int .i64 k ∧ n = .int .i64 s ∧ Hid (s = (((dealt ps p).take k).map List.length).sum)) (fun i _ => p - (intOf i).toNat)
  case atStart => exact ⟨0, 0, Nat.zero_le _, Nat.zero_le _, rfl, rfl, rfl⟩
  case round =>
    obtain ⟨k, s, hk, hs, rfl, rfl, hse⟩ := hrel
    by_cases hlt : k < p
    · obtain ⟨Ar, mr, cr, hv, hor⟩ := hrs.at_ (i := k) (r := iv (dealFrom ps p k 0)) (by rw [ivs, List.getElem?_map, dealt_get _ _ _ hlt]; rfl)
      have hcr := own_slice_at ho hv
      have hmr : Hid (mr = (dealFrom ps p k 0).length) := by show _ = _; have := hor.1; rw [iv_len] at this; omega
      have hnext : Hid (s + mr = (((dealt ps p).take (k + 1)).map List.length).sum) := by
        show _ = _
        rw [List.take_add_one, dealt_get _ _ _ hlt, List.map_append, List.sum_append, ← hse.out, hmr.out]; simp
      have hle : s + mr ≤ l1 := by
        have h2 := sum_take_le ((dealt ps p).map List.length) (k + 1)
        rw [← List.map_take, ← hnext.out, hsum.out, hlp.out] at h2; exact h2
      clear hv hor
      go_wp2
      go_round
      case rel => exact ⟨k + 1, s + mr, by omega, hle, by go_num, by go_num, hnext⟩
      case measure => simp [intOf]; omega
    · obtain rfl : p = k := by omega
      have hs2 : s = l1 := by
        have h2 := hse.out
        rw [List.take_of_length_le (by rw [dealt_len]; exact Nat.le_refl _), hsum.out, hlp.out] at h2; exact h2
      subst hs2
      clear hse
      go_wp2
      go_loopw [8] (fun i wr => ∃ k : Nat, k ≤ s ∧ i = .int .i64 k ∧ Below w2.heap.size w2 wr) (fun i _ => s - (intOf i).toNat)
      case atStart => exact ⟨0, Nat.zero_le _, rfl, Below.refl _ _⟩
      case round =>
        obtain ⟨k, hk, rfl, hB2⟩ := hrel
        by_cases hlt : k < s
        · obtain ⟨b, o, x, rfl, hx, hcx⟩ := ((h1.below hB).below (hB2.mono hsz)).int_at hlt
          have hm := Nat.mod_lt k (show 0 < p by omega)
          obtain ⟨r, hrk⟩ : ∃ r, Hid (k % p = r) := ⟨_, rfl⟩
          obtain ⟨q, hqk⟩ : ∃ q, Hid (k / p = q) := ⟨_, rfl⟩
          rw [hrk.out] at hm
          have hat : (dealFrom ps p r 0)[q]? = some x := by
            rw [← hrk.out, ← hqk.out, dealt_at ps p k (by omega) (by rw [hlp.out]; exact hlt)]; exact hx.out
          obtain ⟨Ar, mr, cr, hv, hor⟩ := (hrs.below hB2).at_ (i := r) (r := iv (dealFrom ps p r 0)) (by rw [ivs, List.getElem?_map, dealt_get _ _ _ hm]; rfl)
          have hcr := own_slice_at (own_below ho hB2) hv
          have hqm : q < mr := by
            have h2 := (List.getElem?_eq_some_iff.1 hat).1
            have h3 := hor.1
            rw [iv_len] at h3; omega
          obtain ⟨gr, rfl⟩ := own_head' hor (by omega)
          obtain ⟨y, hy, hcy⟩ := own_int_at hor hqm
          have hyx : y = x := by have h2 := hy.out; rw [hat] at h2; injection h2 with h2; exact h2.symm
          subst hyx
          have hmr2 : mr ≤ 200 := by
            have h3 := hor.1
            rw [iv_len] at h3
            have h4 := dealFrom_le p r ps 0
            have h5 := hlp.out
            omega
          have f0 : ¬ p = 0 := by omega
          have f1 : (k : Int).tmod (p : Int) = (r : Int) := by rw [Int.tmod_eq_emod_of_nonneg (by omega), ← hrk.out]; rfl
          have f2 : (k : Int) % (p : Int) = (r : Int) := by rw [← hrk.out]; rfl
          have f5 : (k : Int).tdiv (p : Int) = (q : Int) := by rw [Int.tdiv_eq_ediv_of_nonneg (by omega), ← hqk.out]; rfl
          have f6 : (k : Int) / (p : Int) = (q : Int) := by rw [← hqk.out]; rfl
          have f3 : (0 : Int) ≤ (r : Int) := by omega
          have f4 : (r : Int) < (p : Int) := by omega
          have f7 : decide ((mr : Int) ≤ (q : Int)) = false := by simp; omega
          have f8 : (0 : Int) ≤ (q : Int) := by omega
          have f9 : (q : Int) < (mr : Int) := by omega
          have f10 : IntKind.i64.wrap (q : Int) = (q : Int) := IntWalk.i64_in _ (by omega)
          clear hat hor hv hlp
          go_wp2
          go_quiet (fail)
          go_wp2
          go_roundw
          case rel => exact ⟨k + 1, by omega, by go_num, below_drewN hB2 _⟩
          case measure => simp [intOf]; omega
        · obtain rfl : s = k := by omega
          have hB3 := hB.trans (hB2.mono hsz)
          go_wp2_with (go_at_call 12; refine (turns_c _).mono ?_; rintro e w3 ⟨rfl, hB4⟩)
          go_ret
          exact ⟨rfl, hB3.trans (hB4.mono hB3.size)⟩
end Go.Proofs.Ytpkhlikeggolbaa
