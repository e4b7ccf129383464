/-
  The walk of the law TurnLeft.
-/
import Derived.Test.YtpkhlikeggolbaaTurns
import Derived.Deep.DeepCutAuto
namespace Go.Proofs.Ytpkhlikeggolbaa
open Go.RowKit

theorem turnLeft_far (n : Int) (A1 A2 : Option Addr) (l1 l2 c1 c2 : Nat) (w : World) (hl1 : l1 ≤ maxLen) (hl2 : l2 ≤ maxLen) (h : n < 0 ∨ 60 < n ∨ 100 < l1 ∨ 100 < l2) :
    Calls Try.prog 3 #[.int .i64 n, .slice A1 l1 c1, .slice A2 l2 c2] w fun e w' => e = .returned (.bool true) ∧ Below w.heap.size w w' := by
  unfold maxLen at hl1 hl2
  by_cases h1 : n < 0
  · go_enter Try.func3, Try.ntmps3
    go_wp2_with (go_at_call 12; refine (turns_c _).mono ?_; rintro e w1 ⟨rfl, hB⟩)
    go_ret
    exact ⟨rfl, hB⟩
  by_cases h2 : 60 < n
  · clear h
    go_enter Try.func3, Try.ntmps3
    go_wp2_with (go_at_call 12; refine (turns_c _).mono ?_; rintro e w1 ⟨rfl, hB⟩)
    go_ret
    exact ⟨rfl, hB⟩
  by_cases h3 : 100 < l1
  · clear h
    go_enter Try.func3, Try.ntmps3
    go_wp2_with (go_at_call 12; refine (turns_c _).mono ?_; rintro e w1 ⟨rfl, hB⟩)
    go_ret
    exact ⟨rfl, hB⟩
  have h4 : 100 < l2 := by omega
  clear h
  go_enter Try.func3, Try.ntmps3
  go_wp2_with (go_at_call 12; refine (turns_c _).mono ?_; rintro e w1 ⟨rfl, hB⟩)
  go_ret
  exact ⟨rfl, hB⟩

/-- Picks that are as many more than a multiple of what is left, as far as they go. -/
def MoreOk (n : Nat) (ps ms : List Int) : Prop := ∀ i, i < n → i < ms.length → ∃ t : Int, ms[i]?.getD 0 = ps[i]?.getD 0 + t * ((n : Int) - i)

theorem MoreOk.nil (n : Nat) (ps : List Int) : MoreOk n ps [] := fun i _ h => absurd h (by simp)
theorem MoreOk.snoc {n : Nat} {ps ms : List Int} (h : MoreOk n ps ms) {x y t : Int} (hx : ps[ms.length]? = some x) (hy : ms.length < n → y = x + t * ((n : Int) - ms.length)) : MoreOk n ps (ms ++ [y]) := by
  intro i hi hl
  rcases Nat.lt_or_ge i ms.length with h1 | h1
  · obtain ⟨t, ht⟩ := h i hi h1
    exact ⟨t, by rw [List.getElem?_append_left h1]; exact ht⟩
  · have e : i = ms.length := by simp at hl; omega
    subst e
    refine ⟨t, ?_⟩
    rw [List.getElem?_append_right (Nat.le_refl _), Nat.sub_self, hx]
    exact hy hi

theorem MoreOk.ord_eq {n : Nat} {ps ms : List Int} (h : MoreOk n ps ms) (hl : ms.length = ps.length) : ord (upto n) ps = ord (upto n) ms := by
  unfold ord
  rw [upto_len]
  exact ordN_more n (upto n) ps ms (upto_len n) hl.symm (fun i h1 h2 => h i h1 (by omega))

theorem prod_bd (t d : Int) (h1 : -1000 ≤ t) (h2 : t ≤ 1000) (h3 : 0 ≤ d) (h4 : d ≤ 60) : -60000 ≤ t * d ∧ t * d ≤ 60000 := by
  have a := Int.mul_le_mul_of_nonneg_right h1 h3
  have b := Int.mul_le_mul_of_nonneg_right h2 h3
  omega

theorem turnLeft_c (N : Nat) (A1 A2 : Option Addr) (l1 l2 c1 c2 : Nat) (ps ts : List Int) (w : World) (hN : N ≤ 60) (hl1 : l1 ≤ 100) (hl2 : l2 ≤ 100) (h1 : Reads w w.heap.size 1 A1 l1 (iv ps)) (h2 : Reads w w.heap.size 1 A2 l2 (iv ts)) :
    Calls Try.prog 3 #[.int .i64 N, .slice A1 l1 c1, .slice A2 l2 c2] w fun e w' => e = .returned (.bool true) ∧ Below w.heap.size w w' := by
  have hlp := Lib.hid h1.int_len
  have d1 : decide ((N : Int) < 0) = false := by simp
  have d2 : decide ((60 : Int) < (N : Int)) = false := by simp; omega
  have d3 : decide ((100 : Int) < (l1 : Int)) = false := by simp; omega
  go_enter Try.func3, Try.ntmps3
  go_wp2
  go_loopw [8, 7] (fun i more wr => ∃ (k : Nat) (ms : List Int) (A7 : Option Addr) (c7 : Nat), k ≤ l1 ∧ i = .int .i64 k ∧ more = .slice A7 k c7 ∧ wr.ownsRow w.heap.size 3 1 (.slice A7 k c7) k (iv ms) ∧
      Hid (ms.length = k ∧ MoreOk N ps ms) ∧ Below w.heap.size w wr) (fun i _ _ => l1 - (intOf i).toNat)
  case atStart => exact ⟨0, [], none, 0, Nat.zero_le _, rfl, rfl, own_nil, ⟨rfl, MoreOk.nil _ _⟩, Below.refl _ _⟩
  case round =>
    obtain ⟨k, ms, A7, c7, hk, rfl, rfl, ho, hms, hB⟩ := hrel
    have hsz := hB.size
    by_cases hlt : k < l1
    · obtain ⟨b, o, x, rfl, hx, hcx⟩ := (h1.below hB).int_at hlt
      by_cases hbig : x < -1000000 ∨ 1000000 < x
      · clear ho hms h1 h2
        rcases hbig with hbig | hbig
        · go_wp2_with (go_at_call 12; refine (turns_c _).mono ?_; rintro e w1 ⟨rfl, hB1⟩)
          go_ret
          exact ⟨rfl, hB.trans (hB1.mono hsz)⟩
        · have hb2 : ¬ x < -1000000 := by omega
          go_wp2_with (go_at_call 12; refine (turns_c _).mono ?_; rintro e w1 ⟨rfl, hB1⟩)
          go_ret
          exact ⟨rfl, hB.trans (hB1.mono hsz)⟩
      have hx1 : -1000000 ≤ x := by omega
      have hx2 : x ≤ 1000000 := by omega
      clear hbig
      by_cases g1 : k < l2
      · obtain ⟨b2, o2, t, rfl, ht, hct⟩ := (h2.below hB).int_at g1
        clear h1 h2
        by_cases g2 : k < N
        · by_cases g3 : -1000 ≤ t
          · by_cases g4 : t ≤ 1000
            · have hp1 := (prod_bd t ((N : Int) - (k : Int)) g3 g4 (by omega) (by omega)).1
              have hp2 := (prod_bd t ((N : Int) - (k : Int)) g3 g4 (by omega) (by omega)).2
              go_wp2_with (at_builtin; refine wpList_push elInt rfl _ _ rfl ho rfl _ rfl rfl (one_int _ _) (by unfold maxLen; omega) (by omega) hsz ?_; intro A4 c4 w4 ho4 p4)
              go_roundw
              case rel =>
                refine ⟨k + 1, ms ++ [x + t * ((N : Int) - (k : Int))], A4, c4, by omega, by go_num, rfl, by rw [iv_append]; exact ho4, ⟨by simp [hms.out.1], hms.out.2.snoc (t := t) (by rw [hms.out.1]; exact hx.out) (fun _ => by rw [hms.out.1])⟩, p4.below ho hB (Nat.le_refl _) hsz⟩
              case measure => simp [intOf]; omega
            · have g5 : 1000 < t := by omega
              go_wp2_with (at_builtin; refine wpList_push elInt rfl _ _ rfl ho rfl _ rfl rfl (one_int _ _) (by unfold maxLen; omega) (by omega) hsz ?_; intro A4 c4 w4 ho4 p4)
              go_roundw
              case rel =>
                refine ⟨k + 1, ms ++ [x], A4, c4, by omega, by go_num, rfl, by rw [iv_append]; exact ho4, ⟨by simp [hms.out.1], hms.out.2.snoc (t := 0) (by rw [hms.out.1]; exact hx.out) (fun _ => by omega)⟩, p4.below ho hB (Nat.le_refl _) hsz⟩
              case measure => simp [intOf]; omega
          · have g5 : t < -1000 := by omega
            go_wp2_with (at_builtin; refine wpList_push elInt rfl _ _ rfl ho rfl _ rfl rfl (one_int _ _) (by unfold maxLen; omega) (by omega) hsz ?_; intro A4 c4 w4 ho4 p4)
            go_roundw
            case rel =>
              refine ⟨k + 1, ms ++ [x], A4, c4, by omega, by go_num, rfl, by rw [iv_append]; exact ho4, ⟨by simp [hms.out.1], hms.out.2.snoc (t := 0) (by rw [hms.out.1]; exact hx.out) (fun _ => by omega)⟩, p4.below ho hB (Nat.le_refl _) hsz⟩
            case measure => simp [intOf]; omega
        · have g5 : N ≤ k := by omega
          go_wp2_with (at_builtin; refine wpList_push elInt rfl _ _ rfl ho rfl _ rfl rfl (one_int _ _) (by unfold maxLen; omega) (by omega) hsz ?_; intro A4 c4 w4 ho4 p4)
          go_roundw
          case rel =>
            refine ⟨k + 1, ms ++ [x], A4, c4, by omega, by go_num, rfl, by rw [iv_append]; exact ho4, ⟨by simp [hms.out.1], hms.out.2.snoc (t := 0) (by rw [hms.out.1]; exact hx.out) (fun _ => by omega)⟩, p4.below ho hB (Nat.le_refl _) hsz⟩
          case measure => simp [intOf]; omega
      · have g5 : l2 ≤ k := by omega
        clear h1 h2
        go_wp2_with (at_builtin; refine wpList_push elInt rfl _ _ rfl ho rfl _ rfl rfl (one_int _ _) (by unfold maxLen; omega) (by omega) hsz ?_; intro A4 c4 w4 ho4 p4)
        go_roundw
        case rel =>
          refine ⟨k + 1, ms ++ [x], A4, c4, by omega, by go_num, rfl, by rw [iv_append]; exact ho4, ⟨by simp [hms.out.1], hms.out.2.snoc (t := 0) (by rw [hms.out.1]; exact hx.out) (fun _ => by omega)⟩, p4.below ho hB (Nat.le_refl _) hsz⟩
        case measure => simp [intOf]; omega
    · obtain rfl : l1 = k := by omega
      have hms1 := hms.out.1
      have hEq := Lib.hid (hms.out.2.ord_eq (hms1.trans hlp.out.symm))
      have hr1 := (h1.below hB).more hsz
      clear h1 h2 hms1
      go_wp2_with (fail)
      refine (order_c A1 N l1 c1 ps wr (by omega) hr1 (by unfold maxLen; omega)).mono ?_
      rintro e w2 ⟨A10, c10, rfl, hown2, hB2⟩
      have ho2 := own_below ho hB2
      have hBB := hB.trans (hB2.mono hsz)
      have ha := own_more (base := w.heap.size) hown2 hsz
      clear hown2 hB2 hr1
      go_wp2_with (fail)
      refine (order_c A7 N l1 c7 ms w2 (by omega) (own_reads ho2) (by unfold maxLen; omega)).mono ?_
      rintro e w3 ⟨A12, c12, rfl, hown3, hB3⟩
      have ha3 := own_below ha hB3
      have hb3 := own_more (base := w.heap.size) hown3 hBB.size
      rw [← hEq.out] at hb3
      have hBB := hBB.trans (hB3.mono hBB.size)
      clear hown3 hB3 ha ho2 hEq
      go_wp2_with (fail)
      refine (turns_c w3).mono ?_
      rintro e w4 ⟨rfl, hB4⟩
      have ha4 := own_below ha3 hB4
      have hb4 := own_below hb3 hB4
      have hBB := hBB.trans (hB4.mono hBB.size)
      clear ha3 hb3 hB4
      go_wp2_with (fail)
      refine (ints_c A10 A12 N N c10 c12 _ _ w4 (own_reads ha4) (own_reads hb4) (by unfold maxLen; omega) (by unfold maxLen; omega)).mono ?_
      rintro e w5 ⟨rfl, hB5⟩
      have hBB := hBB.trans (hB5.mono hBB.size)
      go_wp2_with (fail)
      go_ret
      exact ⟨ret_bool (by simp), hBB⟩
end Go.Proofs.Ytpkhlikeggolbaa
