/-
  Total contracts of chapter 17's functions: one statement for all arguments.
-/
import Derived.Test.YtpkhlikeggolbaaTurnRefM
import Derived.Test.YtpkhlikeggolbaaTurnSmall
import Derived.Test.YtpkhlikeggolbaaDeal
namespace Go.Proofs.Ytpkhlikeggolbaa
open Go.RowKit

def pickV (n p : Int) : Int := if n < 1 then 0 else p % n
def pickB (n : Int) : Bool := !decide (n < 1)
def orderV (n : Int) (ps : List Int) : List Int := if 0 ≤ n ∧ n ≤ 1000 then ord (upto n.toNat) ps else []
def orderE (n : Int) : Int := if 0 ≤ n ∧ n ≤ 1000 then 0 else 1
def dealV (ps : List Int) (p : Int) : List (List Int) := if 1 ≤ p ∧ p ≤ 100 then dealt ps p.toNat else []

theorem pick_t (n p : Int) (w : World) (h : n ≤ 9223372036854775807) :
    Calls Try.prog 18 #[.int .i64 n, .int .i64 p] w fun e w' => e = .returned (.tuple #[.int .i64 (pickV n p), .bool (pickB n)]) ∧ w = w' := by
  unfold pickV pickB
  by_cases h1 : n < 1
  · rw [if_pos h1, decide_eq_true h1]; exact pick_no n p w h1
  · rw [if_neg h1, decide_eq_false h1]; exact pick_yes n p w (by omega) h
theorem refPick_t (n p : Int) (w : World) (h : n ≤ 9223372036854775807) :
    Calls Try.prog 19 #[.int .i64 n, .int .i64 p] w fun e w' => e = .returned (.tuple #[.int .i64 (pickV n p), .bool (pickB n)]) ∧ w = w' := by
  unfold pickV pickB
  by_cases h1 : n < 1
  · rw [if_pos h1, decide_eq_true h1]; exact refPick_no n p w h1
  · rw [if_neg h1, decide_eq_false h1]; exact refPick_yes n p w (by omega) h

theorem order_t (C : Option Addr) (n : Int) (m d : Nat) (ps : List Int) (w : World) (hrp : Reads w w.heap.size 1 C m (iv ps)) (hm : m ≤ maxLen) :
    Calls Try.prog 13 #[.int .i64 n, .slice C m d] w fun e w' =>
      ∃ A' c' k, e = .returned (.tuple #[.slice A' k c', .int .i64 (orderE n)]) ∧ k ≤ 1000 ∧ w'.ownsRow w.heap.size 3 1 (.slice A' k c') k (iv (orderV n ps)) ∧ Below w.heap.size w w' := by
  unfold orderE orderV
  by_cases h : 0 ≤ n ∧ n ≤ 1000
  · rw [if_pos h, if_pos h]
    obtain ⟨k, rfl⟩ := Int.eq_ofNat_of_zero_le h.1
    exact (order_c C k m d ps w (by omega) hrp hm).mono fun e w' ⟨A', c', he, ho, hB⟩ => ⟨A', c', k, he, by omega, ho, hB⟩
  · rw [if_neg h, if_neg h]
    exact (order_no C n m d w (by omega)).mono fun e w' ⟨he, hw⟩ => ⟨none, 0, 0, he, by omega, by subst hw; exact own_nil, by subst hw; exact Below.refl _ _⟩
theorem refOrder_t (C : Option Addr) (n : Int) (m d : Nat) (ps : List Int) (w : World) (hrp : Reads w w.heap.size 1 C m (iv ps)) (hm : m ≤ maxLen) :
    Calls Try.prog 20 #[.int .i64 n, .slice C m d] w fun e w' =>
      ∃ A' c' k, e = .returned (.tuple #[.slice A' k c', .int .i64 (orderE n)]) ∧ k ≤ 1000 ∧ w'.ownsRow w.heap.size 3 1 (.slice A' k c') k (iv (orderV n ps)) ∧ Below w.heap.size w w' := by
  unfold orderE orderV
  by_cases h : 0 ≤ n ∧ n ≤ 1000
  · rw [if_pos h, if_pos h]
    obtain ⟨k, rfl⟩ := Int.eq_ofNat_of_zero_le h.1
    exact (refOrder_c C k m d ps w (by omega) hrp hm).mono fun e w' ⟨A', c', he, ho, hB⟩ => ⟨A', c', k, he, by omega, ho, hB⟩
  · rw [if_neg h, if_neg h]
    exact (refOrder_no C n m d w (by omega)).mono fun e w' ⟨he, hw⟩ => ⟨none, 0, 0, he, by omega, by subst hw; exact own_nil, by subst hw; exact Below.refl _ _⟩

theorem deal_t (A : Option Addr) (n c : Nat) (p : Int) (ps : List Int) (w : World) (hr : Reads w w.heap.size 1 A n (iv ps)) (hn : n ≤ 1000000) :
    Calls Try.prog 15 #[.slice A n c, .int .i64 p] w fun e w' =>
      ∃ A' c' k vs, e = .returned (.slice A' k c') ∧ k ≤ 100 ∧ w'.ownsRow w.heap.size 22 1 (.slice A' k c') k vs ∧ RowsOwn w' w.heap.size 3 1 vs (ivs (dealV ps p)) ∧ Below w.heap.size w w' := by
  unfold dealV
  by_cases h : 1 ≤ p ∧ p ≤ 100
  · rw [if_pos h]
    obtain ⟨k, rfl⟩ := Int.eq_ofNat_of_zero_le (show 0 ≤ p by omega)
    exact (deal_c A n c k ps w (by omega) (by omega) hr hn).mono fun e w' ⟨A', c', vs, he, ho, hr, hB⟩ => ⟨A', c', k, vs, he, by omega, ho, hr, hB⟩
  · rw [if_neg h]
    exact (deal_no A n c p w (by omega)).mono fun e w' ⟨he, hw⟩ => ⟨none, 0, 0, [], he, by omega, by subst hw; exact own_nil, rowsOwn_nil _ _ _ _, by subst hw; exact Below.refl _ _⟩
theorem refDeal_t (A : Option Addr) (n c : Nat) (p : Int) (ps : List Int) (w : World) (hr : Reads w w.heap.size 1 A n (iv ps)) (hn : n ≤ 1000000) :
    Calls Try.prog 23 #[.slice A n c, .int .i64 p] w fun e w' =>
      ∃ A' c' k vs, e = .returned (.slice A' k c') ∧ k ≤ 100 ∧ w'.ownsRow w.heap.size 22 1 (.slice A' k c') k vs ∧ RowsOwn w' w.heap.size 3 1 vs (ivs (dealV ps p)) ∧ Below w.heap.size w w' := by
  unfold dealV
  by_cases h : 1 ≤ p ∧ p ≤ 100
  · rw [if_pos h]
    obtain ⟨k, rfl⟩ := Int.eq_ofNat_of_zero_le (show 0 ≤ p by omega)
    exact (refDeal_c A n c k ps w (by omega) (by omega) hr hn).mono fun e w' ⟨A', c', vs, he, ho, hr, hB⟩ => ⟨A', c', k, vs, he, by omega, ho, hr, hB⟩
  · rw [if_neg h]
    exact (refDeal_no A n c p w (by omega)).mono fun e w' ⟨he, hw⟩ => ⟨none, 0, 0, [], he, by omega, by subst hw; exact own_nil, rowsOwn_nil _ _ _ _, by subst hw; exact Below.refl _ _⟩

/-- A store into one of the rows. -/
theorem RowsOwn.store_ {w : World} {base sz : Nat} {e : TypeId} {vs : List Value} {rs : List (List Value)} (h : RowsOwn w base e sz vs rs) {i g n c : Nat} {r : List Value} (hi : vs[i]? = some (Value.slice (some ⟨g, 0, none⟩) n c)) (hr : rs[i]? = some r)
    (ho : w.ownsRow base e sz (Value.slice (some ⟨g, 0, none⟩) n c) n r) (j : Nat) (u : Value) : RowsOwn (w.setCell ⟨g, j, none⟩ u) base e sz vs (rs.set i (r.set j u)) := by
  have h1 := ho.stored j u
  obtain ⟨hil, hie⟩ := List.getElem?_eq_some_iff.1 hi
  have h2 := h.push hi (List.getElem?_eq_some_iff.1 hr).1 h1.1 ⟨h1.2, fun b hb => .inl ⟨b, hb, rfl⟩⟩
  rwa [← hie, List.set_getElem_self] at h2

theorem RowsOwn.at_v {w : World} {base sz n c i : Nat} {e : TypeId} {vs : List Value} {rs : List (List Value)} {A : Option Addr} (h : RowsOwn w base e sz vs rs) (hv : vs[i]? = some (Value.slice A n c)) :
    ∃ r, rs[i]? = some r ∧ w.ownsRow base e sz (Value.slice A n c) n r := by
  obtain ⟨hi, _⟩ := List.getElem?_eq_some_iff.1 hv
  have hr : rs[i]? = some (rs[i]'(by rw [← h.1]; exact hi)) := List.getElem?_eq_getElem (by rw [← h.1]; exact hi)
  obtain ⟨_, _, _, e1, ho⟩ := h.2.1 i _ _ hv hr
  cases e1
  exact ⟨_, hr, ho⟩
theorem own_some {w : World} {base sz n c k : Nat} {e : TypeId} {g : Nat} {cs : List Value} (h : w.ownsRow base e sz (Value.slice (some ⟨g, 0, none⟩) n c) n cs) (hk : k < n * sz) : ∃ v, w.cell? ⟨g, k, none⟩ = some v := by
  have hl := h.1
  exact ⟨cs[k]'(by omega), by rw [h.cellAt k hk]; exact List.getElem?_eq_getElem (by omega)⟩
theorem pushed_store {w : World} {base sz n c g : Nat} {e : TypeId} {cs : List Value} (h : w.ownsRow base e sz (Value.slice (some ⟨g, 0, none⟩) n c) n cs) (k : Nat) (u : Value) : Pushed w (w.setCell ⟨g, k, none⟩ u) (some ⟨g, 0, none⟩) (some ⟨g, 0, none⟩) :=
  ⟨(h.stored k u).2, fun b hb => .inl ⟨b, hb, rfl⟩⟩
end Go.Proofs.Ytpkhlikeggolbaa
