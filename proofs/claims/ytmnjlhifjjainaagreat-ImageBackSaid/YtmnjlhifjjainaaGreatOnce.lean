/-
  Elements once each: the walks.
-/
import Derived.Test.YtmnjlhifjjainaaGreatCompact
import Derived.Test.YtmnjlhifjjainaaGreatSortDone
import Derived.Test.YtmnjlhifjjainaaGreatImgRise
namespace Go.Proofs.YtmnjlhifjjainaaGreat
open Go.RowKit

theorem compactE_nil (c : Nat) (w : World) : Calls Tryz.prog 35 #[.slice none 0 c] w fun e w' => e = .returned (.slice none 0 c) ∧ w' = w := by
  go_enter Tryz.func35, Tryz.ntmps35
  go_wp2
  go_ret
  exact ⟨rfl, rfl⟩
theorem compactS_nil (c : Nat) (w : World) : Calls Tryz.prog 41 #[.slice none 0 c] w fun e w' => e = .returned (.slice none 0 c) ∧ w' = w := by
  go_enter Tryz.func41, Tryz.ntmps41
  go_wp2
  go_ret
  exact ⟨rfl, rfl⟩

set_option maxRecDepth 100000 in
set_option maxHeartbeats 1000000 in
theorem onceE_c (A : Option Addr) (n c : Nat) (l : List Edg) (w : World) (h : Reads w w.heap.size 2 A n (ev l)) (hn : n ≤ 1000000) :
    Calls Tryz.prog 11 #[.slice A n c, .agg #[.func (.func 36) #[] #[]]] w fun e w' => ∃ A' k c' l', e = .returned (.slice A' k c') ∧ Rises lessE l' ∧ (∀ x ∈ l', x ∈ l) ∧ l'.length ≤ l.length ∧ w'.ownsRow w.heap.size 38 2 (.slice A' k c') k (ev l') ∧ Below w.heap.size w w' := by
  have HO := Lib.hid (show OrdAt w 36 41 (w.alloc (.cells #[.func (.func 36) #[] #[]] 41)) from ⟨Array.getElem?_push_size, below_one _ _⟩)
  have HR := Lib.hid h
  clear h
  go_enter Tryz.func11, Tryz.ntmps11
  go_wp2_with (fail)
  refine (cloneE_c A n c l _ ((HR.out.below HO.out.bel).more HO.out.bel.size) hn).mono ?_
  rintro e w1 ⟨A1, c1, rfl, hown, hB1⟩
  have hO1 := HO.out.step hB1
  have q0 := hO1.cell
  have HO1 := Lib.hid hO1
  have hown := own_more (base := w.heap.size) hown (by simp)
  have HOW := Lib.hid hown
  clear hB1 hO1 HO hown
  go_wp2_with (fail)
  refine (sortE_c HOW.out (by omega)).mono ?_
  rintro e w2 ⟨rfl, l2, hperm, hsort, how2, hG2⟩
  have hB2 : Below w.heap.size w1 w2 := (Below.refl _ _).grown hG2 HO1.out.bel.size (fun g hg => by
    cases hA : A1 with
    | none => rw [hA] at hg; cases hg
    | some a => rw [hA] at hg; have := (own_lt HOW.out a hA).1; injection hg with hg; simp only at hg; omega)
  have HB2 := Lib.hid (HO1.out.bel.trans hB2)
  have HOW2 := Lib.hid how2
  have HP := Lib.hid hperm
  have HS := Lib.hid hsort
  have hbw : w.heap.size ≤ w2.heap.size := HB2.out.size
  clear hperm hsort how2 hG2 hB2 q0 HOW HO1
  go_wp2_with (fail)
  rcases A1 with _ | a
  · have h0 : n = 0 := by
      rcases Nat.eq_zero_or_pos n with h0 | h0
      · exact h0
      · obtain ⟨g, cap, hv, _⟩ := HOW2.out.form h0
        cases hv
    subst h0
    refine (compactE_nil c1 _).mono ?_
    rintro e w3 ⟨rfl, rfl⟩
    go_wp2_with (fail)
    go_ret
    refine ⟨none, 0, c1, [], rfl, trivial, fun x hx => by simp at hx, by simp, ?_, HB2.out⟩
    have hl2 : l2 = [] := List.eq_nil_of_length_eq_zero (by have h := HOW2.out.1; rw [ev_len] at h; omega)
    have h := HOW2.out
    rw [hl2] at h
    exact h
  · obtain ⟨g, hgA⟩ : ∃ g, a = ⟨g, 0, none⟩ := by
      rcases HOW2.out.2 with ⟨hv, _⟩ | ⟨g, cap, cur, hv, _⟩
      · cases hv
      · injection hv with e1 e2 e3
        injection e1 with e1
        exact ⟨g, e1⟩
    subst hgA
    refine (compactE_c g n c1 w.heap.size l2 _ HOW2.out HS.out hn).mono ?_
    rintro e w3 ⟨k, l3, rfl, h1, h2, h3, h4, hG3⟩
    have hB3 := Lib.hid (HB2.out.grown hG3 hbw (fun g' hg => by have := (own_lt HOW2.out _ rfl).1; injection hg with hg; simp only at this; omega))
    have H4 := Lib.hid h4
    have H1 := Lib.hid h1
    have H2 : Hid (∀ x ∈ l3, x ∈ l) := fun x hx => (HP.out.mem_iff).1 (h2 x hx)
    have H3 : Hid (l3.length ≤ l.length) := by show _ ≤ _; rw [← HP.out.length_eq]; exact h3
    clear h1 h2 h3 h4 hG3
    go_wp2_with (fail)
    go_ret
    exact ⟨_, k, c1, l3, rfl, H1.out, H2.out, H3.out, H4.out, hB3.out⟩

set_option maxRecDepth 100000 in
set_option maxHeartbeats 1000000 in
theorem onceS_c (A : Option Addr) (n c : Nat) (l : List ByteArray) (w : World) (h : Reads w w.heap.size 1 A n (sv l)) (hn : n ≤ 1000000) :
    Calls Tryz.prog 13 #[.slice A n c, .agg #[.func (.func 42) #[] #[]]] w fun e w' => ∃ A' k c' l', e = .returned (.slice A' k c') ∧ Rises ltW l' ∧ (∀ x ∈ l', x ∈ l) ∧ l'.length ≤ l.length ∧ w'.ownsRow w.heap.size 9 1 (.slice A' k c') k (sv l') ∧ Below w.heap.size w w' := by
  have HO := Lib.hid (show OrdAt w 42 46 (w.alloc (.cells #[.func (.func 42) #[] #[]] 46)) from ⟨Array.getElem?_push_size, below_one _ _⟩)
  have HR := Lib.hid h
  clear h
  go_enter Tryz.func13, Tryz.ntmps13
  go_wp2_with (fail)
  refine (cloneS_c A n c l _ ((HR.out.below HO.out.bel).more HO.out.bel.size) hn).mono ?_
  rintro e w1 ⟨A1, c1, rfl, hown, hB1⟩
  have hO1 := HO.out.step hB1
  have q0 := hO1.cell
  have HO1 := Lib.hid hO1
  have hown := own_more (base := w.heap.size) hown (by simp)
  have HOW := Lib.hid hown
  clear hB1 hO1 HO hown
  go_wp2_with (fail)
  refine (sortS_c HOW.out (by omega)).mono ?_
  rintro e w2 ⟨rfl, l2, hperm, hsort, how2, hG2⟩
  have hB2 : Below w.heap.size w1 w2 := (Below.refl _ _).grown hG2 HO1.out.bel.size (fun g hg => by
    cases hA : A1 with
    | none => rw [hA] at hg; cases hg
    | some a => rw [hA] at hg; have := (own_lt HOW.out a hA).1; injection hg with hg; simp only at hg; omega)
  have HB2 := Lib.hid (HO1.out.bel.trans hB2)
  have HOW2 := Lib.hid how2
  have HP := Lib.hid hperm
  have HS := Lib.hid hsort
  have hbw : w.heap.size ≤ w2.heap.size := HB2.out.size
  clear hperm hsort how2 hG2 hB2 q0 HOW HO1
  go_wp2_with (fail)
  rcases A1 with _ | a
  · have h0 : n = 0 := by
      rcases Nat.eq_zero_or_pos n with h0 | h0
      · exact h0
      · obtain ⟨g, cap, hv, _⟩ := HOW2.out.form h0
        cases hv
    subst h0
    refine (compactS_nil c1 _).mono ?_
    rintro e w3 ⟨rfl, rfl⟩
    go_wp2_with (fail)
    go_ret
    refine ⟨none, 0, c1, [], rfl, trivial, fun x hx => by simp at hx, by simp, ?_, HB2.out⟩
    have hl2 : l2 = [] := List.eq_nil_of_length_eq_zero (by have h := HOW2.out.1; simpa [sv] using h)
    have h := HOW2.out
    rw [hl2] at h
    exact h
  · obtain ⟨g, hgA⟩ : ∃ g, a = ⟨g, 0, none⟩ := by
      rcases HOW2.out.2 with ⟨hv, _⟩ | ⟨g, cap, cur, hv, _⟩
      · cases hv
      · injection hv with e1 e2 e3
        injection e1 with e1
        exact ⟨g, e1⟩
    subst hgA
    refine (compactS_c g n c1 w.heap.size l2 _ HOW2.out HS.out hn).mono ?_
    rintro e w3 ⟨k, l3, rfl, h1, h2, h3, h4, hG3⟩
    have hB3 := Lib.hid (HB2.out.grown hG3 hbw (fun g' hg => by have := (own_lt HOW2.out _ rfl).1; injection hg with hg; simp only at this; omega))
    have H4 := Lib.hid h4
    have H1 := Lib.hid h1
    have H2 : Hid (∀ x ∈ l3, x ∈ l) := fun x hx => (HP.out.mem_iff).1 (h2 x hx)
    have H3 : Hid (l3.length ≤ l.length) := by show _ ≤ _; rw [← HP.out.length_eq]; exact h3
    clear h1 h2 h3 h4 hG3
    go_wp2_with (fail)
    go_ret
    exact ⟨_, k, c1, l3, rfl, H1.out, H2.out, H3.out, H4.out, hB3.out⟩
end Go.Proofs.YtmnjlhifjjainaaGreat
