/-
  slices.Clone and slices.Compact: the walks.
-/
import Derived.Test.YtmnjlhifjjainaaGreatOnceP
import Derived.Lib.SliceRun
import Derived.Deep.QuietTactic
namespace Go.Proofs.YtmnjlhifjjainaaGreat
open Go.RowKit

theorem own_empty (w : World) (e : TypeId) (sz : Nat) : (w.alloc (.cells #[] e)).ownsRow w.heap.size e sz (.slice (some ⟨w.heap.size, 0, none⟩) 0 0) 0 [] := by
  refine ⟨by simp, .inr ⟨w.heap.size, 0, #[], rfl, Nat.le_refl _, Array.getElem?_push_size, Nat.le_refl _, by simp [maxLen], by simp, by simp⟩⟩

set_option maxRecDepth 100000 in
theorem cloneE_c (A : Option Addr) (n c : Nat) (l : List Edg) (w : World) (h : Reads w w.heap.size 2 A n (ev l)) (hn : n ≤ 1000000) :
    Calls Tryz.prog 33 #[.slice A n c] w fun e w' => ∃ A' c', e = .returned (.slice A' n c') ∧ w'.ownsRow w.heap.size 38 2 (.slice A' n c') n (ev l) ∧ Below w.heap.size w w' := by
  rcases A with _ | a
  · have h0 : n = 0 := by
      rcases Nat.eq_zero_or_pos n with h0 | h0
      · exact h0
      · obtain ⟨_, _, e, _⟩ := h.2 h0
        cases e
    subst h0
    have hl : ev l = [] := List.eq_nil_of_length_eq_zero (by have := h.1; omega)
    rw [hl]
    clear h hl
    have hrun := fun w => Lib.run_eql_slice_nil (P := Tryz.prog) w 22 38 none 0 c 0 0 Tryz.underlying22
    go_enter Tryz.func33, Tryz.ntmps33
    go_wp2_with (fail)
    go_ret
    exact ⟨none, 0, rfl, own_nil, Below.refl _ _⟩
  · have HR := Lib.hid h
    clear h
    have HE := Lib.hid (own_empty w 38 2)
    have HB := Lib.hid (below_one w (.cells #[] 38))
    have hrun := fun w => Lib.run_eql_slice_nil (P := Tryz.prog) w 22 38 (some a) n c 0 0 Tryz.underlying22
    go_enter Tryz.func33, Tryz.ntmps33
    go_wp2_with (at_builtin; refine wpList_cat elEdges rfl _ _ rfl HE.out rfl ((HR.out.below HB.out).more HB.out.size) rfl (ev_one _) (by unfold maxLen; omega) (by omega) (by simp) ?_; intro A1 c1 w1 hown p1)
    go_ret
    refine ⟨A1, c1, rfl, by simpa using hown, HB.out.trans (p1.below HE.out (Below.refl _ _) (Nat.le_refl _) HB.out.size)⟩

set_option maxRecDepth 100000 in
theorem cloneS_c (A : Option Addr) (n c : Nat) (l : List ByteArray) (w : World) (h : Reads w w.heap.size 1 A n (sv l)) (hn : n ≤ 1000000) :
    Calls Tryz.prog 39 #[.slice A n c] w fun e w' => ∃ A' c', e = .returned (.slice A' n c') ∧ w'.ownsRow w.heap.size 9 1 (.slice A' n c') n (sv l) ∧ Below w.heap.size w w' := by
  rcases A with _ | a
  · have h0 : n = 0 := by
      rcases Nat.eq_zero_or_pos n with h0 | h0
      · exact h0
      · obtain ⟨_, _, e, _⟩ := h.2 h0
        cases e
    subst h0
    have hl : sv l = [] := List.eq_nil_of_length_eq_zero (by have := h.1; omega)
    rw [hl]
    clear h hl
    have hrun := fun w => Lib.run_eql_slice_nil (P := Tryz.prog) w 35 9 none 0 c 0 0 Tryz.underlying35
    go_enter Tryz.func39, Tryz.ntmps39
    go_wp2_with (fail)
    go_ret
    exact ⟨none, 0, rfl, own_nil, Below.refl _ _⟩
  · have HR := Lib.hid h
    clear h
    have HE := Lib.hid (own_empty w 9 1)
    have HB := Lib.hid (below_one w (.cells #[] 9))
    have hrun := fun w => Lib.run_eql_slice_nil (P := Tryz.prog) w 35 9 (some a) n c 0 0 Tryz.underlying35
    go_enter Tryz.func39, Tryz.ntmps39
    go_wp2_with (at_builtin; refine wpList_cat elTexts rfl _ _ rfl HE.out rfl ((HR.out.below HB.out).more HB.out.size) rfl (sv_one _) (by unfold maxLen; omega) (by omega) (by simp) ?_; intro A1 c1 w1 hown p1)
    go_ret
    refine ⟨A1, c1, rfl, by simpa using hown, HB.out.trans (p1.below HE.out (Below.refl _ _) (Nat.le_refl _) HB.out.size)⟩
end Go.Proofs.YtmnjlhifjjainaaGreat
