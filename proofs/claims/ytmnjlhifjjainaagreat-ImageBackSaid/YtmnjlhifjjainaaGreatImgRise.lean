/-
  Do elements rise: the walks of the program.
-/
import Derived.Test.YtmnjlhifjjainaaGreatImgChk
import Derived.Laws.EntriesVeiled
namespace Go.Proofs.YtmnjlhifjjainaaGreat
open Go.RowKit

theorem words_c (w : World) : Calls Tryz.prog 14 #[] w fun e w' => e = .returned (.agg #[.func (.func 42) #[] #[]]) ∧ Below w.heap.size w w' := by
  go_enter Tryz.func14, Tryz.ntmps14
  go_wp2
  refine bodyPost_ret (v := .agg #[.func (.func 42) #[] #[]]) ?_ rfl ?_
  · simp [results, Tryz.results14, go_sem]
  · exact ⟨rfl, (below_one _ _)⟩
theorem edges_c (w : World) : Calls Tryz.prog 12 #[] w fun e w' => e = .returned (.agg #[.func (.func 36) #[] #[]]) ∧ Below w.heap.size w w' := by
  go_enter Tryz.func12, Tryz.ntmps12
  go_wp2
  refine bodyPost_ret (v := .agg #[.func (.func 36) #[] #[]]) ?_ rfl ?_
  · simp [results, Tryz.results12, go_sem]
  · exact ⟨rfl, (below_one _ _)⟩

/-- An order in its box. -/
structure OrdAt (w : World) (f : FuncId) (T : TypeId) (W : World) : Prop where
  box : W.heap[w.heap.size]? = some (.cells #[.func (.func f) #[] #[]] T (0, 0))
  bel : Below w.heap.size w W
section
variable {w W W' : World} {f : FuncId} {T : TypeId}
theorem OrdAt.cell (h : OrdAt w f T W) : W.cell? ⟨w.heap.size, 0, none⟩ = some (.func (.func f) #[] #[]) := by
  rw [Lib.cell_of_heap h.box]; rfl
theorem OrdAt.lt (h : OrdAt w f T W) : w.heap.size < W.heap.size := (Array.getElem?_eq_some_iff.1 h.box).1
theorem OrdAt.step (h : OrdAt w f T W) (hB : Below W.heap.size W W') : OrdAt w f T W' := ⟨(hB.block _ h.lt).trans h.box, h.bel.trans (hB.mono (Nat.le_of_lt h.lt))⟩
theorem OrdAt.drew (h : OrdAt w f T W) : OrdAt w f T W.drew := h.step (Below.refl _ _).drew
end
def risesTo {α : Type} (lt : α → α → Prop) (l : List α) (j : Nat) : Prop := ∀ m a b, m < j → l[m]? = some a → l[m + 1]? = some b → lt a b
theorem rises_more {α : Type} {lt : α → α → Prop} {l : List α} {j : Nat} {x y : α} (h : risesTo lt l j) (hx : l[j]? = some x) (hy : l[j + 1]? = some y) (hl : lt x y) : risesTo lt l (j + 1) := by
  intro m a b hm ha hb
  by_cases he : m = j
  · subst he
    rw [hx] at ha
    rw [hy] at hb
    cases ha; cases hb
    exact hl
  · exact h m a b (by omega) ha hb
theorem rises_all {α : Type} {lt : α → α → Prop} {l : List α} {j : Nat} (h : risesTo lt l j) (hj : l.length ≤ j + 1) : Rises lt l := by
  rw [rises_iff]
  intro m a b ha hb
  exact h m a b (by have := (List.getElem?_eq_some_iff.1 hb).1; omega) ha hb
theorem rises_not {α : Type} {lt : α → α → Prop} {l : List α} {j : Nat} {x y : α} (hx : l[j]? = some x) (hy : l[j + 1]? = some y) (hl : ¬ lt x y) : ¬ Rises lt l := by
  rw [rises_iff]
  exact fun h => hl (h j x y hx hy)

set_option maxRecDepth 100000 in
set_option maxHeartbeats 2000000 in
theorem riseW_c (A : Option Addr) (n c : Nat) (l : List ByteArray) (w : World) (h : Reads w w.heap.size 1 A n (sv l)) (hn : n ≤ maxLen) :
    Calls Tryz.prog 44 #[.slice A n c, .agg #[.func (.func 42) #[] #[]]] w fun e w' => e = .returned (.bool (decide (riseW l))) ∧ Below w.heap.size w w' := by
  have hl := Lib.hid h.str_len
  unfold maxLen at hn
  have hX := Lib.hid (show OrdAt w 42 46 (w.alloc (.cells #[.func (.func 42) #[] #[]] 46)) from ⟨Array.getElem?_push_size, below_one _ _⟩)
  go_enter Tryz.func44, Tryz.ntmps44
  go_wp2_with (fail)
  go_loopw [5] (fun i wr => ∃ j : Nat, j ≤ n ∧ i = .int .i64 ((j : Int) + 1) ∧ Hid (risesTo ltW l j) ∧ OrdAt w 42 46 wr) (fun i _ => n - (intOf i).toNat)
  case atStart => exact ⟨0, Nat.zero_le _, rfl, fun m a b hm => absurd hm (Nat.not_lt_zero _), hX.out⟩
  case round =>
    clear hX
    obtain ⟨j, hj, rfl, hr, hO⟩ := hrel
    by_cases hlt : j + 1 < n
    · obtain ⟨b1, o1, x, rfl, hx, d0⟩ := (h.below hO.bel).str_at (k := j) (by omega)
      obtain ⟨b2, o2, y, e2, hy, d1⟩ := (h.below hO.bel).str_at hlt
      cases e2
      have q0 := hO.cell
      have hOd : OrdAt w 42 46 wr.drew := hO.drew
      have f1 : (0 : Int) ≤ (j : Int) := by omega
      have f2 : (j : Int) < (n : Int) := by omega
      have f3 : (0 : Int) ≤ (j : Int) + 1 := by omega
      have f4 : (j : Int) + 1 < (n : Int) := by omega
      have f5 : IntKind.i64.wrap (j : Int) = (j : Int) := IntWalk.i64_in _ (by omega)
      have f6 : ((j : Int) + 1).toNat = j + 1 := by omega
      have HO := Lib.hid hOd
      clear hO hOd h
      go_wp2_with (fail)
      refine wp_region_still_tail 11 (by kernel_rfl) (by kernel_rfl) ?_
      simp only [List.take_succ_cons, List.take_zero, List.drop_succ_cons, List.drop_zero]
      obtain ⟨wd, hwd⟩ : ∃ wd, wd = wr.drew := ⟨_, rfl⟩
      change wr.drew.cell? _ = _ at q0 d0 d1
      rw [← hwd] at q0 d0 d1 HO
      change wpStill _ _ wr.drew (fun a' => wpList _ _ _ _ a' wr.drew) _ _
      rw [← hwd]
      clear hwd
      repeat still_step
      refine wpStill_nil ?_
      clear f1 f2 f3 f4 f5 f6
      go_wp2_with (fail)
      refine (ordW_c x y _).mono ?_
      rintro e w3 ⟨rfl, rfl⟩
      have HO3 := Lib.hid HO.out
      clear HO q0 d0 d1
      have hge := cmpW_ge x y
      unfold cmpW at hge
      by_cases hm : ltW x y
      · rw [decide_eq_true hm] at hge
        have H := Lib.hid (rises_more hr.out hx.out hy.out hm)
        clear hm
        have hge : ¬ 0 ≤ Lib.compareBytes x.data.toList y.data.toList := by simpa using hge
        go_wp2_with (fail)
        go_roundw
        case rel => exact ⟨j + 1, by omega, by go_num, H.out, HO3.out⟩
        case measure => simp [intOf]; omega
      · rw [decide_eq_false hm] at hge
        have H := Lib.hid (decide_eq_false (show ¬ riseW l from rises_not hx.out hy.out hm))
        clear hm
        have hge : 0 ≤ Lib.compareBytes x.data.toList y.data.toList := by simpa using hge
        go_wp2_with (fail)
        go_ret
        exact ⟨ret_bool H.out.symm, HO3.out.bel⟩
    · have H := Lib.hid (decide_eq_true (show riseW l from rises_all hr.out (by have := hl.out; omega)))
      clear h
      go_wp2_with (fail)
      go_ret
      exact ⟨ret_bool H.out.symm, hO.bel⟩

set_option maxRecDepth 100000 in
set_option maxHeartbeats 2000000 in
theorem riseE_c (A : Option Addr) (n c : Nat) (l : List Edg) (w : World) (h : Reads w w.heap.size 2 A n (ev l)) (hn : n ≤ maxLen) :
    Calls Tryz.prog 45 #[.slice A n c, .agg #[.func (.func 36) #[] #[]]] w fun e w' => e = .returned (.bool (decide (riseE l))) ∧ Below w.heap.size w w' := by
  have hl := Lib.hid h.edge_len
  unfold maxLen at hn
  have hX := Lib.hid (show OrdAt w 36 41 (w.alloc (.cells #[.func (.func 36) #[] #[]] 41)) from ⟨Array.getElem?_push_size, below_one _ _⟩)
  go_enter Tryz.func45, Tryz.ntmps45
  go_wp2_with (fail)
  go_loopw [5] (fun i wr => ∃ j : Nat, j ≤ n ∧ i = .int .i64 ((j : Int) + 1) ∧ Hid (risesTo lessE l j) ∧ OrdAt w 36 41 wr) (fun i _ => n - (intOf i).toNat)
  case atStart => exact ⟨0, Nat.zero_le _, rfl, fun m a b hm => absurd hm (Nat.not_lt_zero _), hX.out⟩
  case round =>
    clear hX
    obtain ⟨j, hj, rfl, hr, hO⟩ := hrel
    by_cases hlt : j + 1 < n
    · obtain ⟨b1, o1, x, rfl, hx, d0, d2⟩ := (h.below hO.bel).edge_at (k := j) (by omega)
      obtain ⟨b2, o2, y, e2, hy, d1, d3⟩ := (h.below hO.bel).edge_at hlt
      cases e2
      have q0 := hO.cell
      have hOd : OrdAt w 36 41 wr.drew := hO.drew
      have f1 : (0 : Int) ≤ (j : Int) := by omega
      have f2 : (j : Int) < (n : Int) := by omega
      have f3 : (0 : Int) ≤ (j : Int) + 1 := by omega
      have f4 : (j : Int) + 1 < (n : Int) := by omega
      have f5 : IntKind.i64.wrap (j : Int) = (j : Int) := IntWalk.i64_in _ (by omega)
      have f6 : ((j : Int) + 1).toNat = j + 1 := by omega
      have HO := Lib.hid hOd
      clear hO hOd h
      go_wp2_with (fail)
      refine wp_region_still_tail 11 (by kernel_rfl) (by kernel_rfl) ?_
      simp only [List.take_succ_cons, List.take_zero, List.drop_succ_cons, List.drop_zero]
      obtain ⟨wd, hwd⟩ : ∃ wd, wd = wr.drew := ⟨_, rfl⟩
      change wr.drew.cell? _ = _ at q0 d0 d1 d2 d3
      rw [← hwd] at q0 d0 d1 d2 d3 HO
      change wpStill _ _ wr.drew (fun a' => wpList _ _ _ _ a' wr.drew) _ _
      rw [← hwd]
      clear hwd
      repeat still_step
      refine wpStill_nil ?_
      clear f1 f2 f3 f4 f5 f6
      go_wp2_with (fail)
      refine (ordE_c x y _).mono ?_
      rintro e w3 ⟨rfl, hB3⟩
      have HO3 := Lib.hid (HO.out.step hB3)
      clear HO q0 d0 d1 d2 d3
      have hge := cmpE_ge x y
      by_cases hm : lessE x y
      · rw [decide_eq_true hm] at hge
        have H := Lib.hid (rises_more hr.out hx.out hy.out hm)
        clear hm
        have hge : ¬ 0 ≤ cmpE x y := by simpa using hge
        go_wp2_with (fail)
        go_roundw
        case rel => exact ⟨j + 1, by omega, by go_num, H.out, HO3.out⟩
        case measure => simp [intOf]; omega
      · rw [decide_eq_false hm] at hge
        have H := Lib.hid (decide_eq_false (show ¬ riseE l from rises_not hx.out hy.out hm))
        clear hm
        have hge : 0 ≤ cmpE x y := by simpa using hge
        go_wp2_with (fail)
        go_ret
        exact ⟨ret_bool H.out.symm, HO3.out.bel⟩
    · have H := Lib.hid (decide_eq_true (show riseE l from rises_all hr.out (by have := hl.out; omega)))
      clear h
      go_wp2_with (fail)
      go_ret
      exact ⟨ret_bool H.out.symm, hO.bel⟩
end Go.Proofs.YtmnjlhifjjainaaGreat
