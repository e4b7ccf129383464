/-
  The order of edges, the order of words.
-/
import Derived.Test.YtmnjlhifjjainaaGreatImgMem
import Derived.Handy
import Derived.BigQuiet
import Derived.WalkLawsBesides
import Derived.WalkSpells
import Derived.Lib.Strings
import Derived.Lib.Slices
import Derived.Lib.Small
import Derived.Lib.Walk
import Derived.Lib.Bytealg
import Derived.Shelf.RegionOpen
import Derived.RegionTactic
import Derived.ChangeAlike
import Derived.BigRegion
import Derived.StillTailTactics
namespace Go.Proofs.YtmnjlhifjjainaaGreat
open Go.RowKit Go.Lib

theorem isNaN_c (x : Int) (w : World) : Calls Tryz.prog 59 #[.int .i64 x] w fun e w' => e = .returned (.bool false) ∧ w' = w := by
  go_enter Tryz.func59, Tryz.ntmps59
  go_wp2
  go_ret
  exact ⟨rfl, rfl⟩

theorem compare_c (x y : Int) (w : World) : Calls Tryz.prog 38 #[.int .i64 x, .int .i64 y] w fun e w' => e = .returned (.int .i64 (Lib.compareInt x y)) ∧ w' = w := by
  unfold Lib.compareInt
  rcases Int.lt_trichotomy x y with h | h | h
  · rw [if_pos h]
    go_enter Tryz.func38, Tryz.ntmps38
    go_wp2_with (fail)
    refine (isNaN_c x _).mono ?_
    rintro e w1 ⟨rfl, rfl⟩
    go_wp2_with (fail)
    refine (isNaN_c y _).mono ?_
    rintro e w1 ⟨rfl, rfl⟩
    go_wp2_with (fail)
    go_ret
    exact ⟨rfl, rfl⟩
  · subst h
    rw [if_neg (by omega), if_neg (by omega)]
    go_enter Tryz.func38, Tryz.ntmps38
    go_wp2_with (fail)
    refine (isNaN_c x _).mono ?_
    rintro e w1 ⟨rfl, rfl⟩
    go_wp2_with (fail)
    refine (isNaN_c x _).mono ?_
    rintro e w1 ⟨rfl, rfl⟩
    go_wp2_with (fail)
    go_ret
    exact ⟨rfl, rfl⟩
  · have h' : ¬ x < y := by omega
    rw [if_neg h', if_pos h]
    go_enter Tryz.func38, Tryz.ntmps38
    go_wp2_with (fail)
    refine (isNaN_c x _).mono ?_
    rintro e w1 ⟨rfl, rfl⟩
    go_wp2_with (fail)
    refine (isNaN_c y _).mono ?_
    rintro e w1 ⟨rfl, rfl⟩
    go_wp2_with (fail)
    go_ret
    exact ⟨rfl, rfl⟩


/-- The first one that is not nought. -/
def or2 (x y : Int) : Int := if x ≠ 0 then x else y

theorem or_c (x y : Int) (b : Nat) (w : World) (h0 : w.cell? ⟨b, 0, none⟩ = some (.int .i64 x)) (h1 : w.cell? ⟨b, 1, none⟩ = some (.int .i64 y)) :
    Calls Tryz.prog 37 #[.slice (some ⟨b, 0, none⟩) 2 2] w fun e w' => e = .returned (.int .i64 (or2 x y)) ∧ w' = w := by
  unfold or2
  by_cases hx : x = 0
  · by_cases hy : y = 0
    · subst hx hy
      go_enter Tryz.func37, Tryz.ntmps37
      go_wp2
      refine wp_loop_rounds 3 ?_
      repeat (rw [rounds_succ]; go_wp2)
      go_ret
      exact ⟨rfl, rfl⟩
    · subst hx
      go_enter Tryz.func37, Tryz.ntmps37
      go_wp2
      refine wp_loop_rounds 3 ?_
      repeat (rw [rounds_succ]; go_wp2)
      go_ret
      exact ⟨by simp, rfl⟩
  · go_enter Tryz.func37, Tryz.ntmps37
    go_wp2
    refine wp_loop_rounds 3 ?_
    repeat (rw [rounds_succ]; go_wp2)
    go_ret
    exact ⟨by simp [hx], rfl⟩

def cmpE (x y : Edg) : Int := or2 (compareInt x.src y.src) (compareInt x.dst y.dst)
theorem cmpE_neg (x y : Edg) : cmpE x y < 0 ↔ lessE x y := by
  unfold cmpE or2 compareInt lessE
  repeat' split
  all_goals omega
theorem cmpE_ge (x y : Edg) : decide (0 ≤ cmpE x y) = !decide (lessE x y) := by
  have := cmpE_neg x y
  by_cases h : lessE x y
  · rw [decide_eq_true h, decide_eq_false (by have := this.2 h; omega)]; rfl
  · rw [decide_eq_false h, decide_eq_true (by by_cases h1 : cmpE x y < 0; exact absurd (this.1 h1) h; omega)]; rfl

set_option maxRecDepth 100000 in
set_option maxHeartbeats 1000000 in
theorem ordE_c (x y : Edg) (W : World) : Calls Tryz.prog 36 #[.agg #[.int .i64 x.src, .int .i64 x.dst], .agg #[.int .i64 y.src, .int .i64 y.dst]] W fun e w' => e = .returned (.int .i64 (cmpE x y)) ∧ Below W.heap.size W w' := by
  go_enter Tryz.func36, Tryz.ntmps36
  go_wp2_with (fail)
  have hB : Below W.heap.size W ((W.alloc (.cells #[.int .i64 x.src, .int .i64 x.dst] 38)).alloc (.cells #[.int .i64 y.src, .int .i64 y.dst] 38)) := ((Below.refl _ _).alloc (Nat.le_refl _) _).alloc (by simp) _
  have h1 : ((W.alloc (.cells #[.int .i64 x.src, .int .i64 x.dst] 38)).alloc (.cells #[.int .i64 y.src, .int .i64 y.dst] 38)).heap[W.heap.size]? = some (.cells #[.int .i64 x.src, .int .i64 x.dst] 38 (0, 0)) := by
    rw [Below.heap_alloc _ _ _ (by simp)]; exact Array.getElem?_push_size
  have h2 : ((W.alloc (.cells #[.int .i64 x.src, .int .i64 x.dst] 38)).alloc (.cells #[.int .i64 y.src, .int .i64 y.dst] 38)).heap[W.heap.size + 1]? = some (.cells #[.int .i64 y.src, .int .i64 y.dst] 38 (0, 0)) := by
    rw [← World.size_alloc W (.cells #[.int .i64 x.src, .int .i64 x.dst] 38)]; exact Array.getElem?_push_size
  have hB := Lib.hid hB
  generalize ((W.alloc (.cells #[.int .i64 x.src, .int .i64 x.dst] 38)).alloc (.cells #[.int .i64 y.src, .int .i64 y.dst] 38)) = w2 at h1 h2 hB ⊢
  have a0 : w2.cell? ⟨W.heap.size, 0, none⟩ = some (.int .i64 x.src) := by rw [Lib.cell_of_heap h1]; rfl
  have a1 : w2.cell? ⟨W.heap.size, 1, none⟩ = some (.int .i64 x.dst) := by rw [Lib.cell_of_heap h1]; rfl
  have b0 : w2.cell? ⟨W.heap.size + 1, 0, none⟩ = some (.int .i64 y.src) := by rw [Lib.cell_of_heap h2]; rfl
  have b1 : w2.cell? ⟨W.heap.size + 1, 1, none⟩ = some (.int .i64 y.dst) := by rw [Lib.cell_of_heap h2]; rfl
  have hsz := Lib.hid hB.out.size
  clear h1 h2
  refine wp_region_still_tail 10 (by kernel_rfl) (by kernel_rfl) ?_
  simp only [List.take_succ_cons, List.take_zero, List.drop_succ_cons, List.drop_zero]
  obtain ⟨w3, hw3⟩ : ∃ w3, w3 = w2.drew := ⟨_, rfl⟩
  change w2.drew.cell? _ = _ at a0 a1 b0 b1
  have hB3 : Hid (Below W.heap.size W w3) := by rw [hw3]; exact hB.out.drew
  rw [← hw3] at a0 a1 b0 b1
  change wpStill _ _ w2.drew (fun a' => wpList _ _ _ _ a' w2.drew) _ _
  rw [← hw3]
  clear hw3
  repeat still_step
  still_call (compare_c _ _ _)
  repeat still_step
  still_call (compare_c _ _ _)
  repeat still_step
  refine wpStill_nil ?_
  go_wp2_with (fail)
  have hn : (w3.alloc (.cells #[.int .i64 (compareInt x.src y.src), .int .i64 (compareInt x.dst y.dst)] 3)).heap[w3.heap.size]? = some (.cells #[.int .i64 (compareInt x.src y.src), .int .i64 (compareInt x.dst y.dst)] 3 (0, 0)) := Array.getElem?_push_size
  refine (or_c _ _ _ _ (by rw [Lib.cell_of_heap hn]; rfl) (by rw [Lib.cell_of_heap hn]; rfl)).mono ?_
  rintro e w4 ⟨rfl, rfl⟩
  go_wp2_with (fail)
  go_ret
  exact ⟨rfl, hB3.out.alloc hB3.out.size _⟩

set_option maxRecDepth 100000 in
theorem cmpStr_c (a b : ByteArray) (w : World) :
    Calls Tryz.prog 61 #[.string a, .string b] w fun e w' => e = .returned (.int .i64 (compareBytes a.data.toList b.data.toList)) ∧ w' = w := by
  go_enter Tryz.func61, Tryz.ntmps61
  go_wp2
  rw [run_callFunc_extern Tryz.func93 (by kernel_rfl) (by kernel_rfl) (by kernel_rfl) (e := Extern.BytealgCompare.compare) (by kernel_rfl), Lib.run_compareString]
  simp only [Result.andThen]
  rw [Oper.upon_value]
  go_wp2
  go_ret
  exact ⟨rfl, rfl⟩
theorem ordW_c (a b : ByteArray) (w : World) :
    Calls Tryz.prog 42 #[.string a, .string b] w fun e w' => e = .returned (.int .i64 (compareBytes a.data.toList b.data.toList)) ∧ w' = w := by
  go_enter Tryz.func42, Tryz.ntmps42
  go_wp2_with (go_at_call 61; refine (cmpStr_c _ _ _).mono ?_; rintro e w' ⟨rfl, rfl⟩)
  go_ret
  exact ⟨rfl, rfl⟩
theorem compareBytes_neg : ∀ l m : List UInt8, compareBytes l m < 0 ↔ l < m
  | [], [] => by simp [compareBytes]
  | [], _ :: _ => by simp [compareBytes]
  | _ :: _, [] => by simp [compareBytes]
  | a :: l, b :: m => by
    have ih := compareBytes_neg l m
    simp only [compareBytes]
    by_cases h : a < b
    · rw [if_pos h]
      exact ⟨fun _ => List.cons_lt_cons_iff.2 (.inl h), fun _ => by omega⟩
    · rw [if_neg h]
      by_cases h2 : b < a
      · rw [if_pos h2]
        refine ⟨fun h3 => by omega, fun h3 => ?_⟩
        rcases List.cons_lt_cons_iff.1 h3 with h3 | ⟨rfl, _⟩
        · exact absurd h3 h
        · exact absurd h2 h
      · rw [if_neg h2, ih]
        have e : a = b := by
          have h4 := UInt8.not_lt.1 h
          have h5 := UInt8.not_lt.1 h2
          exact UInt8.le_antisymm h5 h4
        subst e
        exact ⟨fun h3 => List.cons_lt_cons_iff.2 (.inr ⟨rfl, h3⟩), fun h3 => by
          rcases List.cons_lt_cons_iff.1 h3 with h3 | ⟨_, h3⟩
          · exact absurd h3 h
          · exact h3⟩
def cmpW (a b : ByteArray) : Int := compareBytes a.data.toList b.data.toList
theorem cmpW_neg (a b : ByteArray) : cmpW a b < 0 ↔ ltW a b := by
  have h := compareBytes_neg a.data.toList b.data.toList
  unfold ltW cmpW
  rw [h, Go.ByteArray.toList_eq, Go.ByteArray.toList_eq]
theorem cmpW_ge (a b : ByteArray) : decide (0 ≤ cmpW a b) = !decide (ltW a b) := by
  have this := cmpW_neg a b
  by_cases h : ltW a b
  · rw [decide_eq_true h, decide_eq_false (by have := this.2 h; omega)]; rfl
  · rw [decide_eq_false h, decide_eq_true (by by_cases h1 : cmpW a b < 0; exact absurd (this.1 h1) h; omega)]; rfl
end Go.Proofs.YtmnjlhifjjainaaGreat
