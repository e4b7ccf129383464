/-
  The order of edges, the order of words.
  Words, texts, edges: the small functions of both sides.
  Check of a graph: the walk of the program.
  Do elements rise: the walks of the program.
-/
import Derived.Test.YtichoidkemeibaaGreatJ05
import Derived.Handy
import Derived.BigQuiet
import Derived.WalkLawsBesides
import Derived.WalkSpells
import Derived.Lib.Strings
import Derived.Lib.Slices
import Derived.Lib.Small
import Derived.Lib.Walk
import Derived.Lib.Bytealg
import Derived.Shelf.RegionOpen
import Derived.RegionTactic
import Derived.ChangeAlike
import Derived.BigRegion
import Derived.StillTailTactics
import Derived.IntWalk
import Derived.Deep.RegionLaw
import Derived.Lib.QuietBelow
import Derived.Laws.EntriesVeiled
namespace Go.Proofs.YtichoidkemeibaaGreat
open Go.RowKit Go.Lib

theorem isNaN_cG (x : Int) (w : World) : Calls Tryz.prog 106 #[.int .i64 x] w fun e w' => e = .returned (.bool false) ∧ w' = w := by
  go_enter Tryz.func106, Tryz.ntmps106
  go_wp2
  go_ret
  exact ⟨rfl, rfl⟩

theorem compare_cG (x y : Int) (w : World) : Calls Tryz.prog 94 #[.int .i64 x, .int .i64 y] w fun e w' => e = .returned (.int .i64 (Lib.compareInt x y)) ∧ w' = w := by
  unfold Lib.compareInt
  rcases Int.lt_trichotomy x y with h | h | h
  · rw [if_pos h]
    go_enter Tryz.func94, Tryz.ntmps94
    go_wp2_with (fail)
    refine (isNaN_cG x _).mono ?_
    rintro e w1 ⟨rfl, rfl⟩
    go_wp2_with (fail)
    refine (isNaN_cG y _).mono ?_
    rintro e w1 ⟨rfl, rfl⟩
    go_wp2_with (fail)
    go_ret
    exact ⟨rfl, rfl⟩
  · subst h
    rw [if_neg (by omega), if_neg (by omega)]
    go_enter Tryz.func94, Tryz.ntmps94
    go_wp2_with (fail)
    refine (isNaN_cG x _).mono ?_
    rintro e w1 ⟨rfl, rfl⟩
    go_wp2_with (fail)
    refine (isNaN_cG x _).mono ?_
    rintro e w1 ⟨rfl, rfl⟩
    go_wp2_with (fail)
    go_ret
    exact ⟨rfl, rfl⟩
  · have h' : ¬ x < y := by omega
    rw [if_neg h', if_pos h]
    go_enter Tryz.func94, Tryz.ntmps94
    go_wp2_with (fail)
    refine (isNaN_cG x _).mono ?_
    rintro e w1 ⟨rfl, rfl⟩
    go_wp2_with (fail)
    refine (isNaN_cG y _).mono ?_
    rintro e w1 ⟨rfl, rfl⟩
    go_wp2_with (fail)
    go_ret
    exact ⟨rfl, rfl⟩


/-- The first one that is not nought. -/
def or2 (x y : Int) : Int := if x ≠ 0 then x else y

theorem or_cG (x y : Int) (b : Nat) (w : World) (h0 : w.cell? ⟨b, 0, none⟩ = some (.int .i64 x)) (h1 : w.cell? ⟨b, 1, none⟩ = some (.int .i64 y)) :
    Calls Tryz.prog 93 #[.slice (some ⟨b, 0, none⟩) 2 2] w fun e w' => e = .returned (.int .i64 (or2 x y)) ∧ w' = w := by
  unfold or2
  by_cases hx : x = 0
  · by_cases hy : y = 0
    · subst hx hy
      go_enter Tryz.func93, Tryz.ntmps93
      go_wp2
      refine wp_loop_rounds 3 ?_
      repeat (rw [rounds_succ]; go_wp2)
      go_ret
      exact ⟨rfl, rfl⟩
    · subst hx
      go_enter Tryz.func93, Tryz.ntmps93
      go_wp2
      refine wp_loop_rounds 3 ?_
      repeat (rw [rounds_succ]; go_wp2)
      go_ret
      exact ⟨by simp, rfl⟩
  · go_enter Tryz.func93, Tryz.ntmps93
    go_wp2
    refine wp_loop_rounds 3 ?_
    repeat (rw [rounds_succ]; go_wp2)
    go_ret
    exact ⟨by simp, rfl⟩

def cmpE (x y : Edg) : Int := or2 (compareInt x.src y.src) (compareInt x.dst y.dst)
theorem cmpE_neg (x y : Edg) : cmpE x y < 0 ↔ lessE x y := by
  unfold cmpE or2 compareInt lessE
  repeat' split
  all_goals omega
theorem cmpE_ge (x y : Edg) : decide (0 ≤ cmpE x y) = !decide (lessE x y) := by
  have := cmpE_neg x y
  by_cases h : lessE x y
  · rw [decide_eq_true h, decide_eq_false (by have := this.2 h; omega)]; rfl
  · rw [decide_eq_false h, decide_eq_true (by by_cases h1 : cmpE x y < 0; exact absurd (this.1 h1) h; omega)]; rfl

set_option maxRecDepth 100000 in
set_option maxHeartbeats 1000000 in
theorem ordE_c (x y : Edg) (W : World) : Calls Tryz.prog 140 #[.agg #[.int .i64 x.src, .int .i64 x.dst], .agg #[.int .i64 y.src, .int .i64 y.dst]] W fun e w' => e = .returned (.int .i64 (cmpE x y)) ∧ Below W.heap.size W w' := by
  go_enter Tryz.func140, Tryz.ntmps140
  go_wp2_with (fail)
  have hB : Below W.heap.size W ((W.alloc (.cells #[.int .i64 x.src, .int .i64 x.dst] 73)).alloc (.cells #[.int .i64 y.src, .int .i64 y.dst] 73)) := ((Below.refl _ _).alloc (Nat.le_refl _) _).alloc (by simp) _
  have h1 : ((W.alloc (.cells #[.int .i64 x.src, .int .i64 x.dst] 73)).alloc (.cells #[.int .i64 y.src, .int .i64 y.dst] 73)).heap[W.heap.size]? = some (.cells #[.int .i64 x.src, .int .i64 x.dst] 73 (0, 0)) := by
    rw [Below.heap_alloc _ _ _ (by simp)]; exact Array.getElem?_push_size
  have h2 : ((W.alloc (.cells #[.int .i64 x.src, .int .i64 x.dst] 73)).alloc (.cells #[.int .i64 y.src, .int .i64 y.dst] 73)).heap[W.heap.size + 1]? = some (.cells #[.int .i64 y.src, .int .i64 y.dst] 73 (0, 0)) := by
    rw [← World.size_alloc W (.cells #[.int .i64 x.src, .int .i64 x.dst] 73)]; exact Array.getElem?_push_size
  have hB := Lib.hid hB
  generalize ((W.alloc (.cells #[.int .i64 x.src, .int .i64 x.dst] 73)).alloc (.cells #[.int .i64 y.src, .int .i64 y.dst] 73)) = w2 at h1 h2 hB ⊢
  have a0 : w2.cell? ⟨W.heap.size, 0, none⟩ = some (.int .i64 x.src) := by rw [Lib.cell_of_heap h1]; rfl
  have a1 : w2.cell? ⟨W.heap.size, 1, none⟩ = some (.int .i64 x.dst) := by rw [Lib.cell_of_heap h1]; rfl
  have b0 : w2.cell? ⟨W.heap.size + 1, 0, none⟩ = some (.int .i64 y.src) := by rw [Lib.cell_of_heap h2]; rfl
  have b1 : w2.cell? ⟨W.heap.size + 1, 1, none⟩ = some (.int .i64 y.dst) := by rw [Lib.cell_of_heap h2]; rfl
  have hsz := Lib.hid hB.out.size
  clear h1 h2
  refine wp_region_still_tail 10 (by kernel_rfl) (by kernel_rfl) ?_
  simp only [List.take_succ_cons, List.take_zero, List.drop_succ_cons, List.drop_zero]
  obtain ⟨w3, hw3⟩ : ∃ w3, w3 = w2.drew := ⟨_, rfl⟩
  change w2.drew.cell? _ = _ at a0 a1 b0 b1
  have hB3 : Hid (Below W.heap.size W w3) := by rw [hw3]; exact hB.out.drew
  rw [← hw3] at a0 a1 b0 b1
  change wpStill _ _ w2.drew (fun a' => wpList _ _ _ _ a' w2.drew) _ _
  rw [← hw3]
  clear hw3
  repeat still_step
  still_call (compare_cG _ _ _)
  repeat still_step
  still_call (compare_cG _ _ _)
  repeat still_step
  refine wpStill_nil ?_
  go_wp2_with (fail)
  have hn : (w3.alloc (.cells #[.int .i64 (compareInt x.src y.src), .int .i64 (compareInt x.dst y.dst)] 3)).heap[w3.heap.size]? = some (.cells #[.int .i64 (compareInt x.src y.src), .int .i64 (compareInt x.dst y.dst)] 3 (0, 0)) := Array.getElem?_push_size
  refine (or_cG _ _ _ _ (by rw [Lib.cell_of_heap hn]; rfl) (by rw [Lib.cell_of_heap hn]; rfl)).mono ?_
  rintro e w4 ⟨rfl, rfl⟩
  go_wp2_with (fail)
  go_ret
  exact ⟨rfl, hB3.out.alloc hB3.out.size _⟩

set_option maxRecDepth 100000 in
theorem cmpStr_c (a b : ByteArray) (w : World) :
    Calls Tryz.prog 160 #[.string a, .string b] w fun e w' => e = .returned (.int .i64 (compareBytes a.data.toList b.data.toList)) ∧ w' = w := by
  go_enter Tryz.func160, Tryz.ntmps160
  go_wp2
  rw [run_callFunc_extern Tryz.func172 (by kernel_rfl) (by kernel_rfl) (by kernel_rfl) (e := Extern.BytealgCompare.compare) (by kernel_rfl), Lib.run_compareString]
  simp only [Result.andThen]
  rw [Oper.upon_value]
  go_wp2
  go_ret
  exact ⟨rfl, rfl⟩
theorem ordW_c (a b : ByteArray) (w : World) :
    Calls Tryz.prog 137 #[.string a, .string b] w fun e w' => e = .returned (.int .i64 (compareBytes a.data.toList b.data.toList)) ∧ w' = w := by
  go_enter Tryz.func137, Tryz.ntmps137
  go_wp2_with (go_at_call 160; refine (cmpStr_c _ _ _).mono ?_; rintro e w' ⟨rfl, rfl⟩)
  go_ret
  exact ⟨rfl, rfl⟩
theorem compareBytes_neg : ∀ l m : List UInt8, compareBytes l m < 0 ↔ l < m
  | [], [] => by simp [compareBytes]
  | [], _ :: _ => by simp [compareBytes]
  | _ :: _, [] => by simp [compareBytes]
  | a :: l, b :: m => by
    have ih := compareBytes_neg l m
    simp only [compareBytes]
    by_cases h : a < b
    · rw [if_pos h]
      exact ⟨fun _ => List.cons_lt_cons_iff.2 (.inl h), fun _ => by omega⟩
    · rw [if_neg h]
      by_cases h2 : b < a
      · rw [if_pos h2]
        refine ⟨fun h3 => by omega, fun h3 => ?_⟩
        rcases List.cons_lt_cons_iff.1 h3 with h3 | ⟨rfl, _⟩
        · exact absurd h3 h
        · exact absurd h2 h
      · rw [if_neg h2, ih]
        have e : a = b := by
          have h4 := UInt8.not_lt.1 h
          have h5 := UInt8.not_lt.1 h2
          exact UInt8.le_antisymm h5 h4
        subst e
        exact ⟨fun h3 => List.cons_lt_cons_iff.2 (.inr ⟨rfl, h3⟩), fun h3 => by
          rcases List.cons_lt_cons_iff.1 h3 with h3 | ⟨_, h3⟩
          · exact absurd h3 h
          · exact h3⟩
def cmpW (a b : ByteArray) : Int := compareBytes a.data.toList b.data.toList
theorem cmpW_neg (a b : ByteArray) : cmpW a b < 0 ↔ ltW a b := by
  have h := compareBytes_neg a.data.toList b.data.toList
  unfold ltW cmpW
  rw [h, Go.ByteArray.toList_eq, Go.ByteArray.toList_eq]
theorem cmpW_ge (a b : ByteArray) : decide (0 ≤ cmpW a b) = !decide (ltW a b) := by
  have this := cmpW_neg a b
  by_cases h : ltW a b
  · rw [decide_eq_true h, decide_eq_false (by have := this.2 h; omega)]; rfl
  · rw [decide_eq_false h, decide_eq_true (by by_cases h1 : cmpW a b < 0; exact absurd (this.1 h1) h; omega)]; rfl
end Go.Proofs.YtichoidkemeibaaGreat

namespace Go.Proofs.YtichoidkemeibaaGreat
open Go.RowKit

theorem str_get {s : ByteArray} {k : Nat} (h : k < s.size) : s.data.toList[k]? = some s[k] := by
  have : k < s.data.size := h
  rw [Array.getElem?_toList, Array.getElem?_eq_getElem this]; rfl
def lowc (c : UInt8) : Prop := 97 ≤ c.toNat ∧ c.toNat ≤ 122
def lows (l : List UInt8) : Prop := ∀ c ∈ l, lowc c
theorem lows_more {l : List UInt8} {k : Nat} {c : UInt8} (h : lows (l.take k)) (hc : l[k]? = some c) (hl : lowc c) : lows (l.take (k + 1)) := by
  intro d hd
  rw [List.take_add_one, hc, List.mem_append] at hd
  rcases hd with hd | hd
  · exact h d hd
  · simp at hd; subst hd; exact hl
theorem not_word {s : ByteArray} {k : Nat} {c : UInt8} (hc : s.data.toList[k]? = some c) (hl : ¬ lowc c) : ¬ isWord s := fun h => hl (h.2 c (List.mem_of_getElem? hc))
theorem is_word {s : ByteArray} (h : lows (s.data.toList.take s.size)) (h1 : 1 ≤ s.size) (h2 : s.size ≤ 12) : isWord s := by
  refine ⟨⟨h1, h2⟩, fun c hc => h c ?_⟩
  rw [List.take_of_length_le (by rw [size_listG]; exact Nat.le_refl _)]
  exact hc

set_option maxRecDepth 100000 in
set_option maxHeartbeats 2000000 in
theorem word_c (s : ByteArray) (w : World) (hs : s.size ≤ 1000000) :
    Calls Tryz.prog 36 #[.string s] w fun e w' => e = .returned (.bool (decide (isWord s))) ∧ Below w.heap.size w w' := by
  go_enter Tryz.func36, Tryz.ntmps36
  go_wp2_with (fail)
  go_loopw [6] (fun i wr => ∃ k : Nat, k ≤ s.size ∧ i = .int .i64 k ∧ Hid (lows (s.data.toList.take k)) ∧ Below w.heap.size w wr) (fun i _ => s.size - (intOf i).toNat)
  case atStart => exact ⟨0, Nat.zero_le _, rfl, fun c hc => by simp at hc, Below.refl _ _⟩
  case round =>
    obtain ⟨k, hk, rfl, hl, hB⟩ := hrel
    by_cases hlt : k < s.size
    · have hc := str_get hlt
      have c1 : (k : Int) < (s.size : Int) := by omega
      by_cases hlo : s[k].toNat < 97
      · have H := Lib.hid (not_word hc (by unfold lowc; omega))
        clear hc
        have d1 : (s[k].toNat : Int) < 97 := by omega
        go_wp2_with (fail)
        go_ret
        exact ⟨ret_bool (decide_eq_false H.out).symm, hB⟩
      · by_cases hhi : 122 < s[k].toNat
        · have H := Lib.hid (not_word hc (by unfold lowc; omega))
          clear hc
          have d1 : ¬ (s[k].toNat : Int) < 97 := by omega
          have d2 : 122 < (s[k].toNat : Int) := by omega
          go_wp2_with (fail)
          go_ret
          exact ⟨ret_bool (decide_eq_false H.out).symm, hB⟩
        · have H := Lib.hid (lows_more hl.out hc (by unfold lowc; omega))
          clear hc
          have d1 : ¬ (s[k].toNat : Int) < 97 := by omega
          have d2 : ¬ 122 < (s[k].toNat : Int) := by omega
          go_wp2_with (fail)
          go_roundw
          case rel => exact ⟨k + 1, by omega, by go_num, H.out, hB⟩
          case measure => simp [intOf]; omega
    · obtain rfl : k = s.size := by omega
      by_cases h1 : 1 ≤ s.size
      · have d1 : ¬ s.toList = [] := by
          intro h
          rw [Go.ByteArray.toList_eq] at h
          have := size_listG s
          rw [h] at this
          simp at this
          omega
        have D1 := Lib.hid d1
        by_cases h2 : s.size ≤ 12
        · have H := Lib.hid (is_word hl.out h1 h2)
          have d2 : (s.size : Int) ≤ 12 := by omega
          go_wp2_with (fail)
          go_ret
          exact ⟨ret_bool (by first | (rw [decide_eq_true H.out]; done) | (rw [decide_eq_true H.out]; simp [D1.out]; done) | (rw [decide_eq_true H.out]; simp; done) | (rw [decide_eq_true H.out]; simp; omega)), hB⟩
        · have d2 : ¬ (s.size : Int) ≤ 12 := by omega
          have H := Lib.hid (fun h : isWord s => h2 h.1.2)
          go_wp2_with (fail)
          go_ret
          exact ⟨ret_bool (by first | (rw [decide_eq_false H.out]; done) | (rw [decide_eq_false H.out]; simp [D1.out]; done) | (rw [decide_eq_false H.out]; simp; done) | (rw [decide_eq_false H.out]; simp; omega)), hB⟩
      · have d1 : s = ⟨#[]⟩ := by
          apply bytes_extG
          have : s.data.toList.length = 0 := by rw [size_listG]; omega
          rw [List.eq_nil_of_length_eq_zero this]
        have H := Lib.hid (fun h : isWord s => h1 h.1.1)
        subst d1
        go_wp2_with (fail)
        go_ret
        exact ⟨ret_bool (by rw [decide_eq_false H.out]), hB⟩

theorem bytes_beq {a b : ByteArray} : (a.toList == b.toList) = decide (a = b) := by
  rw [Bool.eq_iff_iff, beq_iff_eq, decide_eq_true_iff, Go.ByteArray.toList_eq, Go.ByteArray.toList_eq]
  exact ⟨fun h => bytes_extG h, fun h => by rw [h]⟩
theorem notWord_c (s : ByteArray) (w : World) (hs : s.size ≤ 1000000) :
    Calls Tryz.prog 139 #[.string s] w fun e w' => e = .returned (.bool (!decide (isWord s))) ∧ Below w.heap.size w w' := by
  go_enter Tryz.func139, Tryz.ntmps139
  go_wp2_with (fail)
  refine (word_c s _ hs).mono ?_
  rintro e w1 ⟨rfl, hB⟩
  go_wp2_with (fail)
  go_ret
  exact ⟨rfl, hB⟩

theorem elTexts : Elem Tryz.prog 22 9 1 16 := Elem.mk_ Tryz.underlying22 (z := .string ⟨#[]⟩) (by kernel_rfl) rfl (by decide)
theorem elEdges : Elem Tryz.prog 74 73 2 16 := Elem.mk_ Tryz.underlying74 (z := .agg #[.int .i64 0, .int .i64 0]) (by kernel_rfl) rfl (by decide)
theorem elRows : Elem Tryz.prog 75 22 1 24 := Elem.mk_ Tryz.underlying75 (z := .slice none 0 0) (by kernel_rfl) rfl (by decide)
theorem isPlace_c (m v : Int) (A1 A2 : Option Addr) (n1 c1 n2 c2 : Nat) (w : World) :
    Calls Tryz.prog 138 #[.agg #[.int .i64 m, .slice A1 n1 c1, .slice A2 n2 c2], .int .i64 v] w fun e w' => e = .returned (.bool (decide (place m v))) ∧ Below w.heap.size w w' := by
  have hB := Lib.hid ((Below.refl w.heap.size w).alloc (Nat.le_refl _) (.cells #[.int .i64 m, .slice A1 n1 c1, .slice A2 n2 c2] 77))
  by_cases h1 : 0 ≤ v
  · by_cases h2 : v < m
    · have H := Lib.hid (decide_eq_true (show place m v from ⟨h1, h2⟩))
      go_enter Tryz.func138, Tryz.ntmps138
      go_wp2
      go_ret
      exact ⟨ret_bool H.out.symm, hB.out⟩
    · have H := Lib.hid (decide_eq_false (show ¬ place m v from fun h => h2 h.2))
      go_enter Tryz.func138, Tryz.ntmps138
      go_wp2
      go_ret
      exact ⟨ret_bool H.out.symm, hB.out⟩
  · have H := Lib.hid (decide_eq_false (show ¬ place m v from fun h => h1 h.1))
    go_enter Tryz.func138, Tryz.ntmps138
    go_wp2
    go_ret
    exact ⟨ret_bool H.out.symm, hB.out⟩
end Go.Proofs.YtichoidkemeibaaGreat

namespace Go.Proofs.YtichoidkemeibaaGreat
open Go.RowKit

def allWords (l : List ByteArray) : Prop := ∀ x ∈ l, isWord x
instance (l : List ByteArray) : Decidable (allWords l) := by unfold allWords; infer_instance
theorem all_more {α : Type} {p : α → Prop} {l : List α} {k : Nat} {x : α} (h : ∀ d ∈ l.take k, p d) (hx : l[k]? = some x) (hw : p x) : ∀ d ∈ l.take (k + 1), p d := by
  intro d hd
  rw [List.take_add_one, hx, List.mem_append] at hd
  rcases hd with hd | hd
  · exact h d hd
  · simp at hd; subst hd; exact hw
theorem all_full {α : Type} {p : α → Prop} {l : List α} {k : Nat} (h : ∀ d ∈ l.take k, p d) (hk : l.length ≤ k) : ∀ d ∈ l, p d := by
  rw [List.take_of_length_le hk] at h; exact h
theorem all_not {α : Type} {p : α → Prop} {l : List α} {k : Nat} {x : α} (hx : l[k]? = some x) (hw : ¬ p x) : ¬ ∀ d ∈ l, p d := fun h => hw (h x (List.mem_of_getElem? hx))
def bounded (l : List ByteArray) : Prop := ∀ x ∈ l, x.size ≤ 1000000
theorem bounded_at {l : List ByteArray} {k : Nat} {x : ByteArray} (h : bounded l) (hx : l[k]? = some x) : x.size ≤ 1000000 := h x (List.mem_of_getElem? hx)
/-- Words that are not too long to be looked at. -/
def sized (g : Gr) : Prop := ∀ l ∈ g.ws, bounded l
theorem sized_at {g : Gr} {k : Nat} {l : List ByteArray} (h : sized g) (hx : g.ws[k]? = some l) : bounded l := h l (List.mem_of_getElem? hx)

set_option maxRecDepth 100000 in
set_option maxHeartbeats 2000000 in
theorem indexW_c (A : Option Addr) (n c : Nat) (l : List ByteArray) (w : World) (h1 : Reads w w.heap.size 1 A n (sv l)) (hn : n ≤ maxLen) (hb : Hid (bounded l)) :
    Calls Tryz.prog 76 #[.slice A n c, .func (.func 139) #[] #[]] w fun e w' => ∃ i : Int, e = .returned (.int .i64 i) ∧ decide (0 ≤ i) = !decide (allWords l) ∧ Below w.heap.size w w' := by
  have l1 := h1.str_len
  unfold maxLen at hn
  go_enter Tryz.func76, Tryz.ntmps76
  go_wp2_with (fail)
  go_loopw [8] (fun i wr => ∃ k : Nat, k ≤ n ∧ i = .int .i64 k ∧ Hid (∀ d ∈ l.take k, isWord d) ∧ Below w.heap.size w wr) (fun i _ => n - (intOf i).toNat)
  case atStart => exact ⟨0, Nat.zero_le _, rfl, fun c hc => by simp at hc, Below.refl _ _⟩
  case round =>
    obtain ⟨k, hk, rfl, hl, hB⟩ := hrel
    by_cases hlt : k < n
    · obtain ⟨a1, o1, x, rfl, hx, hc1⟩ := (h1.below hB).str_at hlt
      clear h1
      have L1 := Lib.hid l1
      clear l1
      go_wp2_with (fail)
      refine (notWord_c x _ (bounded_at hb.out hx.out)).mono ?_
      rintro e w3 ⟨rfl, hB3⟩
      have hBB := hB.trans (hB3.mono hB.size)
      clear hB3
      by_cases hm : isWord x
      · rw [decide_eq_true hm]
        have H := Lib.hid (all_more hl.out hx.out hm)
        clear hm
        go_wp2_with (fail)
        go_roundw
        case rel => exact ⟨k + 1, by omega, by go_num, H.out, hBB⟩
        case measure => simp [intOf]; omega
      · rw [decide_eq_false hm]
        have H : Hid (¬ allWords l) := all_not hx.out hm
        clear hm
        go_wp2_with (fail)
        go_ret
        exact ⟨_, rfl, by rw [decide_eq_false H.out]; simp, hBB⟩
    · obtain rfl : k = n := by omega
      have H : Hid (allWords l) := all_full hl.out (by omega)
      clear l1
      go_wp2_with (fail)
      go_ret
      exact ⟨_, rfl, by rw [decide_eq_true H.out]; simp, hB⟩

theorem containsW_c (A : Option Addr) (n c : Nat) (l : List ByteArray) (w : World) (h1 : Reads w w.heap.size 1 A n (sv l)) (hn : n ≤ maxLen) (hb : Hid (bounded l)) :
    Calls Tryz.prog 37 #[.slice A n c, .func (.func 139) #[] #[]] w fun e w' => e = .returned (.bool (!decide (allWords l))) ∧ Below w.heap.size w w' := by
  go_enter Tryz.func37, Tryz.ntmps37
  go_wp2_with (fail)
  refine (indexW_c A n c l w h1 hn hb).mono ?_
  rintro e w1 ⟨i, rfl, hi, hB⟩
  have H := Lib.hid hi
  clear hi
  go_wp2_with (fail)
  go_ret
  refine ⟨ret_bool ?_, hB⟩
  rw [← H.out]

/-- A graph that came as an argument, boxed. -/
theorem box_in {w : World} {g : Gr} {A1 A2 : Option Addr} {n1 n2 : Nat} {vs : List Value} (h : GrIn w w.heap.size g A1 n1 A2 n2 vs) (c1 c2 : Nat) :
    GAt (w.alloc (.cells #[.int .i64 g.n, .slice A1 n1 c1, .slice A2 n2 c2] 77)) w.heap.size g.n A1 n1 c1 A2 n2 c2 ∧
    GrIn (w.alloc (.cells #[.int .i64 g.n, .slice A1 n1 c1, .slice A2 n2 c2] 77)) w.heap.size g A1 n1 A2 n2 vs ∧
    Below w.heap.size w (w.alloc (.cells #[.int .i64 g.n, .slice A1 n1 c1, .slice A2 n2 c2] 77)) :=
  ⟨GAt.new _ _ _ _ _ _ _ _, h.below (below_oneG _ _), below_oneG _ _⟩
/-- It is left as it is. -/
structure BoxedG (w : World) (b : Nat) (g : Gr) (A1 : Option Addr) (n1 c1 : Nat) (A2 : Option Addr) (n2 c2 : Nat) (vs : List Value) (W : World) : Prop where
  box : GAt W b g.n A1 n1 c1 A2 n2 c2
  gr : GrIn W b g A1 n1 A2 n2 vs
  bel : Below b w W
section
variable {w W W' : World} {b : Nat} {g : Gr} {A1 A2 : Option Addr} {n1 n2 c1 c2 : Nat} {vs : List Value}
theorem BoxedG.step (h : BoxedG w b g A1 n1 c1 A2 n2 c2 vs W) (hB : Below W.heap.size W W') : BoxedG w b g A1 n1 c1 A2 n2 c2 vs W' :=
  ⟨h.box.below hB h.box.lt, h.gr.below (hB.mono (Nat.le_of_lt h.box.lt)), h.bel.trans (hB.mono (Nat.le_of_lt h.box.lt))⟩
theorem BoxedG.in_ (h : BoxedG w b g A1 n1 c1 A2 n2 c2 vs W) : GrIn W W.heap.size g A1 n1 A2 n2 vs := h.gr.more (Nat.le_of_lt h.box.lt)
theorem boxed_new {w : World} (h : GrIn w w.heap.size g A1 n1 A2 n2 vs) (c1 c2 : Nat) : BoxedG w w.heap.size g A1 n1 c1 A2 n2 c2 vs (w.alloc (.cells #[.int .i64 g.n, .slice A1 n1 c1, .slice A2 n2 c2] 77)) := by
  obtain ⟨h1, h2, h3⟩ := box_in h c1 c2
  exact ⟨h1, h2, h3⟩
theorem BoxedG.drew (h : BoxedG w b g A1 n1 c1 A2 n2 c2 vs W) : BoxedG w b g A1 n1 c1 A2 n2 c2 vs W.drew := h.step ((Below.refl _ _).drew)
theorem BoxedG.drewN (h : BoxedG w b g A1 n1 c1 A2 n2 c2 vs W) (k : Nat) : BoxedG w b g A1 n1 c1 A2 n2 c2 vs (W.drewN k) := h.step (below_drewN (Below.refl _ _) k)
end

theorem check_head {g : Gr} (h1 : 1 ≤ g.n) (h2 : g.n ≤ 200) (h3 : g.es.length ≤ 2000) (h4 : (g.ws.length : Int) = g.n) (h5 : ∀ e ∈ g.es, placeE g.n e) (h6 : ∀ l ∈ g.ws, wordsOk l) : checkG g := ⟨⟨h1, h2⟩, h3, h4, h5, h6⟩

set_option maxRecDepth 100000 in
set_option maxHeartbeats 4000000 in
theorem check_cG (g : Gr) (A1 A2 : Option Addr) (n1 n2 c1 c2 : Nat) (vs : List Value) (w : World) (h : GrIn w w.heap.size g A1 n1 A2 n2 vs) (hb : Hid (sized g)) :
    Calls Tryz.prog 110 #[.agg #[.int .i64 g.n, .slice A1 n1 c1, .slice A2 n2 c2]] w fun e w' => e = .returned (.bool (decide (checkG g))) ∧ Below w.heap.size w w' := by
  have hm1 := h.m1
  have hm2 := h.m2
  unfold maxLen at hm1 hm2
  have L1 := Lib.hid h.len1
  have L2 := Lib.hid h.len2
  have HX := Lib.hid (boxed_new h c1 c2)
  clear h
  by_cases h1 : 1 ≤ g.n
  rotate_left
  · have H := Lib.hid (decide_eq_false (show ¬ checkG g from fun c => h1 c.1.1))
    go_enter Tryz.func110, Tryz.ntmps110
    go_wp2
    go_ret
    exact ⟨ret_bool H.out.symm, HX.out.bel⟩
  by_cases h2 : g.n ≤ 200
  rotate_left
  · have H := Lib.hid (decide_eq_false (show ¬ checkG g from fun c => h2 c.1.2))
    go_enter Tryz.func110, Tryz.ntmps110
    go_wp2
    go_ret
    exact ⟨ret_bool H.out.symm, HX.out.bel⟩
  by_cases h3 : n1 ≤ 2000
  rotate_left
  · have H := Lib.hid (decide_eq_false (show ¬ checkG g from fun c => h3 (by have := c.2.1; have := L1.out; omega)))
    go_enter Tryz.func110, Tryz.ntmps110
    go_wp2
    go_ret
    exact ⟨ret_bool H.out.symm, HX.out.bel⟩
  by_cases h4 : (n2 : Int) = g.n
  rotate_left
  · have H := Lib.hid (decide_eq_false (show ¬ checkG g from fun c => h4 (by have := c.2.2.1; have := L2.out; omega)))
    have e1 : ((n2 : Int) != g.n) = true := by rw [bne_iff_ne]; exact h4
    clear h4
    go_enter Tryz.func110, Tryz.ntmps110
    go_wp2
    go_ret
    exact ⟨ret_bool H.out.symm, HX.out.bel⟩
  have e1 : ((n2 : Int) != g.n) = false := by rw [bne_eq_false_iff_eq]; exact h4
  have HH := Lib.hid h4
  clear h4
  go_enter Tryz.func110, Tryz.ntmps110
  go_wp2_with (fail)
  go_loopw [32] (fun i wr => ∃ k : Nat, k ≤ n1 ∧ i = .int .i64 k ∧ Hid (∀ d ∈ g.es.take k, placeE g.n d) ∧ BoxedG w w.heap.size g A1 n1 c1 A2 n2 c2 vs wr) (fun i _ => n1 - (intOf i).toNat)
  case atStart => exact ⟨0, Nat.zero_le _, rfl, fun c hc => by simp at hc, HX.out⟩
  case round =>
    clear HX
    obtain ⟨k, hk, rfl, hl, hx⟩ := hrel
    have hbw := hx.box.lt
    by_cases hlt : k < n1
    · obtain ⟨a1, o1, x, rfl, hxe, d0, d1⟩ := hx.gr.es.edge_at hlt
      have hy := hx.step (below_oneG wr (.cells #[.int .i64 x.src, .int .i64 x.dst] 73))
      obtain ⟨e0, e2, e3⟩ := hy.box.cells
      have HY := Lib.hid hy
      clear hx hy
      have hne := Nat.lt_succ_of_lt hbw
      go_wp2_with (fail)
      refine (isPlace_c g.n x.src _ A2 n1 c1 n2 c2 _).mono ?_
      rintro e w3 ⟨rfl, hB3⟩
      have hx3 := HY.out.step hB3
      have hn : (wr.alloc (.cells #[.int .i64 x.src, .int .i64 x.dst] 73)).heap[wr.heap.size]? = some (.cells #[.int .i64 x.src, .int .i64 x.dst] 73 (0, 0)) := Array.getElem?_push_size
      have hn3 : w3.heap[wr.heap.size]? = some (.cells #[.int .i64 x.src, .int .i64 x.dst] 73 (0, 0)) := (hB3.block _ (by simp)).trans hn
      have f1 : w3.cell? ⟨wr.heap.size, 1, none⟩ = some (.int .i64 x.dst) := by rw [Lib.cell_of_heap hn3]; rfl
      clear hB3 hn hn3 e0 e2 e3 d0 d1
      obtain ⟨e0, e2, e3⟩ := hx3.box.cells
      have HX3 := Lib.hid hx3
      clear hx3
      by_cases hp : place g.n x.src
      · rw [decide_eq_true hp]
        have HP := Lib.hid hp
        clear hp
        go_wp2_with (fail)
        refine (isPlace_c g.n x.dst _ A2 n1 c1 n2 c2 _).mono ?_
        rintro e w4 ⟨rfl, hB4⟩
        have HX4 := Lib.hid (HX3.out.step hB4)
        clear hB4 e0 e2 e3 f1
        by_cases hq : place g.n x.dst
        · rw [decide_eq_true hq]
          have H := Lib.hid (all_more hl.out hxe.out (show placeE g.n x from ⟨HP.out, hq⟩))
          clear hq
          go_wp2_with (fail)
          go_roundw
          case rel => exact ⟨k + 1, by omega, by go_num, H.out, HX4.out⟩
          case measure => simp [intOf]; omega
        · rw [decide_eq_false hq]
          have H := Lib.hid (decide_eq_false (show ¬ checkG g from fun c => hq (c.2.2.2.1 x (List.mem_of_getElem? hxe.out)).2))
          clear hq
          go_wp2_with (fail)
          go_ret
          exact ⟨ret_bool H.out.symm, HX4.out.bel⟩
      · rw [decide_eq_false hp]
        have H := Lib.hid (decide_eq_false (show ¬ checkG g from fun c => hp (c.2.2.2.1 x (List.mem_of_getElem? hxe.out)).1))
        clear hp
        go_wp2_with (fail)
        go_ret
        exact ⟨ret_bool H.out.symm, HX3.out.bel⟩
    · obtain rfl : k = n1 := by omega
      have HE : Hid (∀ d ∈ g.es, placeE g.n d) := all_full hl.out (by rw [L1.out]; exact Nat.le_refl _)
      obtain ⟨e0, e2, e3⟩ := hx.box.cells
      have HX := Lib.hid hx
      clear hx hl
      go_wp2_with (fail)
      go_loopw [52] (fun i wr => ∃ j : Nat, j ≤ n2 ∧ i = .int .i64 j ∧ Hid (∀ d ∈ g.ws.take j, wordsOk d) ∧ BoxedG w w.heap.size g A1 k c1 A2 n2 c2 vs wr) (fun i _ => n2 - (intOf i).toNat)
      case atStart => exact ⟨0, Nat.zero_le _, rfl, fun c hc => by simp at hc, HX.out⟩
      case round =>
        clear HX e0 e2 e3
        obtain ⟨j, hj, rfl, hl, hx⟩ := hrel
        by_cases hlt : j < n2
        · obtain ⟨b2, o2, A, n, c, l, rfl, hxl, d0, hn, hr⟩ := hx.gr.row_at hlt
          have hr := hr.more (Nat.le_of_lt hx.box.lt)
          have hln := Lib.hid hr.str_len
          have HR := Lib.hid hr
          have HX := Lib.hid hx
          have HN := Lib.hid hn
          clear hx hr hn
          by_cases h8 : n ≤ 8
          · go_wp2_with (fail)
            refine (containsW_c A n c l _ HR.out HN.out (sized_at hb.out hxl.out)).mono ?_
            rintro e w3 ⟨rfl, hB3⟩
            have HX3 := Lib.hid (HX.out.step hB3)
            clear hB3 d0
            by_cases hw : allWords l
            · rw [decide_eq_true hw]
              have H := Lib.hid (all_more hl.out hxl.out (show wordsOk l from ⟨by rw [hln.out]; exact h8, hw⟩))
              clear hw
              go_wp2_with (fail)
              go_roundw
              case rel => exact ⟨j + 1, by omega, by go_num, H.out, HX3.out⟩
              case measure => simp [intOf]; omega
            · rw [decide_eq_false hw]
              have H := Lib.hid (decide_eq_false (show ¬ checkG g from fun c => hw (c.2.2.2.2 l (List.mem_of_getElem? hxl.out)).2))
              clear hw
              go_wp2_with (fail)
              go_ret
              exact ⟨ret_bool H.out.symm, HX3.out.bel⟩
          · have H := Lib.hid (decide_eq_false (show ¬ checkG g from fun c => h8 (by have := (c.2.2.2.2 l (List.mem_of_getElem? hxl.out)).1; have := hln.out; omega)))
            go_wp2_with (fail)
            go_ret
            exact ⟨ret_bool H.out.symm, HX.out.bel⟩
        · obtain rfl : j = n2 := by omega
          have H := Lib.hid (decide_eq_true (check_head h1 h2 (by rw [L1.out]; exact h3) (by rw [L2.out]; exact HH.out) HE.out (all_full hl.out (by rw [L2.out]; exact Nat.le_refl _))))
          go_wp2_with (fail)
          go_ret
          exact ⟨ret_bool H.out.symm, hx.bel⟩
end Go.Proofs.YtichoidkemeibaaGreat

namespace Go.Proofs.YtichoidkemeibaaGreat
open Go.RowKit

theorem words_c (w : World) : Calls Tryz.prog 109 #[] w fun e w' => e = .returned (.agg #[.func (.func 137) #[] #[]]) ∧ Below w.heap.size w w' := by
  go_enter Tryz.func109, Tryz.ntmps109
  go_wp2
  refine bodyPost_ret (v := .agg #[.func (.func 137) #[] #[]]) ?_ rfl ?_
  · simp [results, Tryz.results109, go_sem]
  · exact ⟨rfl, (below_oneG _ _)⟩
theorem edges_c (w : World) : Calls Tryz.prog 112 #[] w fun e w' => e = .returned (.agg #[.func (.func 140) #[] #[]]) ∧ Below w.heap.size w w' := by
  go_enter Tryz.func112, Tryz.ntmps112
  go_wp2
  refine bodyPost_ret (v := .agg #[.func (.func 140) #[] #[]]) ?_ rfl ?_
  · simp [results, Tryz.results112, go_sem]
  · exact ⟨rfl, (below_oneG _ _)⟩

/-- An order in its box. -/
structure OrdAt (w : World) (f : FuncId) (T : TypeId) (W : World) : Prop where
  box : W.heap[w.heap.size]? = some (.cells #[.func (.func f) #[] #[]] T (0, 0))
  bel : Below w.heap.size w W
section
variable {w W W' : World} {f : FuncId} {T : TypeId}
theorem OrdAt.cell (h : OrdAt w f T W) : W.cell? ⟨w.heap.size, 0, none⟩ = some (.func (.func f) #[] #[]) := by
  rw [Lib.cell_of_heap h.box]; rfl
theorem OrdAt.lt (h : OrdAt w f T W) : w.heap.size < W.heap.size := (Array.getElem?_eq_some_iff.1 h.box).1
theorem OrdAt.step (h : OrdAt w f T W) (hB : Below W.heap.size W W') : OrdAt w f T W' := ⟨(hB.block _ h.lt).trans h.box, h.bel.trans (hB.mono (Nat.le_of_lt h.lt))⟩
theorem OrdAt.drew (h : OrdAt w f T W) : OrdAt w f T W.drew := h.step (Below.refl _ _).drew
end
def risesTo {α : Type} (lt : α → α → Prop) (l : List α) (j : Nat) : Prop := ∀ m a b, m < j → l[m]? = some a → l[m + 1]? = some b → lt a b
theorem rises_more {α : Type} {lt : α → α → Prop} {l : List α} {j : Nat} {x y : α} (h : risesTo lt l j) (hx : l[j]? = some x) (hy : l[j + 1]? = some y) (hl : lt x y) : risesTo lt l (j + 1) := by
  intro m a b hm ha hb
  by_cases he : m = j
  · subst he
    rw [hx] at ha
    rw [hy] at hb
    cases ha; cases hb
    exact hl
  · exact h m a b (by omega) ha hb
theorem rises_all {α : Type} {lt : α → α → Prop} {l : List α} {j : Nat} (h : risesTo lt l j) (hj : l.length ≤ j + 1) : Rises lt l := by
  rw [rises_iff]
  intro m a b ha hb
  exact h m a b (by have := (List.getElem?_eq_some_iff.1 hb).1; omega) ha hb
theorem rises_not {α : Type} {lt : α → α → Prop} {l : List α} {j : Nat} {x y : α} (hx : l[j]? = some x) (hy : l[j + 1]? = some y) (hl : ¬ lt x y) : ¬ Rises lt l := by
  rw [rises_iff]
  exact fun h => hl (h j x y hx hy)

set_option maxRecDepth 100000 in
set_option maxHeartbeats 2000000 in
theorem riseW_c (A : Option Addr) (n c : Nat) (l : List ByteArray) (w : World) (h : Reads w w.heap.size 1 A n (sv l)) (hn : n ≤ maxLen) :
    Calls Tryz.prog 108 #[.slice A n c, .agg #[.func (.func 137) #[] #[]]] w fun e w' => e = .returned (.bool (decide (riseW l))) ∧ Below w.heap.size w w' := by
  have hl := Lib.hid h.str_len
  unfold maxLen at hn
  have hX := Lib.hid (show OrdAt w 137 158 (w.alloc (.cells #[.func (.func 137) #[] #[]] 158)) from ⟨Array.getElem?_push_size, below_oneG _ _⟩)
  go_enter Tryz.func108, Tryz.ntmps108
  go_wp2_with (fail)
  go_loopw [5] (fun i wr => ∃ j : Nat, j ≤ n ∧ i = .int .i64 ((j : Int) + 1) ∧ Hid (risesTo ltW l j) ∧ OrdAt w 137 158 wr) (fun i _ => n - (intOf i).toNat)
  case atStart => exact ⟨0, Nat.zero_le _, rfl, fun m a b hm => absurd hm (Nat.not_lt_zero _), hX.out⟩
  case round =>
    clear hX
    obtain ⟨j, hj, rfl, hr, hO⟩ := hrel
    by_cases hlt : j + 1 < n
    · obtain ⟨b1, o1, x, rfl, hx, d0⟩ := (h.below hO.bel).str_at (k := j) (by omega)
      obtain ⟨b2, o2, y, e2, hy, d1⟩ := (h.below hO.bel).str_at hlt
      cases e2
      have q0 := hO.cell
      have hOd : OrdAt w 137 158 wr.drew := hO.drew
      have f1 : (0 : Int) ≤ (j : Int) := by omega
      have f2 : (j : Int) < (n : Int) := by omega
      have f3 : (0 : Int) ≤ (j : Int) + 1 := by omega
      have f4 : (j : Int) + 1 < (n : Int) := by omega
      have f5 : IntKind.i64.wrap (j : Int) = (j : Int) := IntWalk.i64_in _ (by omega)
      have f6 : ((j : Int) + 1).toNat = j + 1 := by omega
      have HO := Lib.hid hOd
      clear hO hOd h
      go_wp2_with (fail)
      refine wp_region_still_tail 11 (by kernel_rfl) (by kernel_rfl) ?_
      simp only [List.take_succ_cons, List.take_zero, List.drop_succ_cons, List.drop_zero]
      obtain ⟨wd, hwd⟩ : ∃ wd, wd = wr.drew := ⟨_, rfl⟩
      change wr.drew.cell? _ = _ at q0 d0 d1
      rw [← hwd] at q0 d0 d1 HO
      change wpStill _ _ wr.drew (fun a' => wpList _ _ _ _ a' wr.drew) _ _
      rw [← hwd]
      clear hwd
      repeat still_step
      refine wpStill_nil ?_
      clear f1 f2 f3 f4 f5 f6
      go_wp2_with (fail)
      refine (ordW_c x y _).mono ?_
      rintro e w3 ⟨rfl, rfl⟩
      have HO3 := Lib.hid HO.out
      clear HO q0 d0 d1
      have hge := cmpW_ge x y
      unfold cmpW at hge
      by_cases hm : ltW x y
      · rw [decide_eq_true hm] at hge
        have H := Lib.hid (rises_more hr.out hx.out hy.out hm)
        clear hm
        have hge : ¬ 0 ≤ Lib.compareBytes x.data.toList y.data.toList := by simpa using hge
        go_wp2_with (fail)
        go_roundw
        case rel => exact ⟨j + 1, by omega, by go_num, H.out, HO3.out⟩
        case measure => simp [intOf]; omega
      · rw [decide_eq_false hm] at hge
        have H := Lib.hid (decide_eq_false (show ¬ riseW l from rises_not hx.out hy.out hm))
        clear hm
        have hge : 0 ≤ Lib.compareBytes x.data.toList y.data.toList := by simpa using hge
        go_wp2_with (fail)
        go_ret
        exact ⟨ret_bool H.out.symm, HO3.out.bel⟩
    · have H := Lib.hid (decide_eq_true (show riseW l from rises_all hr.out (by have := hl.out; omega)))
      clear h
      go_wp2_with (fail)
      go_ret
      exact ⟨ret_bool H.out.symm, hO.bel⟩

set_option maxRecDepth 100000 in
set_option maxHeartbeats 2000000 in
theorem riseE_c (A : Option Addr) (n c : Nat) (l : List Edg) (w : World) (h : Reads w w.heap.size 2 A n (ev l)) (hn : n ≤ maxLen) :
    Calls Tryz.prog 111 #[.slice A n c, .agg #[.func (.func 140) #[] #[]]] w fun e w' => e = .returned (.bool (decide (riseE l))) ∧ Below w.heap.size w w' := by
  have hl := Lib.hid h.edge_len
  unfold maxLen at hn
  have hX := Lib.hid (show OrdAt w 140 163 (w.alloc (.cells #[.func (.func 140) #[] #[]] 163)) from ⟨Array.getElem?_push_size, below_oneG _ _⟩)
  go_enter Tryz.func111, Tryz.ntmps111
  go_wp2_with (fail)
  go_loopw [5] (fun i wr => ∃ j : Nat, j ≤ n ∧ i = .int .i64 ((j : Int) + 1) ∧ Hid (risesTo lessE l j) ∧ OrdAt w 140 163 wr) (fun i _ => n - (intOf i).toNat)
  case atStart => exact ⟨0, Nat.zero_le _, rfl, fun m a b hm => absurd hm (Nat.not_lt_zero _), hX.out⟩
  case round =>
    clear hX
    obtain ⟨j, hj, rfl, hr, hO⟩ := hrel
    by_cases hlt : j + 1 < n
    · obtain ⟨b1, o1, x, rfl, hx, d0, d2⟩ := (h.below hO.bel).edge_at (k := j) (by omega)
      obtain ⟨b2, o2, y, e2, hy, d1, d3⟩ := (h.below hO.bel).edge_at hlt
      cases e2
      have q0 := hO.cell
      have hOd : OrdAt w 140 163 wr.drew := hO.drew
      have f1 : (0 : Int) ≤ (j : Int) := by omega
      have f2 : (j : Int) < (n : Int) := by omega
      have f3 : (0 : Int) ≤ (j : Int) + 1 := by omega
      have f4 : (j : Int) + 1 < (n : Int) := by omega
      have f5 : IntKind.i64.wrap (j : Int) = (j : Int) := IntWalk.i64_in _ (by omega)
      have f6 : ((j : Int) + 1).toNat = j + 1 := by omega
      have HO := Lib.hid hOd
      clear hO hOd h
      go_wp2_with (fail)
      refine wp_region_still_tail 11 (by kernel_rfl) (by kernel_rfl) ?_
      simp only [List.take_succ_cons, List.take_zero, List.drop_succ_cons, List.drop_zero]
      obtain ⟨wd, hwd⟩ : ∃ wd, wd = wr.drew := ⟨_, rfl⟩
      change wr.drew.cell? _ = _ at q0 d0 d1 d2 d3
      rw [← hwd] at q0 d0 d1 d2 d3 HO
      change wpStill _ _ wr.drew (fun a' => wpList _ _ _ _ a' wr.drew) _ _
      rw [← hwd]
      clear hwd
      repeat still_step
      refine wpStill_nil ?_
      clear f1 f2 f3 f4 f5 f6
      go_wp2_with (fail)
      refine (ordE_c x y _).mono ?_
      rintro e w3 ⟨rfl, hB3⟩
      have HO3 := Lib.hid (HO.out.step hB3)
      clear HO q0 d0 d1 d2 d3
      have hge := cmpE_ge x y
      by_cases hm : lessE x y
      · rw [decide_eq_true hm] at hge
        have H := Lib.hid (rises_more hr.out hx.out hy.out hm)
        clear hm
        have hge : ¬ 0 ≤ cmpE x y := by simpa using hge
        go_wp2_with (fail)
        go_roundw
        case rel => exact ⟨j + 1, by omega, by go_num, H.out, HO3.out⟩
        case measure => simp [intOf]; omega
      · rw [decide_eq_false hm] at hge
        have H := Lib.hid (decide_eq_false (show ¬ riseE l from rises_not hx.out hy.out hm))
        clear hm
        have hge : 0 ≤ cmpE x y := by simpa using hge
        go_wp2_with (fail)
        go_ret
        exact ⟨ret_bool H.out.symm, HO3.out.bel⟩
    · have H := Lib.hid (decide_eq_true (show riseE l from rises_all hr.out (by have := hl.out; omega)))
      clear h
      go_wp2_with (fail)
      go_ret
      exact ⟨ret_bool H.out.symm, hO.bel⟩
end Go.Proofs.YtichoidkemeibaaGreat
