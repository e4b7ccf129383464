/-
  Check of a query: both sides.
-/
import Derived.Test.YtmnjlhifjjainaaFrWord
namespace Go.Proofs.Ytmnjlhifjjainaa
open Go.RowKit

def allWords (l : List ByteArray) : Prop := ∀ x ∈ l, isWord x
instance (l : List ByteArray) : Decidable (allWords l) := by unfold allWords; infer_instance
theorem allWords_more {l : List ByteArray} {k : Nat} {x : ByteArray} (h : allWords (l.take k)) (hx : l[k]? = some x) (hw : isWord x) : allWords (l.take (k + 1)) := by
  intro d hd
  rw [List.take_add_one, hx, List.mem_append] at hd
  rcases hd with hd | hd
  · exact h d hd
  · simp at hd; subst hd; exact hw
theorem not_all {l : List ByteArray} {k : Nat} {x : ByteArray} (hx : l[k]? = some x) (hw : ¬ isWord x) : ¬ allWords l := fun h => hw (h x (List.mem_of_getElem? hx))
def bounded (l : List ByteArray) : Prop := ∀ x ∈ l, x.size ≤ 1000000
theorem bounded_at {l : List ByteArray} {k : Nat} {x : ByteArray} (h : bounded l) (hx : l[k]? = some x) : x.size ≤ 1000000 := h x (List.mem_of_getElem? hx)

set_option maxRecDepth 100000 in
set_option maxHeartbeats 2000000 in
theorem index_c (A : Option Addr) (n c : Nat) (l : List ByteArray) (w : World) (h1 : Reads w w.heap.size 1 A n (sv l)) (hn : n ≤ maxLen) (hb : Hid (bounded l)) :
    Calls Try.prog 132 #[.slice A n c, .func (.func 118) #[] #[]] w fun e w' => ∃ i : Int, e = .returned (.int .i64 i) ∧ decide (0 ≤ i) = !decide (allWords l) ∧ Below w.heap.size w w' := by
  have l1 := h1.str_len
  unfold maxLen at hn
  go_enter Try.func132, Try.ntmps132
  go_wp2_with (fail)
  go_loopw [8] (fun i wr => ∃ k : Nat, k ≤ n ∧ i = .int .i64 k ∧ Hid (allWords (l.take k)) ∧ Below w.heap.size w wr) (fun i _ => n - (intOf i).toNat)
  case atStart => exact ⟨0, Nat.zero_le _, rfl, fun c hc => by simp at hc, Below.refl _ _⟩
  case round =>
    obtain ⟨k, hk, rfl, hl, hB⟩ := hrel
    by_cases hlt : k < n
    · obtain ⟨a1, o1, x, rfl, hx, hc1⟩ := (h1.below hB).str_at hlt
      clear h1
      have L1 := Lib.hid l1
      clear l1
      go_wp2_with (fail)
      refine (odd_c x _ (bounded_at hb.out hx.out)).mono ?_
      rintro e w3 ⟨rfl, hB3⟩
      have hBB := hB.trans (hB3.mono hB.size)
      clear hB3
      by_cases hm : isWord x
      · rw [decide_eq_true hm]
        have H := Lib.hid (allWords_more hl.out hx.out hm)
        clear hm
        go_wp2_with (fail)
        go_roundw
        case rel => exact ⟨k + 1, by omega, by go_num, H.out, hBB⟩
        case measure => simp [intOf]; omega
      · rw [decide_eq_false hm]
        have H := Lib.hid (not_all hx.out hm)
        clear hm
        go_wp2_with (fail)
        go_ret
        exact ⟨_, rfl, by rw [decide_eq_false H.out]; simp, hBB⟩
    · obtain rfl : k = n := by omega
      have H : Hid (allWords l) := by
        have := hl.out
        rw [List.take_of_length_le (by omega)] at this
        exact this
      clear l1
      go_wp2_with (fail)
      go_ret
      exact ⟨_, rfl, by rw [decide_eq_true H.out]; simp, hB⟩

theorem contains_c (A : Option Addr) (n c : Nat) (l : List ByteArray) (w : World) (h1 : Reads w w.heap.size 1 A n (sv l)) (hn : n ≤ maxLen) (hb : Hid (bounded l)) :
    Calls Try.prog 110 #[.slice A n c, .func (.func 118) #[] #[]] w fun e w' => e = .returned (.bool (!decide (allWords l))) ∧ Below w.heap.size w w' := by
  go_enter Try.func110, Try.ntmps110
  go_wp2_with (fail)
  refine (index_c A n c l w h1 hn hb).mono ?_
  rintro e w1 ⟨i, rfl, hi, hB⟩
  have H := Lib.hid hi
  clear hi
  go_wp2_with (fail)
  go_ret
  refine ⟨ret_bool ?_, hB⟩
  rw [← H.out]

/-- A query in a box. -/
def QAt (w : World) (b : Nat) (q : Qry) (A : Option Addr) (n c : Nat) : Prop :=
  w.heap[b]? = some (.cells #[.int .i64 q.kind, .int .i64 q.src, .int .i64 q.dst, .slice A n c, .int .i64 q.radius, .int .i64 q.most] 24 (0, 0))
theorem QAt.new (w : World) (q : Qry) (A : Option Addr) (n c : Nat) : QAt (w.alloc (.cells #[.int .i64 q.kind, .int .i64 q.src, .int .i64 q.dst, .slice A n c, .int .i64 q.radius, .int .i64 q.most] 24)) w.heap.size q A n c := Array.getElem?_push_size
theorem QAt.lt {w : World} {b : Nat} {q : Qry} {A : Option Addr} {n c : Nat} (h : QAt w b q A n c) : b < w.heap.size := (Array.getElem?_eq_some_iff.1 h).1
theorem QAt.below {w w' : World} {b B : Nat} {q : Qry} {A : Option Addr} {n c : Nat} (h : QAt w b q A n c) (hB : Below B w w') (hb : b < B) : QAt w' b q A n c := (hB.block b hb).trans h
theorem QAt.cells {w : World} {b : Nat} {q : Qry} {A : Option Addr} {n c : Nat} (h : QAt w b q A n c) :
    w.cell? ⟨b, 0, none⟩ = some (.int .i64 q.kind) ∧ w.cell? ⟨b, 1, none⟩ = some (.int .i64 q.src) ∧ w.cell? ⟨b, 2, none⟩ = some (.int .i64 q.dst) ∧ w.cell? ⟨b, 3, none⟩ = some (.slice A n c) ∧ w.cell? ⟨b, 4, none⟩ = some (.int .i64 q.radius) ∧ w.cell? ⟨b, 5, none⟩ = some (.int .i64 q.most) := by
  unfold QAt at h
  refine ⟨?_, ?_, ?_, ?_, ?_, ?_⟩ <;> · rw [Lib.cell_of_heap h]; rfl
def chkErr (q : Qry) : Int := if chkQ q then 0 else 180

end Go.Proofs.Ytmnjlhifjjainaa
