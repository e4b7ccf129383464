/-
  The mark in front; what is thrown is caught.
-/
import Derived.Test.YtmnjlhifjjainaaGreatImgRdr
namespace Go.Proofs.YtmnjlhifjjainaaGreat
open Go.RowKit

theorem mark_yes {s : ByteArray} (h : marked s) : ((s.extract 0 2).toList == [119, 103]) = true := by
  rw [beq_iff_eq, Go.ByteArray.toList_eq]
  have e := extract_data s 0 2
  rw [Nat.zero_add, List.drop_zero] at e
  rw [e]; exact h
theorem mark_no {s : ByteArray} (h : ¬ marked s) : ((s.extract 0 2).toList == [119, 103]) = false := by
  rw [beq_eq_false_iff_ne, Go.ByteArray.toList_eq]
  have e := extract_data s 0 2
  rw [Nat.zero_add, List.drop_zero] at e
  rw [e]; exact h
set_option maxRecDepth 100000 in
theorem has_c (s : ByteArray) (w : World) (hs : s.size ≤ 1000000) :
    Calls Tryz.prog 65 #[.string s, .string ⟨#[119, 103]⟩] w fun e w' => e = .returned (.bool (decide (marked s))) ∧ w' = w := by
  by_cases h2 : 2 ≤ s.size
  · by_cases hm : marked s
    · have H := Lib.hid hm
      have h1 := mark_yes hm
      clear hm
      have h2' : (2 : Int) ≤ (s.size : Int) := by omega
      go_enter Tryz.func65, Tryz.ntmps65
      go_wp2
      go_ret
      exact ⟨ret_bool (decide_eq_true H.out).symm, rfl⟩
    · have H := Lib.hid hm
      have h1 := mark_no hm
      clear hm
      have h2' : (2 : Int) ≤ (s.size : Int) := by omega
      go_enter Tryz.func65, Tryz.ntmps65
      go_wp2
      go_ret
      exact ⟨ret_bool (decide_eq_false H.out).symm, rfl⟩
  · have H : Hid (¬ marked s) := fun h => h2 (marked_size h)
    have h2' : ¬ (2 : Int) ≤ (s.size : Int) := by omega
    go_enter Tryz.func65, Tryz.ntmps65
    go_wp2
    go_ret
    exact ⟨ret_bool (decide_eq_false H.out).symm, rfl⟩
def cutS (s : ByteArray) : ByteArray := if marked s then rest s else s
set_option maxRecDepth 100000 in
theorem cut0_c (s : ByteArray) (w : World) (hs : s.size ≤ 1000000) :
    Calls Tryz.prog 49 #[.string s, .string ⟨#[119, 103]⟩] w fun e w' => e = .returned (.tuple #[.string (cutS s), .bool (decide (marked s))]) ∧ w' = w := by
  go_enter Tryz.func49, Tryz.ntmps49
  go_wp2_with (fail)
  refine (has_c s _ hs).mono ?_
  rintro e w1 ⟨rfl, rfl⟩
  by_cases hm : marked s
  · rw [decide_eq_true hm]
    have H := Lib.hid hm
    have h2 := marked_size hm
    have h2' : (2 : Int) ≤ (s.size : Int) := by omega
    clear hm
    go_wp2_with (fail)
    go_ret2
    refine ⟨?_, rfl⟩
    unfold cutS
    rw [if_pos H.out, decide_eq_true H.out]
    rfl
  · rw [decide_eq_false hm]
    have H := Lib.hid hm
    clear hm
    go_wp2_with (fail)
    go_ret2
    refine ⟨?_, rfl⟩
    unfold cutS
    rw [if_neg H.out, decide_eq_false H.out]
    rfl
theorem cut_c (s : ByteArray) (w : World) (hs : s.size ≤ 1000000) :
    Calls Tryz.prog 23 #[.string s, .string ⟨#[119, 103]⟩] w fun e w' => e = .returned (.tuple #[.string (cutS s), .bool (decide (marked s))]) ∧ w' = w := by
  go_enter Tryz.func23, Tryz.ntmps23
  go_wp2_with (fail)
  refine (cut0_c s _ hs).mono ?_
  rintro e w1 ⟨rfl, rfl⟩
  go_wp2_with (fail)
  go_ret2
  exact ⟨rfl, rfl⟩

theorem ta_nil (w : World) : (Instr.typeAssert .nilIface 20 27 true).run Tryz.prog w = .ok (.tuple #[.int .i64 0, .bool false]) w := by kernel_rfl
theorem ta_yes (w : World) (v : Value) : (Instr.typeAssert (.iface 27 v) 20 27 true).run Tryz.prog w = .ok (.tuple #[v, .bool true]) w := by kernel_rfl

def EAt (w : World) (b : Nat) (v : Int) : Prop := w.heap[b]? = some (.cells #[.int .i64 v] 27 (0, 0))
section
variable {w w' : World} {b g : Nat} {v : Int}
theorem EAt.new (w : World) (v : Int) : EAt (w.alloc (.cells #[.int .i64 v] 27)) w.heap.size v := Array.getElem?_push_size
theorem EAt.lt (h : EAt w b v) : b < w.heap.size := (Array.getElem?_eq_some_iff.1 h).1
theorem EAt.below {B : Nat} (h : EAt w b v) (hB : Below B w w') (hb : b < B) : EAt w' b v := (hB.block b hb).trans h
theorem EAt.grown (h : EAt w b v) (hg : w.grownBy w' (some g)) (hne : b ≠ g) : EAt w' b v := (hg.block b h.lt (fun e => hne (by injection e))).trans h
theorem EAt.cell (h : EAt w b v) : w.cell? ⟨b, 0, none⟩ = some (.int .i64 v) := by
  unfold EAt at h
  rw [Lib.cell_of_heap h]; rfl
theorem EAt.frozen (h : EAt w b v) : w.frozen? ⟨b, 0, none⟩ = false := Lib.frozen_of_heap h 0
theorem EAt.set (h : EAt w b v) (x : Int) : EAt (w.setCell ⟨b, 0, none⟩ (.int .i64 x)) b x := by
  have := heap_setCell_same w b 0 _ _ (.int .i64 x) h
  unfold EAt
  simpa using this
theorem EAt.drew (h : EAt w b v) : EAt w.drew b v := h
end

set_option maxRecDepth 100000 in
set_option maxHeartbeats 1000000 in
theorem catch_idle (o oe : Nat) (w : World) :
    CallsD Tryz.prog 22 #[.pointer (some ⟨o, 0, none⟩), .pointer (some ⟨oe, 0, none⟩)] .returning w fun e u' w' => e = .returned (.tuple #[]) ∧ u' = .returning ∧ w' = w := by
  refine callsD_of_wpS Tryz.func22 rfl fun c₀ cs hu => ?_
  simp only [Tryz.ntmps22, List.size_toArray, List.length_cons, List.length_nil, Nat.reduceAdd, Nat.reduceSub, Array.replicate_succ, Array.replicate_zero, List.push_toArray, List.append_toArray, List.nil_append, List.cons_append]
  apply wpS_seq
  apply wpS_region
  simp [wpOpsS, go_sem, recoverD, hu, Exit.thenS, ta_nil]
  refine wpS_of_wp ?_
  go_wp2
  cases c₀
  simp_all [bodyPostS, results, Tryz.results22]

set_option maxRecDepth 100000 in
set_option maxHeartbeats 1000000 in
theorem catch_thrown (o oe n1 c1 n2 c2 : Nat) (m : Int) (A1 A2 : Option Addr) (v0 : Int) (w : World) (hx : GAt w o m A1 n1 c1 A2 n2 c2) (he : EAt w oe v0) (hne : ¬ oe = o) :
    CallsD Tryz.prog 22 #[.pointer (some ⟨o, 0, none⟩), .pointer (some ⟨oe, 0, none⟩)] (.panicking [{ v := .iface 27 (.int .i64 30), recovered := false }]) w
      fun e u' w' => e = .returned (.tuple #[]) ∧ u' = .panicking [{ v := .iface 27 (.int .i64 30), recovered := true }] ∧ w' = (putG w o 0 none 0 0 none 0 0).setCell ⟨oe, 0, none⟩ (.int .i64 30) := by
  have hlt := hx.lt
  have hle := he.lt
  obtain ⟨d0, d1, d2⟩ := hx.cells
  have g0 := hx.frozen 0
  have g1 := hx.frozen 1
  have g2 := hx.frozen 2
  have e0 := he.cell
  have f0 := he.frozen
  have hne' : ¬ o = oe := fun e => hne e.symm
  have HX := Lib.hid hx
  have HE := Lib.hid he
  clear hx he
  refine callsD_of_wpS Tryz.func22 rfl fun c₀ cs hu => ?_
  simp only [Tryz.ntmps22, List.size_toArray, List.length_cons, List.length_nil, Nat.reduceAdd, Nat.reduceSub, Array.replicate_succ, Array.replicate_zero, List.push_toArray, List.append_toArray, List.nil_append, List.cons_append]
  apply wpS_seq
  apply wpS_region
  simp [wpOpsS, go_sem, recoverD, hu, Exit.thenS, ta_yes]
  refine wpS_of_wp ?_
  go_wp2
  cases c₀
  simp_all [bodyPostS, results, Tryz.results22, putG]

/-- What a call that parses gives. -/
def GotG (w w' : World) (s : ByteArray) (e : Ending) : Prop :=
  ∃ A1 n1 c1 A2 n2 c2 us, e = .returned (.tuple #[.agg #[.int .i64 (parseG s).n, .slice A1 n1 c1, .slice A2 n2 c2], .int .i64 (parseE s)]) ∧ GrIn w' w'.heap.size (parseG s) A1 n1 A2 n2 us ∧ Below w.heap.size w w'

theorem parse_thrown {s : ByteArray} {w W : World} {tm : Array Value} (hr : Tryz.f7.results = #[.cell 2 25, .cell 3 27]) (ht4 : tm.getD 2 undef = .pointer (some ⟨w.heap.size, 0, none⟩)) (ht5 : tm.getD 3 undef = .pointer (some ⟨w.heap.size + 1, 0, none⟩))
    {m : Int} {A1 A2 : Option Addr} {n1 c1 n2 c2 : Nat} {v0 : Int} (hx : GAt W w.heap.size m A1 n1 c1 A2 n2 c2) (he : EAt W (w.heap.size + 1) v0) (hB : Below w.heap.size w W) (hg : parseO s = none) :
    Leaves Tryz.prog Tryz.f7 tm (fun e w' => GotG w w' s e) [{ target := .fn (.func 22) #[.pointer (some ⟨w.heap.size, 0, none⟩), .pointer (some ⟨w.heap.size + 1, 0, none⟩)], args := #[] }] (.panicking [{ v := .iface 27 (.int .i64 30), recovered := false }]) W := by
  refine leaves_cons (f := 22) (args := #[.pointer (some ⟨w.heap.size, 0, none⟩), .pointer (some ⟨w.heap.size + 1, 0, none⟩)]) (by simp) (by simp [go_sem]) ?_
  refine (catch_thrown w.heap.size (w.heap.size + 1) n1 c1 n2 c2 m A1 A2 v0 W hx he (by omega)).mono ?_
  rintro e u' w'' ⟨rfl, rfl, rfl⟩
  have h1 := putG_at hx 0 none 0 0 none 0 0
  have h2 := h1.only (only_setCellS (only_refl (putG W w.heap.size 0 none 0 0 none 0 0) (some (w.heap.size + 1))) 0 (.int .i64 30)) (by omega)
  have h3 := (he.grown (putG_grown W w.heap.size 0 none 0 0 none 0 0) (by omega)).set 30
  have hB2 := ((putG_below hB (Nat.le_refl _) 0 none 0 0 none 0 0).setCell (p := ⟨w.heap.size + 1, 0, none⟩) (Nat.le_succ _) (.int .i64 30))
  generalize (putG W w.heap.size 0 none 0 0 none 0 0).setCell ⟨w.heap.size + 1, 0, none⟩ (.int .i64 30) = W9 at h2 h3 hB2 ⊢
  obtain ⟨c0, c1, c2⟩ := h2.cells
  have e0 := h3.cell
  simp only [settle, List.dropWhile_nil]
  refine ⟨.tuple #[.agg #[.int .i64 0, .slice none 0 0, .slice none 0 0], .int .i64 30], ?_, ?_⟩
  · rw [Array.getD_eq_getD_getElem?] at ht4 ht5
    simp [results, hr, ht4, ht5, c0, c1, c2, e0, go_sem]
  · obtain ⟨k1, k2⟩ := parse_none hg
    refine ⟨none, 0, 0, none, 0, 0, [], ?_, ?_, hB2⟩
    · rw [k1, k2]; rfl
    · rw [k1]; exact grIn_no _ _

theorem parse_got {s : ByteArray} {g : Gr} {w W : World} {tm : Array Value} (hr : Tryz.f7.results = #[.cell 2 25, .cell 3 27]) (ht4 : tm.getD 2 undef = .pointer (some ⟨w.heap.size, 0, none⟩)) (ht5 : tm.getD 3 undef = .pointer (some ⟨w.heap.size + 1, 0, none⟩))
    {A1 A2 : Option Addr} {n1 c1 n2 c2 : Nat} {us : List Value} (hx : GAt W w.heap.size g.n A1 n1 c1 A2 n2 c2) (he : EAt W (w.heap.size + 1) 0) (hG : GrIn W W.heap.size g A1 n1 A2 n2 us) (hB : Below w.heap.size w W) (hg : parseO s = some g) :
    Leaves Tryz.prog Tryz.f7 tm (fun e w' => GotG w w' s e) [] (settle .returning) W := by
  obtain ⟨c0, c1', c2'⟩ := hx.cells
  have e0 := he.cell
  refine ⟨.tuple #[.agg #[.int .i64 g.n, .slice A1 n1 c1, .slice A2 n2 c2], .int .i64 0], ?_, ?_⟩
  · rw [Array.getD_eq_getD_getElem?] at ht4 ht5
    simp [results, hr, ht4, ht5, c0, c1', c2', e0, go_sem]
  · obtain ⟨k1, k2⟩ := parse_some hg
    refine ⟨A1, n1, c1, A2, n2, c2, us, ?_, ?_, hB⟩
    · rw [k1, k2]
    · rw [k1]; exact hG

/-- What is read, step by step. -/
theorem rdPlace_sev (s : ByteArray) (q : Nat) : rdPlace s q = match rdNums s q with
    | some (xs, q1) => (match rdAt s q1 with
      | some (m, q2) => (match sevO s m q2 with
        | some (l, q3) => some ((xs, l), q3)
        | none => none)
      | none => none)
    | none => none := by
  unfold rdPlace sevO
  cases rdNums s q with
  | none => rfl
  | some x =>
    obtain ⟨xs, q1⟩ := x
    simp only []
    cases rdAt s q1 with
    | none => rfl
    | some y =>
      obtain ⟨m, q2⟩ := y
      simp only []
      by_cases h : m ≤ 8
      · rw [if_pos h, if_pos h]
        cases rdWords s m q2 <;> rfl
      · rw [if_neg h, if_neg h]
theorem parse_unmarked {s : ByteArray} (h : ¬ marked s) : parseO s = none := by unfold parseO; rw [if_neg h]
theorem parse_no {s : ByteArray} (h : marked s) (h1 : rdG (rest s) = none) : parseO s = none := by unfold parseO; rw [if_pos h, h1]
theorem rdG_none0 {t : ByteArray} (h : rdAt t 0 = none) : rdG t = none := by unfold rdG; rw [h]
theorem rdG_big {t : ByteArray} {n q : Nat} (h : rdAt t 0 = some (n, q)) (hn : ¬ n ≤ 200) : rdG t = none := by unfold rdG; rw [h]; simp only []; rw [if_neg hn]
theorem rdG_stop {t : ByteArray} {n q k p : Nat} {ps : List (List Int × List ByteArray)} (h : rdAt t 0 = some (n, q)) (h1 : rdPlaces t k q = some (ps, p)) (h2 : rdPlace t p = none) (hk : k < n) : rdG t = none := by
  unfold rdG
  rw [h]
  simp only []
  rw [rdPlaces_stop h1 h2 hk]
  split <;> rfl
theorem rdG_all {t : ByteArray} {n q p : Nat} {ps : List (List Int × List ByteArray)} (h : rdAt t 0 = some (n, q)) (hn : n ≤ 200) (h1 : rdPlaces t n q = some (ps, p)) : rdG t = some (grOf ps, p) := by
  unfold rdG
  rw [h]
  simp only []
  rw [if_pos hn, h1]
theorem parse_end {s : ByteArray} {g : Gr} {p : Nat} (h : marked s) (h1 : rdG (rest s) = some (g, p)) : parseO s = if p = (rest s).size ∧ isG g then some g else none := by unfold parseO; rw [if_pos h, h1]
end Go.Proofs.YtmnjlhifjjainaaGreat
