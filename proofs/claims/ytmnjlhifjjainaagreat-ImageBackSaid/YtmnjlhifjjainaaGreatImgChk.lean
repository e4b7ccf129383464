/-
  Check of a graph: the walk of the program.
-/
import Derived.Test.YtmnjlhifjjainaaGreatImgWord
namespace Go.Proofs.YtmnjlhifjjainaaGreat
open Go.RowKit

def allWords (l : List ByteArray) : Prop := ∀ x ∈ l, isWord x
instance (l : List ByteArray) : Decidable (allWords l) := by unfold allWords; infer_instance
theorem all_more {α : Type} {p : α → Prop} {l : List α} {k : Nat} {x : α} (h : ∀ d ∈ l.take k, p d) (hx : l[k]? = some x) (hw : p x) : ∀ d ∈ l.take (k + 1), p d := by
  intro d hd
  rw [List.take_add_one, hx, List.mem_append] at hd
  rcases hd with hd | hd
  · exact h d hd
  · simp at hd; subst hd; exact hw
theorem all_full {α : Type} {p : α → Prop} {l : List α} {k : Nat} (h : ∀ d ∈ l.take k, p d) (hk : l.length ≤ k) : ∀ d ∈ l, p d := by
  rw [List.take_of_length_le hk] at h; exact h
theorem all_not {α : Type} {p : α → Prop} {l : List α} {k : Nat} {x : α} (hx : l[k]? = some x) (hw : ¬ p x) : ¬ ∀ d ∈ l, p d := fun h => hw (h x (List.mem_of_getElem? hx))
def bounded (l : List ByteArray) : Prop := ∀ x ∈ l, x.size ≤ 1000000
theorem bounded_at {l : List ByteArray} {k : Nat} {x : ByteArray} (h : bounded l) (hx : l[k]? = some x) : x.size ≤ 1000000 := h x (List.mem_of_getElem? hx)
/-- Words that are not too long to be looked at. -/
def sized (g : Gr) : Prop := ∀ l ∈ g.ws, bounded l
theorem sized_at {g : Gr} {k : Nat} {l : List ByteArray} (h : sized g) (hx : g.ws[k]? = some l) : bounded l := h l (List.mem_of_getElem? hx)

set_option maxRecDepth 100000 in
set_option maxHeartbeats 2000000 in
theorem indexW_c (A : Option Addr) (n c : Nat) (l : List ByteArray) (w : World) (h1 : Reads w w.heap.size 1 A n (sv l)) (hn : n ≤ maxLen) (hb : Hid (bounded l)) :
    Calls Tryz.prog 56 #[.slice A n c, .func (.func 31) #[] #[]] w fun e w' => ∃ i : Int, e = .returned (.int .i64 i) ∧ decide (0 ≤ i) = !decide (allWords l) ∧ Below w.heap.size w w' := by
  have l1 := h1.str_len
  unfold maxLen at hn
  go_enter Tryz.func56, Tryz.ntmps56
  go_wp2_with (fail)
  go_loopw [8] (fun i wr => ∃ k : Nat, k ≤ n ∧ i = .int .i64 k ∧ Hid (∀ d ∈ l.take k, isWord d) ∧ Below w.heap.size w wr) (fun i _ => n - (intOf i).toNat)
  case atStart => exact ⟨0, Nat.zero_le _, rfl, fun c hc => by simp at hc, Below.refl _ _⟩
  case round =>
    obtain ⟨k, hk, rfl, hl, hB⟩ := hrel
    by_cases hlt : k < n
    · obtain ⟨a1, o1, x, rfl, hx, hc1⟩ := (h1.below hB).str_at hlt
      clear h1
      have L1 := Lib.hid l1
      clear l1
      go_wp2_with (fail)
      refine (notWord_c x _ (bounded_at hb.out hx.out)).mono ?_
      rintro e w3 ⟨rfl, hB3⟩
      have hBB := hB.trans (hB3.mono hB.size)
      clear hB3
      by_cases hm : isWord x
      · rw [decide_eq_true hm]
        have H := Lib.hid (all_more hl.out hx.out hm)
        clear hm
        go_wp2_with (fail)
        go_roundw
        case rel => exact ⟨k + 1, by omega, by go_num, H.out, hBB⟩
        case measure => simp [intOf]; omega
      · rw [decide_eq_false hm]
        have H : Hid (¬ allWords l) := all_not hx.out hm
        clear hm
        go_wp2_with (fail)
        go_ret
        exact ⟨_, rfl, by rw [decide_eq_false H.out]; simp, hBB⟩
    · obtain rfl : k = n := by omega
      have H : Hid (allWords l) := all_full hl.out (by omega)
      clear l1
      go_wp2_with (fail)
      go_ret
      exact ⟨_, rfl, by rw [decide_eq_true H.out]; simp, hB⟩

theorem containsW_c (A : Option Addr) (n c : Nat) (l : List ByteArray) (w : World) (h1 : Reads w w.heap.size 1 A n (sv l)) (hn : n ≤ maxLen) (hb : Hid (bounded l)) :
    Calls Tryz.prog 30 #[.slice A n c, .func (.func 31) #[] #[]] w fun e w' => e = .returned (.bool (!decide (allWords l))) ∧ Below w.heap.size w w' := by
  go_enter Tryz.func30, Tryz.ntmps30
  go_wp2_with (fail)
  refine (indexW_c A n c l w h1 hn hb).mono ?_
  rintro e w1 ⟨i, rfl, hi, hB⟩
  have H := Lib.hid hi
  clear hi
  go_wp2_with (fail)
  go_ret
  refine ⟨ret_bool ?_, hB⟩
  rw [← H.out]

/-- A graph that came as an argument, boxed. -/
theorem box_in {w : World} {g : Gr} {A1 A2 : Option Addr} {n1 n2 : Nat} {vs : List Value} (h : GrIn w w.heap.size g A1 n1 A2 n2 vs) (c1 c2 : Nat) :
    GAt (w.alloc (.cells #[.int .i64 g.n, .slice A1 n1 c1, .slice A2 n2 c2] 25)) w.heap.size g.n A1 n1 c1 A2 n2 c2 ∧
    GrIn (w.alloc (.cells #[.int .i64 g.n, .slice A1 n1 c1, .slice A2 n2 c2] 25)) w.heap.size g A1 n1 A2 n2 vs ∧
    Below w.heap.size w (w.alloc (.cells #[.int .i64 g.n, .slice A1 n1 c1, .slice A2 n2 c2] 25)) :=
  ⟨GAt.new _ _ _ _ _ _ _ _, h.below (below_one _ _), below_one _ _⟩
/-- It is left as it is. -/
structure Boxed (w : World) (b : Nat) (g : Gr) (A1 : Option Addr) (n1 c1 : Nat) (A2 : Option Addr) (n2 c2 : Nat) (vs : List Value) (W : World) : Prop where
  box : GAt W b g.n A1 n1 c1 A2 n2 c2
  gr : GrIn W b g A1 n1 A2 n2 vs
  bel : Below b w W
section
variable {w W W' : World} {b : Nat} {g : Gr} {A1 A2 : Option Addr} {n1 n2 c1 c2 : Nat} {vs : List Value}
theorem Boxed.step (h : Boxed w b g A1 n1 c1 A2 n2 c2 vs W) (hB : Below W.heap.size W W') : Boxed w b g A1 n1 c1 A2 n2 c2 vs W' :=
  ⟨h.box.below hB h.box.lt, h.gr.below (hB.mono (Nat.le_of_lt h.box.lt)), h.bel.trans (hB.mono (Nat.le_of_lt h.box.lt))⟩
theorem Boxed.in_ (h : Boxed w b g A1 n1 c1 A2 n2 c2 vs W) : GrIn W W.heap.size g A1 n1 A2 n2 vs := h.gr.more (Nat.le_of_lt h.box.lt)
theorem boxed_new {w : World} (h : GrIn w w.heap.size g A1 n1 A2 n2 vs) (c1 c2 : Nat) : Boxed w w.heap.size g A1 n1 c1 A2 n2 c2 vs (w.alloc (.cells #[.int .i64 g.n, .slice A1 n1 c1, .slice A2 n2 c2] 25)) := by
  obtain ⟨h1, h2, h3⟩ := box_in h c1 c2
  exact ⟨h1, h2, h3⟩
theorem Boxed.drew (h : Boxed w b g A1 n1 c1 A2 n2 c2 vs W) : Boxed w b g A1 n1 c1 A2 n2 c2 vs W.drew := h.step ((Below.refl _ _).drew)
theorem Boxed.drewN (h : Boxed w b g A1 n1 c1 A2 n2 c2 vs W) (k : Nat) : Boxed w b g A1 n1 c1 A2 n2 c2 vs (W.drewN k) := h.step (below_drewN (Below.refl _ _) k)
end

theorem check_head {g : Gr} (h1 : 1 ≤ g.n) (h2 : g.n ≤ 200) (h3 : g.es.length ≤ 2000) (h4 : (g.ws.length : Int) = g.n) (h5 : ∀ e ∈ g.es, placeE g.n e) (h6 : ∀ l ∈ g.ws, wordsOk l) : checkG g := ⟨⟨h1, h2⟩, h3, h4, h5, h6⟩

set_option maxRecDepth 100000 in
set_option maxHeartbeats 4000000 in
theorem check_c (g : Gr) (A1 A2 : Option Addr) (n1 n2 c1 c2 : Nat) (vs : List Value) (w : World) (h : GrIn w w.heap.size g A1 n1 A2 n2 vs) (hb : Hid (sized g)) :
    Calls Tryz.prog 10 #[.agg #[.int .i64 g.n, .slice A1 n1 c1, .slice A2 n2 c2]] w fun e w' => e = .returned (.bool (decide (checkG g))) ∧ Below w.heap.size w w' := by
  have hm1 := h.m1
  have hm2 := h.m2
  unfold maxLen at hm1 hm2
  have L1 := Lib.hid h.len1
  have L2 := Lib.hid h.len2
  have HX := Lib.hid (boxed_new h c1 c2)
  clear h
  by_cases h1 : 1 ≤ g.n
  rotate_left
  · have H := Lib.hid (decide_eq_false (show ¬ checkG g from fun c => h1 c.1.1))
    go_enter Tryz.func10, Tryz.ntmps10
    go_wp2
    go_ret
    exact ⟨ret_bool H.out.symm, HX.out.bel⟩
  by_cases h2 : g.n ≤ 200
  rotate_left
  · have H := Lib.hid (decide_eq_false (show ¬ checkG g from fun c => h2 c.1.2))
    go_enter Tryz.func10, Tryz.ntmps10
    go_wp2
    go_ret
    exact ⟨ret_bool H.out.symm, HX.out.bel⟩
  by_cases h3 : n1 ≤ 2000
  rotate_left
  · have H := Lib.hid (decide_eq_false (show ¬ checkG g from fun c => h3 (by have := c.2.1; have := L1.out; omega)))
    go_enter Tryz.func10, Tryz.ntmps10
    go_wp2
    go_ret
    exact ⟨ret_bool H.out.symm, HX.out.bel⟩
  by_cases h4 : (n2 : Int) = g.n
  rotate_left
  · have H := Lib.hid (decide_eq_false (show ¬ checkG g from fun c => h4 (by have := c.2.2.1; have := L2.out; omega)))
    have e1 : ((n2 : Int) != g.n) = true := by rw [bne_iff_ne]; exact h4
    clear h4
    go_enter Tryz.func10, Tryz.ntmps10
    go_wp2
    go_ret
    exact ⟨ret_bool H.out.symm, HX.out.bel⟩
  have e1 : ((n2 : Int) != g.n) = false := by rw [bne_eq_false_iff_eq]; exact h4
  have HH := Lib.hid h4
  clear h4
  go_enter Tryz.func10, Tryz.ntmps10
  go_wp2_with (fail)
  go_loopw [32] (fun i wr => ∃ k : Nat, k ≤ n1 ∧ i = .int .i64 k ∧ Hid (∀ d ∈ g.es.take k, placeE g.n d) ∧ Boxed w w.heap.size g A1 n1 c1 A2 n2 c2 vs wr) (fun i _ => n1 - (intOf i).toNat)
  case atStart => exact ⟨0, Nat.zero_le _, rfl, fun c hc => by simp at hc, HX.out⟩
  case round =>
    clear HX
    obtain ⟨k, hk, rfl, hl, hx⟩ := hrel
    have hbw := hx.box.lt
    by_cases hlt : k < n1
    · obtain ⟨a1, o1, x, rfl, hxe, d0, d1⟩ := hx.gr.es.edge_at hlt
      have hy := hx.step (below_one wr (.cells #[.int .i64 x.src, .int .i64 x.dst] 38))
      obtain ⟨e0, e2, e3⟩ := hy.box.cells
      have HY := Lib.hid hy
      clear hx hy
      have hne := Nat.lt_succ_of_lt hbw
      go_wp2_with (fail)
      refine (isPlace_c g.n x.src _ A2 n1 c1 n2 c2 _).mono ?_
      rintro e w3 ⟨rfl, hB3⟩
      have hx3 := HY.out.step hB3
      have hn : (wr.alloc (.cells #[.int .i64 x.src, .int .i64 x.dst] 38)).heap[wr.heap.size]? = some (.cells #[.int .i64 x.src, .int .i64 x.dst] 38 (0, 0)) := Array.getElem?_push_size
      have hn3 : w3.heap[wr.heap.size]? = some (.cells #[.int .i64 x.src, .int .i64 x.dst] 38 (0, 0)) := (hB3.block _ (by simp)).trans hn
      have f1 : w3.cell? ⟨wr.heap.size, 1, none⟩ = some (.int .i64 x.dst) := by rw [Lib.cell_of_heap hn3]; rfl
      clear hB3 hn hn3 e0 e2 e3 d0 d1
      obtain ⟨e0, e2, e3⟩ := hx3.box.cells
      have HX3 := Lib.hid hx3
      clear hx3
      by_cases hp : place g.n x.src
      · rw [decide_eq_true hp]
        have HP := Lib.hid hp
        clear hp
        go_wp2_with (fail)
        refine (isPlace_c g.n x.dst _ A2 n1 c1 n2 c2 _).mono ?_
        rintro e w4 ⟨rfl, hB4⟩
        have HX4 := Lib.hid (HX3.out.step hB4)
        clear hB4 e0 e2 e3 f1
        by_cases hq : place g.n x.dst
        · rw [decide_eq_true hq]
          have H := Lib.hid (all_more hl.out hxe.out (show placeE g.n x from ⟨HP.out, hq⟩))
          clear hq
          go_wp2_with (fail)
          go_roundw
          case rel => exact ⟨k + 1, by omega, by go_num, H.out, HX4.out⟩
          case measure => simp [intOf]; omega
        · rw [decide_eq_false hq]
          have H := Lib.hid (decide_eq_false (show ¬ checkG g from fun c => hq (c.2.2.2.1 x (List.mem_of_getElem? hxe.out)).2))
          clear hq
          go_wp2_with (fail)
          go_ret
          exact ⟨ret_bool H.out.symm, HX4.out.bel⟩
      · rw [decide_eq_false hp]
        have H := Lib.hid (decide_eq_false (show ¬ checkG g from fun c => hp (c.2.2.2.1 x (List.mem_of_getElem? hxe.out)).1))
        clear hp
        go_wp2_with (fail)
        go_ret
        exact ⟨ret_bool H.out.symm, HX3.out.bel⟩
    · obtain rfl : k = n1 := by omega
      have HE : Hid (∀ d ∈ g.es, placeE g.n d) := all_full hl.out (by rw [L1.out]; exact Nat.le_refl _)
      obtain ⟨e0, e2, e3⟩ := hx.box.cells
      have HX := Lib.hid hx
      clear hx hl
      go_wp2_with (fail)
      go_loopw [52] (fun i wr => ∃ j : Nat, j ≤ n2 ∧ i = .int .i64 j ∧ Hid (∀ d ∈ g.ws.take j, wordsOk d) ∧ Boxed w w.heap.size g A1 k c1 A2 n2 c2 vs wr) (fun i _ => n2 - (intOf i).toNat)
      case atStart => exact ⟨0, Nat.zero_le _, rfl, fun c hc => by simp at hc, HX.out⟩
      case round =>
        clear HX e0 e2 e3
        obtain ⟨j, hj, rfl, hl, hx⟩ := hrel
        by_cases hlt : j < n2
        · obtain ⟨b2, o2, A, n, c, l, rfl, hxl, d0, hn, hr⟩ := hx.gr.row_at hlt
          have hr := hr.more (Nat.le_of_lt hx.box.lt)
          have hln := Lib.hid hr.str_len
          have HR := Lib.hid hr
          have HX := Lib.hid hx
          have HN := Lib.hid hn
          clear hx hr hn
          by_cases h8 : n ≤ 8
          · go_wp2_with (fail)
            refine (containsW_c A n c l _ HR.out HN.out (sized_at hb.out hxl.out)).mono ?_
            rintro e w3 ⟨rfl, hB3⟩
            have HX3 := Lib.hid (HX.out.step hB3)
            clear hB3 d0
            by_cases hw : allWords l
            · rw [decide_eq_true hw]
              have H := Lib.hid (all_more hl.out hxl.out (show wordsOk l from ⟨by rw [hln.out]; exact h8, hw⟩))
              clear hw
              go_wp2_with (fail)
              go_roundw
              case rel => exact ⟨j + 1, by omega, by go_num, H.out, HX3.out⟩
              case measure => simp [intOf]; omega
            · rw [decide_eq_false hw]
              have H := Lib.hid (decide_eq_false (show ¬ checkG g from fun c => hw (c.2.2.2.2 l (List.mem_of_getElem? hxl.out)).2))
              clear hw
              go_wp2_with (fail)
              go_ret
              exact ⟨ret_bool H.out.symm, HX3.out.bel⟩
          · have H := Lib.hid (decide_eq_false (show ¬ checkG g from fun c => h8 (by have := (c.2.2.2.2 l (List.mem_of_getElem? hxl.out)).1; have := hln.out; omega)))
            go_wp2_with (fail)
            go_ret
            exact ⟨ret_bool H.out.symm, HX.out.bel⟩
        · obtain rfl : j = n2 := by omega
          have H := Lib.hid (decide_eq_true (check_head h1 h2 (by rw [L1.out]; exact h3) (by rw [L2.out]; exact HH.out) HE.out (all_full hl.out (by rw [L2.out]; exact Nat.le_refl _))))
          go_wp2_with (fail)
          go_ret
          exact ⟨ret_bool H.out.symm, hx.bel⟩
end Go.Proofs.YtmnjlhifjjainaaGreat
