/-
  Check of a graph: the walk of the reference.
-/
import Derived.Test.YtmnjlhifjjainaaImgChk
namespace Go.Proofs.Ytmnjlhifjjainaa
open Go.RowKit

set_option maxRecDepth 100000 in
set_option maxHeartbeats 4000000 in
theorem refCheck_c (g : Gr) (A1 A2 : Option Addr) (n1 n2 c1 c2 : Nat) (vs : List Value) (w : World) (h : GrIn w w.heap.size g A1 n1 A2 n2 vs) (hb : Hid (sized g)) :
    Calls Try.prog 99 #[.agg #[.int .i64 g.n, .slice A1 n1 c1, .slice A2 n2 c2]] w fun e w' => e = .returned (.bool (decide (checkG g))) ∧ Below w.heap.size w w' := by
  have hm1 := h.m1
  have hm2 := h.m2
  unfold maxLen at hm1 hm2
  have L1 := Lib.hid h.len1
  have L2 := Lib.hid h.len2
  have HX := Lib.hid (boxed_new h c1 c2)
  clear h
  by_cases h1 : 1 ≤ g.n
  rotate_left
  · have H := Lib.hid (decide_eq_false (show ¬ checkG g from fun c => h1 c.1.1))
    go_enter Try.func99, Try.ntmps99
    go_wp2
    go_ret
    exact ⟨ret_bool H.out.symm, HX.out.bel⟩
  by_cases h2 : g.n ≤ 200
  rotate_left
  · have H := Lib.hid (decide_eq_false (show ¬ checkG g from fun c => h2 c.1.2))
    go_enter Try.func99, Try.ntmps99
    go_wp2
    go_ret
    exact ⟨ret_bool H.out.symm, HX.out.bel⟩
  by_cases h3 : n1 ≤ 2000
  rotate_left
  · have H := Lib.hid (decide_eq_false (show ¬ checkG g from fun c => h3 (by have := c.2.1; have := L1.out; omega)))
    go_enter Try.func99, Try.ntmps99
    go_wp2
    go_ret
    exact ⟨ret_bool H.out.symm, HX.out.bel⟩
  by_cases h4 : (n2 : Int) = g.n
  rotate_left
  · have H := Lib.hid (decide_eq_false (show ¬ checkG g from fun c => h4 (by have := c.2.2.1; have := L2.out; omega)))
    have e1 : ((n2 : Int) != g.n) = true := by rw [bne_iff_ne]; exact h4
    clear h4
    go_enter Try.func99, Try.ntmps99
    go_wp2
    go_ret
    exact ⟨ret_bool H.out.symm, HX.out.bel⟩
  have e1 : ((n2 : Int) != g.n) = false := by rw [bne_eq_false_iff_eq]; exact h4
  have HH := Lib.hid h4
  have hbnd : Hid (∀ i : Nat, i < n2 → (i : Int) < g.n) := fun i hi => by omega
  clear h4
  go_enter Try.func99, Try.ntmps99
  go_wp2_with (fail)
  go_loopw [3] (fun i wr => ∃ k : Nat, k ≤ n1 ∧ i = .int .i64 k ∧ Hid (∀ d ∈ g.es.take k, placeE g.n d) ∧ Boxed w w.heap.size g A1 n1 c1 A2 n2 c2 vs wr) (fun i _ => n1 - (intOf i).toNat)
  case atStart => exact ⟨0, Nat.zero_le _, rfl, fun c hc => by simp at hc, HX.out⟩
  case round =>
    clear HX
    obtain ⟨k, hk, rfl, hl, hx⟩ := hrel
    have hbw := hx.box.lt
    by_cases hlt : k < n1
    · obtain ⟨a1, o1, x, rfl, hxe, d0, d1⟩ := hx.gr.es.edge_at hlt
      obtain ⟨q0, q2, q3⟩ := hx.box.cells
      have hy := hx.step (below_one wr (.cells #[.int .i64 x.src, .int .i64 x.dst] 97))
      obtain ⟨e0, e2, e3⟩ := hy.box.cells
      have HY := Lib.hid hy
      clear hx hy
      have hne := Nat.lt_succ_of_lt hbw
      by_cases hp : placeE g.n x
      · have H := Lib.hid (all_more hl.out hxe.out hp)
        obtain ⟨⟨p1, p2⟩, p3, p4⟩ := hp
        go_wp2_with (fail)
        go_roundw
        case rel => exact ⟨k + 1, by omega, by go_num, H.out, HY.out⟩
        case measure => simp [intOf]; omega
      · have H := Lib.hid (decide_eq_false (show ¬ checkG g from fun c => hp (c.2.2.2.1 x (List.mem_of_getElem? hxe.out))))
        by_cases p1 : 0 ≤ x.src
        rotate_left
        · clear hp
          go_wp2_with (fail)
          go_ret
          exact ⟨ret_bool H.out.symm, HY.out.bel⟩
        by_cases p2 : x.src < g.n
        rotate_left
        · clear hp
          go_wp2_with (fail)
          go_ret
          exact ⟨ret_bool H.out.symm, HY.out.bel⟩
        by_cases p3 : 0 ≤ x.dst
        rotate_left
        · clear hp
          go_wp2_with (fail)
          go_ret
          exact ⟨ret_bool H.out.symm, HY.out.bel⟩
        have p4 : ¬ x.dst < g.n := fun h => hp ⟨⟨p1, p2⟩, p3, h⟩
        clear hp
        go_wp2_with (fail)
        go_ret
        exact ⟨ret_bool H.out.symm, HY.out.bel⟩
    · obtain rfl : k = n1 := by omega
      have HE : Hid (∀ d ∈ g.es, placeE g.n d) := all_full hl.out (by rw [L1.out]; exact Nat.le_refl _)
      have HX := Lib.hid hx
      obtain ⟨q0, q2, q3⟩ := hx.box.cells
      clear hx hl
      go_wp2_with (fail)
      go_loopw [5] (fun i wr => ∃ j : Nat, j ≤ n2 ∧ i = .int .i64 j ∧ Hid (∀ d ∈ g.ws.take j, wordsOk d) ∧ Boxed w w.heap.size g A1 k c1 A2 n2 c2 vs wr) (fun i _ => n2 - (intOf i).toNat)
      case atStart => exact ⟨0, Nat.zero_le _, rfl, fun c hc => by simp at hc, HX.out⟩
      case round =>
        clear HX q0 q2 q3
        obtain ⟨j, hj, rfl, hl, hx⟩ := hrel
        obtain ⟨q0, q2, q3⟩ := hx.box.cells
        by_cases hlt : j < n2
        · obtain ⟨A, n, c, l, hv, hxl⟩ := hx.gr.row_is hlt
          have hjn : (j : Int) < g.n := hbnd.out j hlt
          have HX := Lib.hid hx
          clear hx
          go_wp2_with (fail)
          clear q0 q2 q3
          go_loopw [6] (fun i wr => ∃ m : Nat, m ≤ n ∧ i = .int .i64 m ∧ Hid (∀ d ∈ l.take m, isWord d) ∧ Boxed w w.heap.size g A1 k c1 A2 n2 c2 vs wr) (fun i _ => n - (intOf i).toNat)
          case atStart => exact ⟨0, Nat.zero_le _, rfl, fun c hc => by simp at hc, HX.out⟩
          case round =>
            clear HX
            obtain ⟨m, hm, rfl, hlw, hx⟩ := hrel
            obtain ⟨q0, q2, q3⟩ := hx.box.cells
            obtain ⟨b2, o2, rfl, d0, hn, hr⟩ := hx.gr.row_of hv.out hxl.out
            unfold maxLen at hn
            have hln := Lib.hid hr.str_len
            by_cases hmn : m < n
            · obtain ⟨b3, o3, s, rfl, hxs, d3⟩ := hr.str_at hmn
              have HX := Lib.hid hx
              clear hx hr
              go_wp2_with (fail)
              refine (refWord_c s _ (bounded_at (sized_at hb.out hxl.out) hxs.out)).mono ?_
              rintro e w3 ⟨rfl, hB3⟩
              have HX3 := Lib.hid (HX.out.step hB3)
              clear hB3 d0 d3 q0 q2 q3
              by_cases hw : isWord s
              · rw [decide_eq_true hw]
                have H := Lib.hid (all_more hlw.out hxs.out hw)
                clear hw
                go_wp2_with (fail)
                go_roundw
                case rel => exact ⟨m + 1, by omega, by go_num, H.out, HX3.out⟩
                case measure => simp [intOf]; omega
              · rw [decide_eq_false hw]
                have H := Lib.hid (decide_eq_false (show ¬ checkG g from fun c => hw ((c.2.2.2.2 l (List.mem_of_getElem? hxl.out)).2 s (List.mem_of_getElem? hxs.out))))
                clear hw
                go_wp2_with (fail)
                go_ret
                exact ⟨ret_bool H.out.symm, HX3.out.bel⟩
            · obtain rfl : m = n := by omega
              have HW : Hid (∀ d ∈ l, isWord d) := all_full hlw.out (by rw [hln.out]; exact Nat.le_refl _)
              have HX := Lib.hid hx
              clear hx hr
              by_cases h8 : m ≤ 8
              · have H := Lib.hid (all_more hl.out hxl.out (show wordsOk l from ⟨by rw [hln.out]; exact h8, HW.out⟩))
                go_wp2_with (fail)
                go_roundw
                case rel => exact ⟨j + 1, by omega, by go_num, H.out, HX.out⟩
                case measure => simp [intOf]; omega
              · have H := Lib.hid (decide_eq_false (show ¬ checkG g from fun c => h8 (by have := (c.2.2.2.2 l (List.mem_of_getElem? hxl.out)).1; have := hln.out; omega)))
                go_wp2_with (fail)
                go_ret
                exact ⟨ret_bool H.out.symm, HX.out.bel⟩
        · obtain rfl : j = n2 := by omega
          have hjn : ¬ (j : Int) < g.n := by have := HH.out; omega
          have H := Lib.hid (decide_eq_true (check_head h1 h2 (by rw [L1.out]; exact h3) (by rw [L2.out]; exact HH.out) HE.out (all_full hl.out (by rw [L2.out]; exact Nat.le_refl _))))
          go_wp2_with (fail)
          go_ret
          exact ⟨ret_bool H.out.symm, hx.bel⟩
end Go.Proofs.Ytmnjlhifjjainaa
