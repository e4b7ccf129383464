/-
  Is a graph one that may be: the walk of the reference.
-/
import Derived.Test.YtmnjlhifjjainaaImgIs
import Derived.Test.YtmnjlhifjjainaaImgChkR
namespace Go.Proofs.Ytmnjlhifjjainaa
open Go.RowKit

theorem isG_make {g : Gr} (h1 : checkG g) (h2 : riseE g.es) (h3 : allRise g.ws) : isG g := ⟨h1, h2, h3⟩

theorem bytesLess_iff : ∀ l m : List UInt8, Op.bytesLess l m = true ↔ l < m
  | [], [] => by simp [Op.bytesLess]
  | [], _ :: _ => by simp [Op.bytesLess]
  | _ :: _, [] => by simp [Op.bytesLess]
  | a :: l, b :: m => by
    have ih := bytesLess_iff l m
    simp only [Op.bytesLess, Bool.or_eq_true, Bool.and_eq_true, decide_eq_true_iff, beq_iff_eq, ih]
    rw [List.cons_lt_cons_iff]
theorem less_yes {s t : ByteArray} (h : ltW s t) : Op.bytesLess s.toList t.toList = true := (bytesLess_iff _ _).2 h
theorem less_no {s t : ByteArray} (h : ¬ ltW s t) : Op.bytesLess s.toList t.toList = false := by
  cases e : Op.bytesLess s.toList t.toList with
  | false => rfl
  | true => exact absurd ((bytesLess_iff _ _).1 e) h

set_option maxRecDepth 100000 in
set_option maxHeartbeats 4000000 in
theorem refIs_c (g : Gr) (A1 A2 : Option Addr) (n1 n2 c1 c2 : Nat) (vs : List Value) (w : World) (h : GrIn w w.heap.size g A1 n1 A2 n2 vs) (hb : Hid (sized g)) :
    Calls Try.prog 63 #[.agg #[.int .i64 g.n, .slice A1 n1 c1, .slice A2 n2 c2]] w fun e w' => e = .returned (.bool (decide (isG g))) ∧ Below w.heap.size w w' := by
  have hm1 := h.m1
  have hm2 := h.m2
  unfold maxLen at hm1 hm2
  have L1 := Lib.hid h.len1
  have L2 := Lib.hid h.len2
  have HX := Lib.hid (boxed_new h c1 c2)
  clear h
  go_enter Try.func63, Try.ntmps63
  go_wp2_with (fail)
  refine (refCheck_c g A1 A2 n1 n2 c1 c2 vs _ HX.out.in_ hb).mono ?_
  rintro e w1 ⟨rfl, hB1⟩
  have HX1 := Lib.hid (HX.out.step hB1)
  clear hB1 HX
  by_cases hc : checkG g
  rotate_left
  · rw [decide_eq_false hc]
    have H := Lib.hid (decide_eq_false (show ¬ isG g from fun h => hc h.1))
    clear hc
    go_wp2_with (fail)
    go_ret
    exact ⟨ret_bool H.out.symm, HX1.out.bel⟩
  rw [decide_eq_true hc]
  have HC := Lib.hid hc
  have HH := Lib.hid hc.2.2.1
  clear hc
  go_wp2_with (fail)
  go_loopw [3] (fun i wr => ∃ j : Nat, j ≤ n1 ∧ i = .int .i64 ((j : Int) + 1) ∧ Hid (risesTo lessE g.es j) ∧ Boxed w w.heap.size g A1 n1 c1 A2 n2 c2 vs wr) (fun i _ => n1 - (intOf i).toNat)
  case atStart => exact ⟨0, Nat.zero_le _, rfl, fun m a b hm => absurd hm (Nat.not_lt_zero _), HX1.out⟩
  case round =>
    clear HX1
    obtain ⟨j, hj, rfl, hr, hx⟩ := hrel
    obtain ⟨q0, q1, q2⟩ := hx.box.cells
    by_cases hlt : j + 1 < n1
    · obtain ⟨b1, o1, x, rfl, hxx, d0, d1⟩ := hx.gr.es.edge_at (k := j) (by omega)
      obtain ⟨b2, o2, y, e2, hy, d2, d3⟩ := hx.gr.es.edge_at hlt
      cases e2
      have f1 : (0 : Int) ≤ (j : Int) := by omega
      have f2 : (j : Int) < (n1 : Int) := by omega
      have f3 : (0 : Int) ≤ (j : Int) + 1 := by omega
      have f4 : (j : Int) + 1 < (n1 : Int) := by omega
      have f5 : IntKind.i64.wrap (j : Int) = (j : Int) := IntWalk.i64_in _ (by omega)
      have f6 : ((j : Int) + 1).toNat = j + 1 := by omega
      have HO := Lib.hid hx.drew
      clear hx
      go_wp2_with (fail)
      refine wp_region_still_tail 11 (by kernel_rfl) (by kernel_rfl) ?_
      simp only [List.take_succ_cons, List.take_zero, List.drop_succ_cons, List.drop_zero]
      obtain ⟨wd, hwd⟩ : ∃ wd, wd = wr.drew := ⟨_, rfl⟩
      change wr.drew.cell? _ = _ at q0 q1 q2 d0 d1 d2 d3
      rw [← hwd] at q0 q1 q2 d0 d1 d2 d3 HO
      change wpStill _ _ wr.drew (fun a' => wpList _ _ _ _ a' wr.drew) _ _
      rw [← hwd]
      clear hwd
      repeat still_step
      refine wpStill_nil ?_
      clear f1 f2 f3 f4 f5 f6
      go_wp2_with (fail)
      refine (less_c x y _).mono ?_
      rintro e w3 ⟨rfl, hB3⟩
      have HO3 := Lib.hid (HO.out.step hB3)
      clear HO q0 q1 q2 d0 d1 d2 d3 hB3
      by_cases hm : lessE x y
      · rw [decide_eq_true hm]
        have H := Lib.hid (rises_more hr.out hxx.out hy.out hm)
        clear hm
        go_wp2_with (fail)
        go_roundw
        case rel => exact ⟨j + 1, by omega, by go_num, H.out, HO3.out⟩
        case measure => simp [intOf]; omega
      · rw [decide_eq_false hm]
        have H := Lib.hid (decide_eq_false (show ¬ isG g from fun h => rises_not hxx.out hy.out hm h.2.1))
        clear hm
        go_wp2_with (fail)
        go_ret
        exact ⟨ret_bool H.out.symm, HO3.out.bel⟩
    · have HE : Hid (riseE g.es) := rises_all hr.out (by have := L1.out; omega)
      have HX := Lib.hid hx
      clear hx
      go_wp2_with (fail)
      clear q0 q1 q2
      go_loopw [4] (fun i wr => ∃ v : Nat, v ≤ n2 ∧ i = .int .i64 v ∧ Hid (∀ d ∈ g.ws.take v, riseW d) ∧ Boxed w w.heap.size g A1 n1 c1 A2 n2 c2 vs wr) (fun i _ => n2 - (intOf i).toNat)
      case atStart => exact ⟨0, Nat.zero_le _, rfl, fun c hc => by simp at hc, HX.out⟩
      case round =>
        clear HX
        obtain ⟨v, hv, rfl, hl, hx⟩ := hrel
        obtain ⟨q0, q1, q2⟩ := hx.box.cells
        by_cases hvlt : v < n2
        · obtain ⟨A, n, c, l, hvs, hxl⟩ := hx.gr.row_is hvlt
          have hvn : (v : Int) < g.n := by have e1 := HH.out; have e2 := L2.out; omega
          have HX := Lib.hid hx
          clear hx
          go_wp2_with (fail)
          clear q0 q1 q2
          go_loopw [5] (fun i wr => ∃ m : Nat, m ≤ n ∧ i = .int .i64 ((m : Int) + 1) ∧ Hid (risesTo ltW l m) ∧ Boxed w w.heap.size g A1 n1 c1 A2 n2 c2 vs wr) (fun i _ => n - (intOf i).toNat)
          case atStart => exact ⟨0, Nat.zero_le _, rfl, fun m a b hm => absurd hm (Nat.not_lt_zero _), HX.out⟩
          case round =>
            clear HX
            obtain ⟨m, hm, rfl, hlw, hx⟩ := hrel
            obtain ⟨q0, q1, q2⟩ := hx.box.cells
            obtain ⟨b2, o2, rfl, d0, hn, hr2⟩ := hx.gr.row_of hvs.out hxl.out
            unfold maxLen at hn
            have hln := Lib.hid hr2.str_len
            by_cases hmn : m + 1 < n
            · obtain ⟨b3, o3, s, rfl, hxs, d3⟩ := hr2.str_at (k := m) (by omega)
              obtain ⟨b4, o4, t, e4, hxt, d4⟩ := hr2.str_at hmn
              cases e4
              have HX := Lib.hid hx
              clear hx hr2
              have f0 : (0 : Int) ≤ (v : Int) := by omega
              have f7 : (v : Int) < (n2 : Int) := by omega
              have f1 : (0 : Int) ≤ (m : Int) := by omega
              have f2 : (m : Int) < (n : Int) := by omega
              have f3 : (0 : Int) ≤ (m : Int) + 1 := by omega
              have f4 : (m : Int) + 1 < (n : Int) := by omega
              have f5 : IntKind.i64.wrap (m : Int) = (m : Int) := IntWalk.i64_in _ (by omega)
              have f6 : ((m : Int) + 1).toNat = m + 1 := by omega
              by_cases hw : ltW s t
              · have H := Lib.hid (rises_more hlw.out hxs.out hxt.out hw)
                have hbl := less_yes hw
                clear hw
                go_wp2_with (fail)
                go_quiet (fail)
                go_wp2_with (fail)
                go_roundw
                case rel => exact ⟨m + 1, by omega, by go_num, H.out, HX.out.drewN _⟩
                case measure => simp [intOf]; omega
              · have H := Lib.hid (decide_eq_false (show ¬ isG g from fun h => rises_not hxs.out hxt.out hw (h.2.2 l (List.mem_of_getElem? hxl.out))))
                have hbl := less_no hw
                clear hw
                go_wp2_with (fail)
                go_quiet (fail)
                go_wp2_with (fail)
                go_ret
                exact ⟨ret_bool H.out.symm, (HX.out.drewN _).bel⟩
            · have HW : Hid (riseW l) := rises_all hlw.out (by have := hln.out; omega)
              have H := Lib.hid (all_more hl.out hxl.out HW.out)
              have HX := Lib.hid hx
              clear hx hr2
              go_wp2_with (fail)
              go_roundw
              case rel => exact ⟨v + 1, by omega, by go_num, H.out, HX.out⟩
              case measure => simp [intOf]; omega
        · obtain rfl : v = n2 := by omega
          have hvn : ¬ (v : Int) < g.n := by have e1 := HH.out; have e2 := L2.out; omega
          have H := Lib.hid (decide_eq_true (isG_make HC.out HE.out (all_full hl.out (by rw [L2.out]; exact Nat.le_refl _))))
          go_wp2_with (fail)
          go_ret
          exact ⟨ret_bool H.out.symm, hx.bel⟩
end Go.Proofs.Ytmnjlhifjjainaa
