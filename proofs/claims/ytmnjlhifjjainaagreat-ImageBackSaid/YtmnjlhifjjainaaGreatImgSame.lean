/-
  Are two graphs the same.
-/
import Derived.Test.YtmnjlhifjjainaaGreatImgIs
namespace Go.Proofs.YtmnjlhifjjainaaGreat
open Go.RowKit

theorem run_neq_edge (x y : Edg) (h : x ≠ y) (w : World) :
    (binOp .neq 38 (.agg #[.int .i64 x.src, .int .i64 x.dst]) (.agg #[.int .i64 y.src, .int .i64 y.dst])).run Tryz.prog w = .ok (.bool true) w := by
  have h' : ¬ (x.src = y.src ∧ x.dst = y.dst) := fun e => h ((Edg.eq_iff _ _).2 e)
  have H := Lib.hid h'
  clear h h'
  go_simp
  by_cases e1 : x.src = y.src
  · by_cases e2 : x.dst = y.dst
    · exact absurd ⟨e1, e2⟩ H.out
    · simp [e1, e2]
  · simp [e1]

theorem take_full {α : Type} {l m : List α} {k : Nat} (h : l.take k = m.take k) (h1 : l.length ≤ k) (h2 : m.length ≤ k) : l = m := by
  rw [List.take_of_length_le h1, List.take_of_length_le h2] at h; exact h
theorem take_step {α : Type} {l m : List α} {k : Nat} {x : α} (h : l.take k = m.take k) (h1 : l[k]? = some x) (h2 : m[k]? = some x) : l.take (k + 1) = m.take (k + 1) := by
  rw [List.take_add_one, List.take_add_one, h, h1, h2]
theorem take_not {α : Type} {l m : List α} {k : Nat} {x y : α} (hne : x ≠ y) (h1 : l[k]? = some x) (h2 : m[k]? = some y) : l ≠ m := fun e => hne (by
  rw [e, h2] at h1
  injection h1 with h1; exact h1.symm)

set_option maxRecDepth 100000 in
set_option maxHeartbeats 4000000 in
theorem same_c (g h : Gr) (A1 A2 A3 A4 : Option Addr) (n1 n2 c1 c2 n3 n4 c3 c4 : Nat) (vs us : List Value) (w : World) (hg : GrIn w w.heap.size g A1 n1 A2 n2 vs) (hh : GrIn w w.heap.size h A3 n3 A4 n4 us) :
    Calls Tryz.prog 9 #[.agg #[.int .i64 g.n, .slice A1 n1 c1, .slice A2 n2 c2], .agg #[.int .i64 h.n, .slice A3 n3 c3, .slice A4 n4 c4]] w fun e w' => e = .returned (.bool (decide (g = h))) ∧ Below w.heap.size w w' := by
  have hm1 := hg.m1
  have hm2 := hg.m2
  have hm3 := hh.m1
  have hm4 := hh.m2
  unfold maxLen at hm1 hm2 hm3 hm4
  have L1 := Lib.hid hg.len1
  have L2 := Lib.hid hg.len2
  have L3 := Lib.hid hh.len1
  have L4 := Lib.hid hh.len2
  have hx := (boxed_new hg c1 c2).step (below_one _ (.cells #[.int .i64 h.n, .slice A3 n3 c3, .slice A4 n4 c4] 25))
  have hh1 : GrIn (w.alloc (.cells #[.int .i64 g.n, .slice A1 n1 c1, .slice A2 n2 c2] 25)) (w.alloc (.cells #[.int .i64 g.n, .slice A1 n1 c1, .slice A2 n2 c2] 25)).heap.size h A3 n3 A4 n4 us := hh.new (below_one _ _)
  have hy := boxed_new hh1 c3 c4
  rw [World.size_alloc] at hy
  have HX := Lib.hid hx
  have HY := Lib.hid hy
  clear hx hy hh1 hg hh
  by_cases e0 : g.n = h.n
  rotate_left
  · have H := Lib.hid (decide_eq_false (show ¬ g = h from fun e => e0 (by rw [e])))
    have e1 : (g.n != h.n) = true := by rw [bne_iff_ne]; exact e0
    clear e0
    go_enter Tryz.func9, Tryz.ntmps9
    go_wp2
    go_ret
    exact ⟨ret_bool H.out.symm, HX.out.bel⟩
  have e1 : (g.n != h.n) = false := by rw [bne_eq_false_iff_eq]; exact e0
  have E0 := Lib.hid e0
  clear e0
  by_cases e2 : n1 = n3
  rotate_left
  · have H := Lib.hid (decide_eq_false (show ¬ g = h from fun e => e2 (by rw [← L1.out, ← L3.out, e])))
    go_enter Tryz.func9, Tryz.ntmps9
    go_wp2
    go_ret
    exact ⟨ret_bool H.out.symm, HX.out.bel⟩
  subst e2
  by_cases e3 : n2 = n4
  rotate_left
  · have H := Lib.hid (decide_eq_false (show ¬ g = h from fun e => e3 (by rw [← L2.out, ← L4.out, e])))
    go_enter Tryz.func9, Tryz.ntmps9
    go_wp2
    go_ret
    exact ⟨ret_bool H.out.symm, HX.out.bel⟩
  subst e3
  go_enter Tryz.func9, Tryz.ntmps9
  go_wp2_with (fail)
  go_loopw [5] (fun i wr => ∃ k : Nat, k ≤ n1 ∧ i = .int .i64 k ∧ Hid (g.es.take k = h.es.take k) ∧ Boxed w w.heap.size g A1 n1 c1 A2 n2 c2 vs wr ∧
      Boxed (w.alloc (.cells #[.int .i64 g.n, .slice A1 n1 c1, .slice A2 n2 c2] 25)) (w.heap.size + 1) h A3 n1 c3 A4 n2 c4 us wr) (fun i _ => n1 - (intOf i).toNat)
  case atStart => exact ⟨0, Nat.zero_le _, rfl, rfl, HX.out, HY.out⟩
  case round =>
    clear HX HY
    obtain ⟨k, hk, rfl, ht, hx, hy⟩ := hrel
    obtain ⟨q0, q1, q2⟩ := hx.box.cells
    obtain ⟨z0, z1, z2⟩ := hy.box.cells
    by_cases hlt : k < n1
    · obtain ⟨b1, o1, x, rfl, hxx, d0, d1⟩ := hx.gr.es.edge_at hlt
      obtain ⟨b2, o2, y, rfl, hyy, d2, d3⟩ := hy.gr.es.edge_at hlt
      have HX := Lib.hid hx
      have HY := Lib.hid hy
      clear hx hy
      have f1 : (0 : Int) ≤ (k : Int) := by omega
      have f2 : (k : Int) < (n1 : Int) := by omega
      by_cases hxy : x = y
      · subst hxy
        go_wp2_with (fail)
        go_quiet (fail)
        go_wp2_with (fail)
        go_roundw
        case rel => exact ⟨k + 1, by omega, by go_num, take_step ht.out hxx.out hyy.out, HX.out.drewN _, HY.out.drewN _⟩
        case measure => simp [intOf]; omega
      · have hrun := run_neq_edge x y hxy
        have H := Lib.hid (decide_eq_false (show ¬ g = h from fun e => take_not hxy hxx.out hyy.out (by rw [e])))
        clear hxy
        go_wp2_with (fail)
        go_quiet (fail)
        go_wp2_with (fail)
        go_ret
        exact ⟨ret_bool H.out.symm, (HX.out.drewN _).bel⟩
    · have HE : Hid (g.es = h.es) := take_full ht.out (by have := L1.out; omega) (by have := L3.out; omega)
      have HX := Lib.hid hx
      have HY := Lib.hid hy
      clear hx hy
      go_wp2_with (fail)
      clear q0 q1 q2 z0 z1 z2
      go_loopw [6] (fun i wr => ∃ v : Nat, v ≤ n2 ∧ i = .int .i64 v ∧ Hid (g.ws.take v = h.ws.take v) ∧ Boxed w w.heap.size g A1 n1 c1 A2 n2 c2 vs wr ∧
          Boxed (w.alloc (.cells #[.int .i64 g.n, .slice A1 n1 c1, .slice A2 n2 c2] 25)) (w.heap.size + 1) h A3 n1 c3 A4 n2 c4 us wr) (fun i _ => n2 - (intOf i).toNat)
      case atStart => exact ⟨0, Nat.zero_le _, rfl, rfl, HX.out, HY.out⟩
      case round =>
        clear HX HY
        obtain ⟨v, hv, rfl, hu, hx, hy⟩ := hrel
        obtain ⟨q0, q1, q2⟩ := hx.box.cells
        obtain ⟨z0, z1, z2⟩ := hy.box.cells
        by_cases hvlt : v < n2
        · obtain ⟨b1, o1, A, n, c, l, rfl, hxl, d0, hn, hr⟩ := hx.gr.row_at hvlt
          obtain ⟨b2, o2, A', n', c', l', rfl, hyl, d1, hn', hr'⟩ := hy.gr.row_at hvlt
          have HR := Lib.hid (hr.more (Nat.le_of_lt hx.box.lt))
          have HR' := Lib.hid (hr'.more (Nat.le_of_lt hy.box.lt))
          have HN := Lib.hid hn
          have HN' := Lib.hid hn'
          have HX := Lib.hid hx
          have HY := Lib.hid hy
          clear hx hy hr hr' hn hn'
          have f1 : (0 : Int) ≤ (v : Int) := by omega
          have f2 : (v : Int) < (n2 : Int) := by omega
          go_wp2_with (fail)
          refine wp_region_still_tail 10 (by kernel_rfl) (by kernel_rfl) ?_
          simp only [List.take_succ_cons, List.take_zero, List.drop_succ_cons, List.drop_zero]
          obtain ⟨wd, hwd⟩ : ∃ wd, wd = wr.drew := ⟨_, rfl⟩
          change wr.drew.cell? _ = _ at q0 q1 q2 z0 z1 z2 d0 d1
          have HX2 : Hid (Boxed w w.heap.size g A1 n1 c1 (some ⟨b1, o1, none⟩) n2 c2 vs wr.drew) := HX.out.drew
          have HY2 : Hid (Boxed (w.alloc (.cells #[.int .i64 g.n, .slice A1 n1 c1, .slice (some ⟨b1, o1, none⟩) n2 c2] 25)) (w.heap.size + 1) h A3 n1 c3 (some ⟨b2, o2, none⟩) n2 c4 us wr.drew) := HY.out.drew
          have HR2 : Hid (Reads wr.drew wr.drew.heap.size 1 A n (sv l)) := HR.out
          have HR3 : Hid (Reads wr.drew wr.drew.heap.size 1 A' n' (sv l')) := HR'.out
          rw [← hwd] at q0 q1 q2 z0 z1 z2 d0 d1 HX2 HY2 HR2 HR3
          change wpStill _ _ wr.drew (fun a' => wpList _ _ _ _ a' wr.drew) _ _
          rw [← hwd]
          clear hwd HX HY HR HR'
          repeat still_step
          refine wpStill_nil ?_
          clear f1 f2
          go_wp2_with (fail)
          refine (texts_c A A' n n' c c' l l' _ HR2.out HR3.out HN.out HN'.out).mono ?_
          rintro e w3 ⟨rfl, hB3⟩
          have HX3 := Lib.hid (HX2.out.step hB3)
          have HY3 := Lib.hid (HY2.out.step hB3)
          clear HX2 HY2 HR2 HR3 q0 q1 q2 z0 z1 z2 d0 d1 hB3
          by_cases he : l = l'
          · rw [decide_eq_true he]
            subst he
            have H := Lib.hid (take_step hu.out hxl.out hyl.out)
            go_wp2_with (fail)
            go_roundw
            case rel => exact ⟨v + 1, by omega, by go_num, H.out, HX3.out, HY3.out⟩
            case measure => simp [intOf]; omega
          · rw [decide_eq_false he]
            have H := Lib.hid (decide_eq_false (show ¬ g = h from fun e => take_not he hxl.out hyl.out (by rw [e])))
            clear he
            go_wp2_with (fail)
            go_ret
            exact ⟨ret_bool H.out.symm, HX3.out.bel⟩
        · have HF : Hid (g = h) := (Gr.eq_iff g h).2 ⟨E0.out, HE.out, take_full hu.out (by have := L2.out; omega) (by have := L4.out; omega)⟩
          have H := Lib.hid (decide_eq_true HF.out)
          go_wp2_with (fail)
          go_ret
          exact ⟨ret_bool H.out.symm, hx.bel⟩
end Go.Proofs.YtmnjlhifjjainaaGreat
