/-
  ImagePrints: the walk of the law.
-/
import Derived.Test.YtmnjlhifjjainaaOpenImg
namespace Go.Proofs.Ytmnjlhifjjainaa
open Go.RowKit

theorem small_rows {g : Gr} (h : smallG g) : ∀ l ∈ g.ws, l.length ≤ 1000000 := fun l hl => by have := (h.2.2 l hl).1; omega
set_option maxRecDepth 100000 in
set_option maxHeartbeats 4000000 in
theorem imagePrints_c (a : GrA) (w : World) (ha : GrArg w a) :
    Calls Try.prog 8 #[grVal a] w fun e w' => e = .returned (.bool true) ∧ Below w.heap.size w w' := by
  obtain ⟨g, A1, n1, c1, A2, n2, c2, vs⟩ := a
  have ha : GrIn w w.heap.size g A1 n1 A2 n2 vs := ha
  show Calls Try.prog 8 #[.agg #[.int .i64 g.n, .slice A1 n1 c1, .slice A2 n2 c2]] w _
  have L1 := Lib.hid ha.len1
  have L2 := Lib.hid ha.len2
  have HX := Lib.hid (boxed_new ha c1 c2)
  clear ha
  go_enter Try.func8, Try.ntmps8
  go_wp2_with (fail)
  refine (big_c g A1 A2 n1 n2 c1 c2 vs _ HX.out.in_).mono ?_
  rintro e w1 ⟨bg, rfl, hsm, hB1⟩
  have hx1 := HX.out.step hB1
  have HX1 := Lib.hid hx1
  clear hB1 HX
  rcases bg with _ | _
  rotate_left
  · go_wp2_with (fail)
    go_ret
    exact ⟨rfl, HX1.out.bel⟩
  have HS := Lib.hid (hsm rfl)
  clear hsm
  have hl1 : n1 ≤ 1000000 := by have h1 := HS.out.2.1; have h2 := L1.out; omega
  have hl2 : n2 ≤ 1000000 := by have h1 := HS.out.1; have h2 := L2.out; omega
  obtain ⟨q0, q1, q2⟩ := hx1.box.cells
  clear hx1
  go_wp2_with (fail)
  refine (ownG_c g A1 A2 n1 n2 c1 c2 vs _ HX1.out.in_ hl1 hl2 (small_rows HS.out)).mono ?_
  rintro e w2 ⟨A3, d3, A4, d4, us, rfl, hi2, hB2⟩
  have hB3 := below_one w2 (.cells #[.int .i64 g.n, .slice A3 n1 d3, .slice A4 n2 d4] 54)
  have hx3 := HX1.out.step (hB2.trans (hB3.mono hB2.size))
  have HO3 := Lib.hid (boxed_new hi2 d3 d4)
  have HX3 := Lib.hid hx3
  clear hB2 hB3 hi2 HX1 q0 q1 q2
  obtain ⟨q0, q1, q2⟩ := hx3.box.cells
  clear hx3
  go_wp2_with (fail)
  generalize w2.alloc (.cells #[.int .i64 g.n, .slice A3 n1 d3, .slice A4 n2 d4] 54) = w3 at HX3 HO3 q0 q1 q2 ⊢
  refine (print_c g A1 A2 n1 n2 c1 c2 vs _ HX3.out.in_ (small_sized HS.out)).mono ?_
  rintro e w4 ⟨rfl, hB4⟩
  have hx4 := HX3.out.step hB4
  have ho4 := HO3.out.step hB4
  have HX4 := Lib.hid hx4
  have HO4 := Lib.hid ho4
  clear hB4 HX3 HO3 q0 q1 q2
  obtain ⟨o0, o1, o2⟩ := ho4.box.cells
  clear hx4 ho4
  go_wp2_with (fail)
  refine (refPrint_c g A3 A4 n1 n2 d3 d4 us _ HO4.out.in_ (small_sized HS.out)).mono ?_
  rintro e w5 ⟨rfl, hB5⟩
  have HX5 := Lib.hid (HX4.out.step hB5)
  have HO5 := Lib.hid (HO4.out.step hB5)
  clear hB5 HX4 HO4 o0 o1 o2
  go_wp2_with (fail)
  refine (images_c _).mono ?_
  rintro e w6 ⟨rfl, hB6⟩
  have hx6 := HX5.out.step hB6
  have ho6 := HO5.out.step hB6
  have HX6 := Lib.hid hx6
  have HO6 := Lib.hid ho6
  clear hB6 HX5 HO5
  obtain ⟨q0, q1, q2⟩ := hx6.box.cells
  obtain ⟨o0, o1, o2⟩ := ho6.box.cells
  clear hx6 ho6
  generalize printS g = tt
  generalize printE g = ee
  go_wp2_with (fail)
  refine (same_c g g A1 A2 A3 A4 n1 n2 c1 c2 n1 n2 d3 d4 vs us _ HX6.out.in_ HO6.out.in_).mono ?_
  rintro e w7 ⟨rfl, hB7⟩
  rw [decide_eq_true rfl]
  have HX7 := Lib.hid (HX6.out.step hB7)
  clear hB7 q0 q1 q2 o0 o1 o2
  go_wp2_with (fail)
  go_ret
  exact ⟨rfl, HX7.out.bel⟩
end Go.Proofs.Ytmnjlhifjjainaa
