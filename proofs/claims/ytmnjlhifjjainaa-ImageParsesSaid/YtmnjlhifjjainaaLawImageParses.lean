/-
  ImageParses: the walk of the law.
-/
import Derived.Test.YtmnjlhifjjainaaImages
namespace Go.Proofs.Ytmnjlhifjjainaa
open Go.RowKit

set_option maxRecDepth 100000 in
set_option maxHeartbeats 4000000 in
theorem imageParses_c (s : ByteArray) (w : World) :
    Calls Try.prog 9 #[.string s] w fun e w' => e = .returned (.bool true) ∧ Below w.heap.size w w' := by
  by_cases hs : 1000 < (s.size : Int)
  · go_enter Try.func9, Try.ntmps9
    go_wp2_with (fail)
    go_ret
    exact ⟨rfl, Below.refl _ _⟩
  have hsz : s.size ≤ 1000000 := by omega
  go_enter Try.func9, Try.ntmps9
  go_wp2_with (fail)
  refine (parse_c s _ hsz).mono ?_
  rintro e w1 ⟨A1, n1, c1, A2, n2, c2, vs, rfl, hi1, hB1⟩
  have HX1 := Lib.hid (boxed_new hi1 c1 c2)
  have HB1 := Lib.hid (hB1.trans ((below_one w1 (.cells #[.int .i64 (parseG s).n, .slice A1 n1 c1, .slice A2 n2 c2] 54)).mono hB1.size))
  clear hi1 hB1
  go_wp2_with (fail)
  refine (refParse_c s _ hsz).mono ?_
  rintro e w2 ⟨A3, n3, c3, A4, n4, c4, us, rfl, hi2, hB2⟩
  have HX2 := Lib.hid (HX1.out.step (hB2.trans ((below_one w2 (.cells #[.int .i64 (parseG s).n, .slice A3 n3 c3, .slice A4 n4 c4] 54)).mono hB2.size)))
  have HO2 := Lib.hid (boxed_new hi2 c3 c4)
  have HB2 := Lib.hid (HB1.out.trans ((hB2.trans ((below_one w2 (.cells #[.int .i64 (parseG s).n, .slice A3 n3 c3, .slice A4 n4 c4] 54)).mono hB2.size)).mono HB1.out.size))
  clear hi2 hB2 HX1 HB1
  go_wp2_with (fail)
  generalize w2.alloc (.cells #[.int .i64 (parseG s).n, .slice A3 n3 c3, .slice A4 n4 c4] 54) = w3 at HX2 HO2 HB2 ⊢
  refine (images_c _).mono ?_
  rintro e w4 ⟨rfl, hB4⟩
  have hx4 := HX2.out.step hB4
  have ho4 := HO2.out.step hB4
  have HB4 := Lib.hid (HB2.out.trans (hB4.mono HB2.out.size))
  have HX4 := Lib.hid hx4
  have HO4 := Lib.hid ho4
  clear hB4 HX2 HO2 HB2
  obtain ⟨q0, q1, q2⟩ := hx4.box.cells
  obtain ⟨o0, o1, o2⟩ := ho4.box.cells
  clear hx4 ho4
  generalize parseE s = ee
  go_wp2_with (fail)
  refine (same_c (parseG s) (parseG s) A1 A2 A3 A4 n1 n2 c1 c2 n3 n4 c3 c4 vs us _ HX4.out.in_ HO4.out.in_).mono ?_
  rintro e w5 ⟨rfl, hB5⟩
  rw [decide_eq_true rfl]
  have HB5 := Lib.hid (HB4.out.trans (hB5.mono HB4.out.size))
  clear hB5 q0 q1 q2 o0 o1 o2
  go_wp2_with (fail)
  go_ret
  exact ⟨rfl, HB5.out⟩
end Go.Proofs.Ytmnjlhifjjainaa
