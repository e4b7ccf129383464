/-
  ImageBack: the walk of the law.
-/
import Derived.Test.YtmnjlhifjjainaaGreatOpenImg
import Derived.Test.YtmnjlhifjjainaaGreatNormal
import Derived.Test.YtmnjlhifjjainaaGreatPrintLen
namespace Go.Proofs.YtmnjlhifjjainaaGreat
open Go.RowKit

theorem isG_sized {g : Gr} (h : isG g) : sized g := fun l hl x hx => by have := ((h.1.2.2.2.2 l hl).2 x hx).1.2; omega
theorem print_parse {g : Gr} (h : isG g) : parseO (printS g) = some g ∧ printE g = 0 := by
  have h1 : (printS g).data.toList = imgB g := by unfold printS; rw [if_pos h]
  exact ⟨parse_back h h1, by unfold printE; rw [if_pos h]⟩

set_option maxRecDepth 100000 in
set_option maxHeartbeats 4000000 in
theorem imageBack_c (a : GrA) (w : World) (ha : GrArg w a) :
    Calls Tryz.prog 3 #[grVal a] w fun e w' => e = .returned (.bool true) ∧ Below w.heap.size w w' := by
  obtain ⟨g, A1, n1, c1, A2, n2, c2, vs⟩ := a
  have ha : GrIn w w.heap.size g A1 n1 A2 n2 vs := ha
  show Calls Tryz.prog 3 #[.agg #[.int .i64 g.n, .slice A1 n1 c1, .slice A2 n2 c2]] w _
  have HX := Lib.hid (boxed_new ha c1 c2)
  clear ha
  go_enter Tryz.func3, Tryz.ntmps3
  go_wp2_with (fail)
  refine (big_c g A1 A2 n1 n2 c1 c2 vs _ HX.out.in_).mono ?_
  rintro e w1 ⟨bg, rfl, hsm, hB1⟩
  have hx1 := HX.out.step hB1
  have HX1 := Lib.hid hx1
  clear hB1 HX
  rcases bg with _ | _
  rotate_left
  · clear hx1
    go_wp2_with (fail)
    go_ret
    exact ⟨rfl, HX1.out.bel⟩
  have HS := Lib.hid (hsm rfl)
  clear hsm
  obtain ⟨z0, z1, z2⟩ := hx1.box.cells
  clear hx1
  go_wp2_with (fail)
  refine (normal_c g A1 A2 n1 n2 c1 c2 vs _ HX1.out.in_ (small_sized HS.out)).mono ?_
  intro e w2 hN
  unfold NDone at hN
  clear z0 z1 z2
  by_cases hc : checkG g
  · rw [if_pos hc] at hN
    obtain ⟨g', A3, n3, c3, A4, n4, c4, us, rfl, hg', hG, hB2⟩ := hN
    have HX2 := Lib.hid (HX1.out.step hB2)
    have HX3 := Lib.hid (HX2.out.bel.trans ((below_one w2 (.cells #[.int .i64 g'.n, .slice A3 n3 c3, .slice A4 n4 c4] 25)).mono HX2.out.bel.size))
    have HY3 := Lib.hid (boxed_new hG c3 c4)
    obtain ⟨hp1, hp2⟩ := print_parse hg'
    have HP1 := Lib.hid hp1
    have HP2 := Lib.hid hp2
    have HZ := Lib.hid (isG_sized hg')
    have hsz := printS_len g'
    clear hB2 hc HX1 hG hg' hp1 hp2
    go_wp2_with (fail)
    generalize w2.alloc (.cells #[.int .i64 g'.n, .slice A3 n3 c3, .slice A4 n4 c4] 25) = w3 at HX3 HY3 ⊢
    refine (print_c g' A3 A4 n3 n4 c3 c4 us _ HY3.out.in_ HZ.out).mono ?_
    rintro e w4 ⟨rfl, hB4⟩
    rw [HP2.out]
    obtain ⟨s, hs⟩ : ∃ s, printS g' = s := ⟨_, rfl⟩
    rw [hs] at HP1 hsz
    rw [hs]
    have HY4 := Lib.hid (HY3.out.step hB4)
    have HX4 := Lib.hid (HX3.out.trans (hB4.mono HX3.out.size))
    clear hB4 HX3 HY3 HP2 hs
    go_wp2_with (fail)
    refine (parse_c s _ hsz).mono ?_
    rintro e w5 ⟨A5, n5, c5, A6, n6, c6, us', rfl, hi5, hB5⟩
    rw [(parse_some HP1.out).1] at hi5 ⊢
    rw [(parse_some HP1.out).2]
    have HM5 := Lib.hid (boxed_new hi5 c5 c6)
    have hB6 := hB5.trans ((below_one w5 (.cells #[.int .i64 g'.n, .slice A5 n5 c5, .slice A6 n6 c6] 25)).mono hB5.size)
    have HY6 := Lib.hid (HY4.out.step hB6)
    have HX6 := Lib.hid (HX4.out.trans (hB6.mono HX4.out.size))
    clear hi5 hB5 hB6 HY4 HX4 HP1
    go_wp2_with (fail)
    generalize w5.alloc (.cells #[.int .i64 g'.n, .slice A5 n5 c5, .slice A6 n6 c6] 25) = w6 at HM5 HX6 HY6 ⊢
    refine (images_c _).mono ?_
    rintro e w7 ⟨rfl, hB7⟩
    have HX7 := Lib.hid (HX6.out.trans (hB7.mono HX6.out.size))
    have hy7 := HY6.out.step hB7
    have hm7 := HM5.out.step hB7
    obtain ⟨c0, d1, d2⟩ := hy7.box.cells
    obtain ⟨z0, z1, z2⟩ := hm7.box.cells
    have HY7 := Lib.hid hy7
    have HM7 := Lib.hid hm7
    clear hB7 HX6 HY6 HM5 hy7 hm7
    go_wp2_with (fail)
    refine (same_c g' g' A5 A6 A3 A4 n5 n6 c5 c6 n3 n4 c3 c4 us' us _ HM7.out.in_ HY7.out.in_).mono ?_
    rintro e w8 ⟨rfl, hB8⟩
    rw [decide_eq_true rfl]
    have HX8 := Lib.hid (HX7.out.trans (hB8.mono HX7.out.size))
    clear hB8 HX7 HY7 HM7 c0 d1 d2 z0 z1 z2
    go_wp2_with (fail)
    go_ret
    exact ⟨by first | rfl | simp, HX8.out⟩
  · rw [if_neg hc] at hN
    obtain ⟨rfl, hB2⟩ := hN
    have HX2 := Lib.hid (HX1.out.step hB2)
    have HX3 := Lib.hid (HX2.out.bel.trans ((below_one w2 (.cells #[.int .i64 0, .slice none 0 0, .slice none 0 0] 25)).mono HX2.out.bel.size))
    have HY3 : Hid (Boxed w2 w2.heap.size noG none 0 0 none 0 0 [] (w2.alloc (.cells #[.int .i64 0, .slice none 0 0, .slice none 0 0] 25))) := boxed_new (grIn_no w2 w2.heap.size) 0 0
    clear hB2 hc HX1
    go_wp2_with (fail)
    generalize w2.alloc (.cells #[.int .i64 0, .slice none 0 0, .slice none 0 0] 25) = w3 at HX3 HY3 ⊢
    refine (print_c noG none none 0 0 0 0 [] _ HY3.out.in_ (fun l hl => by simp [noG] at hl)).mono ?_
    rintro e w4 ⟨rfl, hB4⟩
    rw [noG_print.1, noG_print.2]
    have HX4 := Lib.hid (HX3.out.trans (hB4.mono HX3.out.size))
    clear hB4 HX3 HY3
    go_wp2_with (fail)
    refine (parse_c ⟨#[]⟩ _ (by decide)).mono ?_
    rintro e w5 ⟨A5, n5, c5, A6, n6, c6, us', rfl, hi5, hB5⟩
    have hB6 := hB5.trans ((below_one w5 (.cells #[.int .i64 (parseG ⟨#[]⟩).n, .slice A5 n5 c5, .slice A6 n6 c6] 25)).mono hB5.size)
    have HX6 := Lib.hid (HX4.out.trans (hB6.mono HX4.out.size))
    clear hi5 hB5 hB6 HX4
    go_wp2_with (fail)
    generalize w5.alloc (.cells #[.int .i64 (parseG ⟨#[]⟩).n, .slice A5 n5 c5, .slice A6 n6 c6] 25) = w6 at HX6 ⊢
    refine (images_c _).mono ?_
    rintro e w7 ⟨rfl, hB7⟩
    have HX7 := Lib.hid (HX6.out.trans (hB7.mono HX6.out.size))
    clear hB7 HX6
    go_wp2_with (fail)
    go_ret
    exact ⟨by first | rfl | simp, HX7.out⟩
end Go.Proofs.YtmnjlhifjjainaaGreat
