/-
  ImageSame: the walk of the law.
-/
import Derived.Test.YtmnjlhifjjainaaImages
namespace Go.Proofs.Ytmnjlhifjjainaa
open Go.RowKit

theorem isG_sized {g : Gr} (h : isG g) : sized g := fun l hl x hx => by have := ((h.1.2.2.2.2 l hl).2 x hx).1.2; omega
theorem parse_print {s : ByteArray} {g : Gr} (h : parseO s = some g) : printS g = s ∧ printE g = 0 ∧ isG g := by
  obtain ⟨h1, h2⟩ := parse_same h
  refine ⟨?_, ?_, h1⟩
  · unfold printS
    rw [if_pos h1]
    apply bytes_ext
    exact h2
  · unfold printE
    rw [if_pos h1]

set_option maxRecDepth 100000 in
set_option maxHeartbeats 4000000 in
theorem imageSame_c (s : ByteArray) (w : World) :
    Calls Try.prog 10 #[.string s] w fun e w' => e = .returned (.bool true) ∧ Below w.heap.size w w' := by
  by_cases hs : 2000 < (s.size : Int)
  · go_enter Try.func10, Try.ntmps10
    go_wp2_with (fail)
    go_ret
    exact ⟨rfl, Below.refl _ _⟩
  have hsz : s.size ≤ 1000000 := by omega
  go_enter Try.func10, Try.ntmps10
  go_wp2_with (fail)
  refine (parse_c s _ hsz).mono ?_
  rintro e w1 ⟨A1, n1, c1, A2, n2, c2, vs, rfl, hi1, hB1⟩
  rcases ho : parseO s with _ | g
  · rw [(parse_none ho).1] at hi1 ⊢
    rw [(parse_none ho).2]
    have hl1 : n1 = 0 := hi1.len1.symm
    have hl2 : n2 = 0 := hi1.len2.symm
    subst hl1 hl2
    have HX1 := Lib.hid (boxed_new hi1 c1 c2)
    have HB1 := Lib.hid (hB1.trans ((below_one w1 (.cells #[.int .i64 noG.n, .slice A1 0 c1, .slice A2 0 c2] 54)).mono hB1.size))
    clear hi1 hB1 ho
    go_wp2_with (fail)
    generalize w1.alloc (.cells #[.int .i64 noG.n, .slice A1 0 c1, .slice A2 0 c2] 54) = w3 at HX1 HB1 ⊢
    refine (images_c _).mono ?_
    rintro e w4 ⟨rfl, hB4⟩
    have hx4 := HX1.out.step hB4
    have HB4 := Lib.hid (HB1.out.trans (hB4.mono HB1.out.size))
    clear hB4 HX1 HB1
    obtain ⟨q0, q1, q2⟩ := hx4.box.cells
    have hn : noG.n = 0 := rfl
    rw [hn] at q0
    clear hx4
    go_wp2_with (fail)
    go_ret
    exact ⟨rfl, HB4.out⟩
  · obtain ⟨h1, h2, h3⟩ := parse_print ho
    rw [(parse_some ho).1] at hi1 ⊢
    rw [(parse_some ho).2]
    have HX1 := Lib.hid (boxed_new hi1 c1 c2)
    have HB1 := Lib.hid (hB1.trans ((below_one w1 (.cells #[.int .i64 g.n, .slice A1 n1 c1, .slice A2 n2 c2] 54)).mono hB1.size))
    have H1 := Lib.hid h1
    have H2 := Lib.hid h2
    have H3 := Lib.hid h3
    clear hi1 hB1 ho h1 h2 h3
    go_wp2_with (fail)
    generalize w1.alloc (.cells #[.int .i64 g.n, .slice A1 n1 c1, .slice A2 n2 c2] 54) = w3 at HX1 HB1 ⊢
    refine (print_c g A1 A2 n1 n2 c1 c2 vs _ HX1.out.in_ (isG_sized H3.out)).mono ?_
    rintro e w4 ⟨rfl, hB4⟩
    rw [H1.out, H2.out]
    have HX4 := Lib.hid (HX1.out.step hB4)
    have HB4 := Lib.hid (HB1.out.trans (hB4.mono HB1.out.size))
    clear hB4 HX1 HB1
    go_wp2_with (fail)
    refine (images_c _).mono ?_
    rintro e w5 ⟨rfl, hB5⟩
    have hx5 := HX4.out.step hB5
    have HX5 := Lib.hid hx5
    have HB5 := Lib.hid (HB4.out.trans (hB5.mono HB4.out.size))
    clear hB5 HX4 HB4
    obtain ⟨q0, q1, q2⟩ := hx5.box.cells
    clear hx5
    go_wp2_with (fail)
    refine (is_c g A1 A2 n1 n2 c1 c2 vs _ HX5.out.in_ (isG_sized H3.out)).mono ?_
    rintro e w6 ⟨rfl, hB6⟩
    rw [decide_eq_true H3.out]
    have HB6 := Lib.hid (HB5.out.trans (hB6.mono HB5.out.size))
    clear hB6 q0 q1 q2
    go_wp2_with (fail)
    go_ret
    exact ⟨rfl, HB6.out⟩
end Go.Proofs.Ytmnjlhifjjainaa
