/-
  ImageFront: the walk of the law.
-/
import Derived.Test.YtmnjlhifjjainaaOpenImg
namespace Go.Proofs.Ytmnjlhifjjainaa
open Go.RowKit

theorem print_is {g : Gr} (h : printE g = 0) : isG g ∧ (printS g).data.toList = imgB g := by
  unfold printE at h
  unfold printS
  by_cases hg : isG g
  · rw [if_pos hg]
    exact ⟨hg, rfl⟩
  · rw [if_neg hg] at h
    omega
theorem print_front {g h : Gr} (h1 : printE g = 0) (h2 : printE h = 0) : (printS h).extract 0 (printS g).size = printS g ↔ g = h := by
  obtain ⟨g1, g2⟩ := print_is h1
  obtain ⟨k1, k2⟩ := print_is h2
  constructor
  · intro e
    obtain ⟨r, hr⟩ := front_list e
    rw [k2, g2] at hr
    exact img_front g1 k1 hr
  · rintro rfl
    exact front_self _

set_option maxRecDepth 100000 in
set_option maxHeartbeats 4000000 in
theorem imageFront_c (a b : GrA) (w : World) (ha : GrArg w a) (hb : GrArg w b) :
    Calls Try.prog 11 #[grVal a, grVal b] w fun e w' => e = .returned (.bool true) ∧ Below w.heap.size w w' := by
  obtain ⟨g, A1, n1, c1, A2, n2, c2, vs⟩ := a
  obtain ⟨h, A3, n3, c3, A4, n4, c4, us⟩ := b
  have ha : GrIn w w.heap.size g A1 n1 A2 n2 vs := ha
  have hb : GrIn w w.heap.size h A3 n3 A4 n4 us := hb
  show Calls Try.prog 11 #[.agg #[.int .i64 g.n, .slice A1 n1 c1, .slice A2 n2 c2], .agg #[.int .i64 h.n, .slice A3 n3 c3, .slice A4 n4 c4]] w _
  have hx := (boxed_new ha c1 c2).step (below_one _ (.cells #[.int .i64 h.n, .slice A3 n3 c3, .slice A4 n4 c4] 54))
  have hh1 : GrIn (w.alloc (.cells #[.int .i64 g.n, .slice A1 n1 c1, .slice A2 n2 c2] 54)) (w.alloc (.cells #[.int .i64 g.n, .slice A1 n1 c1, .slice A2 n2 c2] 54)).heap.size h A3 n3 A4 n4 us := hb.new (below_one _ _)
  have hy := boxed_new hh1 c3 c4
  rw [World.size_alloc] at hy
  have HX := Lib.hid hx
  have HY := Lib.hid hy
  clear hx hy hh1 ha hb
  go_enter Try.func11, Try.ntmps11
  go_wp2_with (fail)
  refine (big_c g A1 A2 n1 n2 c1 c2 vs _ HX.out.in_).mono ?_
  rintro e w1 ⟨bg, rfl, hsm, hB1⟩
  have HX1 := Lib.hid (HX.out.step hB1)
  have hy1 := HY.out.step hB1
  have HY1 := Lib.hid hy1
  clear hB1 HX HY
  rcases bg with _ | _
  rotate_left
  · clear hy1
    go_wp2_with (fail)
    go_ret
    exact ⟨rfl, HX1.out.bel⟩
  have HS := Lib.hid (hsm rfl)
  clear hsm
  obtain ⟨z0, z1, z2⟩ := hy1.box.cells
  clear hy1
  go_wp2_with (fail)
  refine (big_c h A3 A4 n3 n4 c3 c4 us _ HY1.out.in_).mono ?_
  rintro e w2 ⟨bg, rfl, hsm, hB2⟩
  have hx2 := HX1.out.step hB2
  have HX2 := Lib.hid hx2
  have HY2 := Lib.hid (HY1.out.step hB2)
  clear hB2 HX1 HY1 z0 z1 z2
  rcases bg with _ | _
  rotate_left
  · clear hx2
    go_wp2_with (fail)
    go_ret
    exact ⟨rfl, HX2.out.bel⟩
  have HS2 := Lib.hid (hsm rfl)
  clear hsm
  obtain ⟨q0, q1, q2⟩ := hx2.box.cells
  clear hx2
  go_wp2_with (fail)
  refine (print_c g A1 A2 n1 n2 c1 c2 vs _ HX2.out.in_ (small_sized HS.out)).mono ?_
  rintro e w3 ⟨rfl, hB3⟩
  have HX3 := Lib.hid (HX2.out.step hB3)
  have hy3 := HY2.out.step hB3
  have HY3 := Lib.hid hy3
  clear hB3 HX2 HY2 q0 q1 q2
  obtain ⟨z0, z1, z2⟩ := hy3.box.cells
  clear hy3
  go_wp2_with (fail)
  refine (print_c h A3 A4 n3 n4 c3 c4 us _ HY3.out.in_ (small_sized HS2.out)).mono ?_
  rintro e w4 ⟨rfl, hB4⟩
  have HX4 := Lib.hid (HX3.out.step hB4)
  have HY4 := Lib.hid (HY3.out.step hB4)
  clear hB4 HX3 HY3 z0 z1 z2
  have hfr := Lib.hid (print_front (g := g) (h := h))
  obtain ⟨s, hs⟩ : ∃ s, printS g = s := ⟨_, rfl⟩
  obtain ⟨t, ht⟩ : ∃ t, printS h = t := ⟨_, rfl⟩
  rw [hs, ht] at hfr
  rw [hs, ht]
  clear hs ht
  rcases printE_cases g with he | he
  rotate_left
  · rw [he]
    clear he hfr
    go_wp2_with (fail)
    refine (images_c _).mono ?_
    rintro e w5 ⟨rfl, hB5⟩
    have HX5 := Lib.hid (HX4.out.step hB5)
    clear hB5
    go_wp2_with (fail)
    go_ret
    exact ⟨rfl, HX5.out.bel⟩
  rcases printE_cases h with hf | hf
  rotate_left
  · rw [he, hf]
    clear he hf hfr
    go_wp2_with (fail)
    refine (images_c _).mono ?_
    rintro e w5 ⟨rfl, hB5⟩
    have HX5 := Lib.hid (HX4.out.step hB5)
    clear hB5
    go_wp2_with (fail)
    go_ret
    exact ⟨rfl, HX5.out.bel⟩
  have HF := Lib.hid (hfr.out he hf)
  rw [he, hf]
  clear he hf hfr
  by_cases hlt : t.size < s.size
  · have hlt' : (t.size : Int) < (s.size : Int) := by omega
    clear HF
    go_wp2_with (fail)
    refine (images_c _).mono ?_
    rintro e w5 ⟨rfl, hB5⟩
    have HX5 := Lib.hid (HX4.out.step hB5)
    clear hB5
    go_wp2_with (fail)
    go_ret
    exact ⟨rfl, HX5.out.bel⟩
  have hle2 : s.size ≤ t.size := by omega
  have hle3 : ¬ (t.size : Int) < (s.size : Int) := by omega
  obtain ⟨db, hdb⟩ : ∃ db, decide (g = h) = db := ⟨_, rfl⟩
  have HDB := Lib.hid hdb
  have hbeq : ((t.extract 0 s.size).toList == s.toList) = db := by
    rw [bytes_beq, ← hdb]
    exact decide_eq_decide.2 HF.out
  clear hdb HF hlt
  obtain ⟨c0, d1, d2⟩ := HX4.out.box.cells
  obtain ⟨z0, z1, z2⟩ := HY4.out.box.cells
  have q0 := cell_regrown c0
  have q1 := cell_regrown d1
  have q2 := cell_regrown d2
  have y0 := cell_regrown z0
  have y1 := cell_regrown z1
  have y2 := cell_regrown z2
  clear c0 d1 d2 z0 z1 z2
  have HCI := Lib.hid (regrown_call (w := w4) (P := Try.prog) (f := 30) (args := #[]) (v := .bool true) (fun w' _ => images_c w'))
  have HCS := Lib.hid (regrown_call (w := w4) (P := Try.prog) (f := 31) (v := .bool db) (fun w' hB => (same_c g h A1 A2 A3 A4 n1 n2 c1 c2 n3 n4 c3 c4 vs us w' (HX4.out.step hB).in_ (HY4.out.step hB).in_).mono (fun e w'' hh => by rw [HDB.out] at hh; exact hh)))
  have hbb : (db == db) = true := by simp
  go_wp2_with (fail)
  refine wp_region_quiet_below (by kernel_rfl) (by kernel_rfl) ?_
  repeat (quiet_step (first | (go_at_call 30; exact HCI.out _ _) | (go_at_call 31; exact HCS.out _ _)))
  refine wpQuiet_nil ?_
  intro _ hw'
  obtain ⟨⟨dq, osq⟩, hw''⟩ := hw'
  have HZ := Lib.hid (HX4.out.step (below_regrown w4 dq osq))
  rw [← hw''] at HZ
  clear hw'' HCI HCS q0 q1 q2 y0 y1 y2
  go_wp2_with (fail)
  go_ret
  exact ⟨by first | rfl | simp, HZ.out.bel⟩
end Go.Proofs.Ytmnjlhifjjainaa
