/-
  FrameApart: the walk.
-/
import Derived.Test.YtmnjlhifjjainaaFrLawP
import Derived.Deep.RegionLaw
import Derived.Lib.QuietBelow
import Derived.BigQuiet
namespace Go.Proofs.Ytmnjlhifjjainaa
open Go.RowKit

/-- A contract that ends in 'Below', met in any world behind w. -/
theorem regrown_call {P : Program} {f : FuncId} {args : Array Value} {w : World} {v : Value} (h : ∀ w', Below w.heap.size w w' → Calls P f args w' fun e w'' => e = .returned v ∧ Below w'.heap.size w' w'') (d : Nat) (os : Array Obj) :
    Calls P f args (Sort.grow (redrawn w d) os) fun e w'' => e = .returned v ∧ ∃ p : Regrown, w'' = Sort.grow (redrawn w p.d) p.os :=
  Calls.regrown_of (h _ (below_regrown w d os))
set_option maxRecDepth 100000 in
set_option maxHeartbeats 8000000 in
theorem frameApart_c (a : Req) (A : Option Addr) (n c : Nat) (b : Req) (A2 : Option Addr) (n2 c2 : Nat) (x : Rep) (A3 : Option Addr) (n3 c3 : Nat) (y : Rep) (A4 : Option Addr) (n4 c4 : Nat) (w : World)
    (hr : Reads w w.heap.size 1 A n (sv a.q.words)) (hn : n ≤ maxLen) (hr2 : Reads w w.heap.size 1 A2 n2 (sv b.q.words)) (hn2 : n2 ≤ maxLen) (hr3 : Reads w w.heap.size 2 A3 n3 (hv x.hits)) (hn3 : n3 ≤ maxLen) (hr4 : Reads w w.heap.size 2 A4 n4 (hv y.hits)) (hn4 : n4 ≤ maxLen) :
    Calls Try.prog 7 #[.agg #[.int .i64 a.id, .int .i64 a.kind, .int .i64 a.q.kind, .int .i64 a.q.src, .int .i64 a.q.dst, .slice A n c, .int .i64 a.q.radius, .int .i64 a.q.most], .agg #[.int .i64 b.id, .int .i64 b.kind, .int .i64 b.q.kind, .int .i64 b.q.src, .int .i64 b.q.dst, .slice A2 n2 c2, .int .i64 b.q.radius, .int .i64 b.q.most], .agg #[.int .i64 x.id, .int .i64 x.code, .bool x.found, .int .i64 x.d, .slice A3 n3 c3], .agg #[.int .i64 y.id, .int .i64 y.code, .bool y.found, .int .i64 y.d, .slice A4 n4 c4]] w fun e w' => e = .returned (.bool true) ∧ Below w.heap.size w w' := by
  have HR := Lib.hid hr
  have HN := Lib.hid hn
  have HR2 := Lib.hid hr2
  have HN2 := Lib.hid hn2
  have HR3 := Lib.hid hr3
  have HN3 := Lib.hid hn3
  have HR4 := Lib.hid hr4
  have HN4 := Lib.hid hn4
  clear hr hn hr2 hn2 hr3 hn3 hr4 hn4
  have hX0 : Hid (RAt ((((w.alloc (.cells #[.int .i64 a.id, .int .i64 a.kind, .int .i64 a.q.kind, .int .i64 a.q.src, .int .i64 a.q.dst, .slice A n c, .int .i64 a.q.radius, .int .i64 a.q.most] 26)).alloc (.cells #[.int .i64 b.id, .int .i64 b.kind, .int .i64 b.q.kind, .int .i64 b.q.src, .int .i64 b.q.dst, .slice A2 n2 c2, .int .i64 b.q.radius, .int .i64 b.q.most] 26)).alloc (.cells #[.int .i64 x.id, .int .i64 x.code, .bool x.found, .int .i64 x.d, .slice A3 n3 c3] 40)).alloc (.cells #[.int .i64 y.id, .int .i64 y.code, .bool y.found, .int .i64 y.d, .slice A4 n4 c4] 40)) w.heap.size a A n c) := ((((RAt.new w a A n c).below (below_one _ (.cells #[.int .i64 b.id, .int .i64 b.kind, .int .i64 b.q.kind, .int .i64 b.q.src, .int .i64 b.q.dst, .slice A2 n2 c2, .int .i64 b.q.radius, .int .i64 b.q.most] 26)) (by simp)).below (below_one _ (.cells #[.int .i64 x.id, .int .i64 x.code, .bool x.found, .int .i64 x.d, .slice A3 n3 c3] 40)) (by simp; omega)).below (below_one _ (.cells #[.int .i64 y.id, .int .i64 y.code, .bool y.found, .int .i64 y.d, .slice A4 n4 c4] 40)) (by simp; omega))
  have hY0 : Hid (RAt ((((w.alloc (.cells #[.int .i64 a.id, .int .i64 a.kind, .int .i64 a.q.kind, .int .i64 a.q.src, .int .i64 a.q.dst, .slice A n c, .int .i64 a.q.radius, .int .i64 a.q.most] 26)).alloc (.cells #[.int .i64 b.id, .int .i64 b.kind, .int .i64 b.q.kind, .int .i64 b.q.src, .int .i64 b.q.dst, .slice A2 n2 c2, .int .i64 b.q.radius, .int .i64 b.q.most] 26)).alloc (.cells #[.int .i64 x.id, .int .i64 x.code, .bool x.found, .int .i64 x.d, .slice A3 n3 c3] 40)).alloc (.cells #[.int .i64 y.id, .int .i64 y.code, .bool y.found, .int .i64 y.d, .slice A4 n4 c4] 40)) (w.heap.size + 1) b A2 n2 c2) := by
    have h := RAt.new (w.alloc (.cells #[.int .i64 a.id, .int .i64 a.kind, .int .i64 a.q.kind, .int .i64 a.q.src, .int .i64 a.q.dst, .slice A n c, .int .i64 a.q.radius, .int .i64 a.q.most] 26)) b A2 n2 c2
    rw [World.size_alloc] at h
    exact ((h.below (below_one _ (.cells #[.int .i64 x.id, .int .i64 x.code, .bool x.found, .int .i64 x.d, .slice A3 n3 c3] 40)) (by simp)).below (below_one _ (.cells #[.int .i64 y.id, .int .i64 y.code, .bool y.found, .int .i64 y.d, .slice A4 n4 c4] 40)) (by simp))
  have hP0 : Hid (PAt ((((w.alloc (.cells #[.int .i64 a.id, .int .i64 a.kind, .int .i64 a.q.kind, .int .i64 a.q.src, .int .i64 a.q.dst, .slice A n c, .int .i64 a.q.radius, .int .i64 a.q.most] 26)).alloc (.cells #[.int .i64 b.id, .int .i64 b.kind, .int .i64 b.q.kind, .int .i64 b.q.src, .int .i64 b.q.dst, .slice A2 n2 c2, .int .i64 b.q.radius, .int .i64 b.q.most] 26)).alloc (.cells #[.int .i64 x.id, .int .i64 x.code, .bool x.found, .int .i64 x.d, .slice A3 n3 c3] 40)).alloc (.cells #[.int .i64 y.id, .int .i64 y.code, .bool y.found, .int .i64 y.d, .slice A4 n4 c4] 40)) (w.heap.size + 1 + 1) x A3 n3 c3) := by
    have h := PAt.new ((w.alloc (.cells #[.int .i64 a.id, .int .i64 a.kind, .int .i64 a.q.kind, .int .i64 a.q.src, .int .i64 a.q.dst, .slice A n c, .int .i64 a.q.radius, .int .i64 a.q.most] 26)).alloc (.cells #[.int .i64 b.id, .int .i64 b.kind, .int .i64 b.q.kind, .int .i64 b.q.src, .int .i64 b.q.dst, .slice A2 n2 c2, .int .i64 b.q.radius, .int .i64 b.q.most] 26)) x A3 n3 c3
    rw [World.size_alloc, World.size_alloc] at h
    exact (h.below (below_one _ (.cells #[.int .i64 y.id, .int .i64 y.code, .bool y.found, .int .i64 y.d, .slice A4 n4 c4] 40)) (by simp))
  have hQ0 : Hid (PAt ((((w.alloc (.cells #[.int .i64 a.id, .int .i64 a.kind, .int .i64 a.q.kind, .int .i64 a.q.src, .int .i64 a.q.dst, .slice A n c, .int .i64 a.q.radius, .int .i64 a.q.most] 26)).alloc (.cells #[.int .i64 b.id, .int .i64 b.kind, .int .i64 b.q.kind, .int .i64 b.q.src, .int .i64 b.q.dst, .slice A2 n2 c2, .int .i64 b.q.radius, .int .i64 b.q.most] 26)).alloc (.cells #[.int .i64 x.id, .int .i64 x.code, .bool x.found, .int .i64 x.d, .slice A3 n3 c3] 40)).alloc (.cells #[.int .i64 y.id, .int .i64 y.code, .bool y.found, .int .i64 y.d, .slice A4 n4 c4] 40)) (w.heap.size + 1 + 1 + 1) y A4 n4 c4) := by
    have h := PAt.new (((w.alloc (.cells #[.int .i64 a.id, .int .i64 a.kind, .int .i64 a.q.kind, .int .i64 a.q.src, .int .i64 a.q.dst, .slice A n c, .int .i64 a.q.radius, .int .i64 a.q.most] 26)).alloc (.cells #[.int .i64 b.id, .int .i64 b.kind, .int .i64 b.q.kind, .int .i64 b.q.src, .int .i64 b.q.dst, .slice A2 n2 c2, .int .i64 b.q.radius, .int .i64 b.q.most] 26)).alloc (.cells #[.int .i64 x.id, .int .i64 x.code, .bool x.found, .int .i64 x.d, .slice A3 n3 c3] 40)) y A4 n4 c4
    rw [World.size_alloc, World.size_alloc, World.size_alloc] at h
    exact h
  have hBB0 : Hid (Below w.heap.size w ((((w.alloc (.cells #[.int .i64 a.id, .int .i64 a.kind, .int .i64 a.q.kind, .int .i64 a.q.src, .int .i64 a.q.dst, .slice A n c, .int .i64 a.q.radius, .int .i64 a.q.most] 26)).alloc (.cells #[.int .i64 b.id, .int .i64 b.kind, .int .i64 b.q.kind, .int .i64 b.q.src, .int .i64 b.q.dst, .slice A2 n2 c2, .int .i64 b.q.radius, .int .i64 b.q.most] 26)).alloc (.cells #[.int .i64 x.id, .int .i64 x.code, .bool x.found, .int .i64 x.d, .slice A3 n3 c3] 40)).alloc (.cells #[.int .i64 y.id, .int .i64 y.code, .bool y.found, .int .i64 y.d, .slice A4 n4 c4] 40))) := ((((Below.refl _ _).alloc (Nat.le_refl _) _).alloc (by simp) _).alloc (by simp; omega) _).alloc (by simp; omega) _
  have HF1 := Lib.hid (apart_req (x := a) (y := b))
  have HF2 := Lib.hid (apart_rep (x := x) (y := y))
  have HZ1 := Lib.hid (reqS_size a)
  have HZ2 := Lib.hid (reqS_size b)
  have HZ3 := Lib.hid (repS_size x)
  have HZ4 := Lib.hid (repS_size y)
  go_enter Try.func7, Try.ntmps7
  go_wp2_with (fail)
  refine (big_c a.q A n c _ ((HR.out.below hBB0.out).more hBB0.out.size) HN.out).mono ?_
  rintro e w1 ⟨bg, rfl, hsm, hB_1⟩
  have hX1 := Lib.hid (hX0.out.below hB_1 hX0.out.lt)
  have hY1 := Lib.hid (hY0.out.below hB_1 hY0.out.lt)
  have hP1 := Lib.hid (hP0.out.below hB_1 hP0.out.lt)
  have hQ1 := Lib.hid (hQ0.out.below hB_1 hQ0.out.lt)
  have hBB1 := Lib.hid (hBB0.out.trans (hB_1.mono hBB0.out.size))
  clear hX0 hY0 hP0 hQ0 hBB0 hB_1
  rcases bg with _ | _
  rotate_left
  · go_wp2_with (fail)
    go_ret
    exact ⟨rfl, hBB1.out⟩
  have HS := Lib.hid (hsm rfl)
  clear hsm
  obtain ⟨u0, u1, u2, u3, u4, u5, u6, u7⟩ := hY1.out.cells
  go_wp2_with (fail)
  refine (big_c b.q A2 n2 c2 _ ((HR2.out.below hBB1.out).more hBB1.out.size) HN2.out).mono ?_
  rintro e w2 ⟨bg, rfl, hsm, hB_2⟩
  have hX2 := Lib.hid (hX1.out.below hB_2 hX1.out.lt)
  have hY2 := Lib.hid (hY1.out.below hB_2 hY1.out.lt)
  have hP2 := Lib.hid (hP1.out.below hB_2 hP1.out.lt)
  have hQ2 := Lib.hid (hQ1.out.below hB_2 hQ1.out.lt)
  have hBB2 := Lib.hid (hBB1.out.trans (hB_2.mono hBB1.out.size))
  clear hX1 hY1 hP1 hQ1 hBB1 hB_2
  clear u0 u1 u2 u3 u4 u5 u6 u7
  rcases bg with _ | _
  rotate_left
  · go_wp2_with (fail)
    go_ret
    exact ⟨rfl, hBB2.out⟩
  have HS2 := Lib.hid (hsm rfl)
  clear hsm
  obtain ⟨v0, v1, v2, v3, v4⟩ := hP2.out.cells
  obtain ⟨q0, q1, q2, q3, q4⟩ := hQ2.out.cells
  obtain ⟨u0, u1, u2, u3, u4, u5, u6, u7⟩ := hX2.out.cells
  by_cases hn1 : 150 < (n3 : Int)
  · go_wp2_with (fail)
    go_ret
    exact ⟨rfl, hBB2.out⟩
  by_cases hn2 : 150 < (n4 : Int)
  · go_wp2_with (fail)
    go_ret
    exact ⟨rfl, hBB2.out⟩
  go_wp2_with (fail)
  refine (putRequest_c a A n c _ ((HR.out.below hBB2.out).more hBB2.out.size) HN.out (small_bounded HS.out)).mono ?_
  rintro e w3 ⟨rfl, hB_3⟩
  have hX3 := Lib.hid (hX2.out.below hB_3 hX2.out.lt)
  have hY3 := Lib.hid (hY2.out.below hB_3 hY2.out.lt)
  have hP3 := Lib.hid (hP2.out.below hB_3 hP2.out.lt)
  have hQ3 := Lib.hid (hQ2.out.below hB_3 hQ2.out.lt)
  have hBB3 := Lib.hid (hBB2.out.trans (hB_3.mono hBB2.out.size))
  clear hX2 hY2 hP2 hQ2 hBB2 hB_3
  clear v0 v1 v2 v3 v4 q0 q1 q2 q3 q4 u0 u1 u2 u3 u4 u5 u6 u7 hn1 hn2
  obtain ⟨s, hs⟩ : ∃ s, reqS a = s := ⟨_, rfl⟩
  have Hs := Lib.hid hs
  rw [hs] at HF1
  rw [hs] at HZ1
  rw [hs] at ⊢
  clear hs
  obtain ⟨es, hes⟩ : ∃ es, reqErr a = es := ⟨_, rfl⟩
  have Hes := Lib.hid hes
  rw [hes] at HF1
  rw [hes] at ⊢
  clear hes
  obtain ⟨u0, u1, u2, u3, u4, u5, u6, u7⟩ := hY3.out.cells
  go_wp2_with (fail)
  refine (putRequest_c b A2 n2 c2 _ ((HR2.out.below hBB3.out).more hBB3.out.size) HN2.out (small_bounded HS2.out)).mono ?_
  rintro e w4 ⟨rfl, hB_4⟩
  have hX4 := Lib.hid (hX3.out.below hB_4 hX3.out.lt)
  have hY4 := Lib.hid (hY3.out.below hB_4 hY3.out.lt)
  have hP4 := Lib.hid (hP3.out.below hB_4 hP3.out.lt)
  have hQ4 := Lib.hid (hQ3.out.below hB_4 hQ3.out.lt)
  have hBB4 := Lib.hid (hBB3.out.trans (hB_4.mono hBB3.out.size))
  clear hX3 hY3 hP3 hQ3 hBB3 hB_4
  clear u0 u1 u2 u3 u4 u5 u6 u7
  obtain ⟨t, ht⟩ : ∃ t, reqS b = t := ⟨_, rfl⟩
  have Ht := Lib.hid ht
  rw [ht] at HF1
  rw [ht] at HZ2
  rw [ht] at ⊢
  clear ht
  obtain ⟨et, het⟩ : ∃ et, reqErr b = et := ⟨_, rfl⟩
  have Het := Lib.hid het
  rw [het] at HF1
  rw [het] at ⊢
  clear het
  obtain ⟨u0, u1, u2, u3, u4, u5, u6, u7⟩ := hX4.out.cells
  obtain ⟨z0, z1, z2, z3, z4, z5, z6, z7⟩ := hY4.out.cells
  have uu0 := cell_regrown u0
  have uu1 := cell_regrown u1
  have uu2 := cell_regrown u2
  have uu3 := cell_regrown u3
  have uu4 := cell_regrown u4
  have uu5 := cell_regrown u5
  have uu6 := cell_regrown u6
  have uu7 := cell_regrown u7
  have zz0 := cell_regrown z0
  have zz1 := cell_regrown z1
  have zz2 := cell_regrown z2
  have zz3 := cell_regrown z3
  have zz4 := cell_regrown z4
  have zz5 := cell_regrown z5
  have zz6 := cell_regrown z6
  have zz7 := cell_regrown z7
  obtain ⟨db, hdb⟩ : ∃ db, decide (a = b) = db := ⟨_, rfl⟩
  have HDB := Lib.hid hdb
  have HCQ := Lib.hid (regrown_call (w := w4) (P := Try.prog) (f := 18) (v := .bool db) (fun w' hb => (sameRequest_c a b A A2 n n2 c c2 w' ((HR.out.below (hBB4.out.trans (hb.mono hBB4.out.size))).more (Nat.le_trans hBB4.out.size hb.size)) ((HR2.out.below (hBB4.out.trans (hb.mono hBB4.out.size))).more (Nat.le_trans hBB4.out.size hb.size)) HN.out HN2.out).mono (fun e w'' h => by rw [HDB.out] at h; exact h)))
  clear u0 u1 u2 u3 u4 u5 u6 u7 z0 z1 z2 z3 z4 z5 z6 z7
  go_wp2_with (fail)
  obtain ⟨Qr, hQr⟩ : ∃ Qr : Exit → Act → World → Prop, Qr = (fun ex a w9 => match ex with | Exit.normal => ∃ k0 k1 k2 k3 k4 k5 k9 k10 k11 k12 k17 k18 k19 k20 k21 k22 k23 k24 k25 k26 k27 k28 k29 k30 k31 k32 k33 k34 k35 k36 k37 k38 k39 k40 k41 k42 k43 k44 k45 k46 k47 k48 k49 k50 k51 k52 k53 k54 k55 k56 k57 k58 k59 k60 k61 k62 k63 k64 k65 k66 k67 k68 k69 k70 k71 k72 : Value, a = ({ tmps := #[k0, k1, k2, k3, k4, k5, .pointer (some ⟨w.heap.size + 1 + 1, 0, none⟩), .pointer (some ⟨w.heap.size + 1 + 1 + 1, 0, none⟩), .bool false, k9, k10, k11, k12, undef, undef, undef, undef, k17, k18, k19, k20, k21, k22, k23, k24, k25, k26, k27, k28, k29, k30, k31, k32, k33, k34, k35, k36, k37, k38, k39, k40, k41, k42, k43, k44, k45, k46, k47, k48, k49, k50, k51, k52, k53, k54, k55, k56, k57, k58, k59, k60, k61, k62, k63, k64, k65, k66, k67, k68, k69, k70, k71, k72, .bool false, undef, undef, undef, undef, undef, undef, undef, undef, undef, undef, undef, undef, undef, undef, undef, undef, undef, undef, undef, undef, undef, undef, undef, undef, undef, undef, undef, undef, undef, undef, undef, undef, undef, undef, undef, undef, undef, undef], defers := [] } : Act) ∧ Hid (PAt w9 (w.heap.size + 1 + 1) x A3 n3 c3) ∧ Hid (PAt w9 (w.heap.size + 1 + 1 + 1) y A4 n4 c4) ∧ Hid (Below w.heap.size w w9) | _ => False) := ⟨_, rfl⟩
  have HQr := Lib.hid hQr
  clear hQr
  refine Code.wp_mono (Q := Qr) ?mono ?reg
  case reg =>
    by_cases h1 : es = 0
    · by_cases h2 : et = 0
      · by_cases h3 : (s.size : Int) ≤ (t.size : Int)
        · have hbeq : ((t.extract 0 s.size).toList == s.toList) = db := by
            rw [bytes_beq, ← hdb]
            exact decide_eq_decide.2 (HF1.out h1 h2 (by omega))
          subst h1 h2
          have hle2 : s.size ≤ t.size := by omega
          have hle3 : ¬ (t.size : Int) < (s.size : Int) := by omega
          have hbb : (db != db) = false := by simp
          clear hdb
          refine wp_region_quiet_below (by kernel_rfl) (by kernel_rfl) ?_
          quiet_step ((go_at_call 18; exact HCQ.out _ _))
          quiet_step ((go_at_call 18; exact HCQ.out _ _))
          quiet_step ((go_at_call 18; exact HCQ.out _ _))
          quiet_step ((go_at_call 18; exact HCQ.out _ _))
          quiet_step ((go_at_call 18; exact HCQ.out _ _))
          quiet_step ((go_at_call 18; exact HCQ.out _ _))
          quiet_step ((go_at_call 18; exact HCQ.out _ _))
          quiet_step ((go_at_call 18; exact HCQ.out _ _))
          quiet_step ((go_at_call 18; exact HCQ.out _ _))
          quiet_step ((go_at_call 18; exact HCQ.out _ _))
          quiet_step ((go_at_call 18; exact HCQ.out _ _))
          quiet_step ((go_at_call 18; exact HCQ.out _ _))
          quiet_step ((go_at_call 18; exact HCQ.out _ _))
          quiet_step ((go_at_call 18; exact HCQ.out _ _))
          quiet_step ((go_at_call 18; exact HCQ.out _ _))
          quiet_step ((go_at_call 18; exact HCQ.out _ _))
          quiet_step ((go_at_call 18; exact HCQ.out _ _))
          quiet_step ((go_at_call 18; exact HCQ.out _ _))
          quiet_step ((go_at_call 18; exact HCQ.out _ _))
          quiet_step ((go_at_call 18; exact HCQ.out _ _))
          quiet_step ((go_at_call 18; exact HCQ.out _ _))
          quiet_step ((go_at_call 18; exact HCQ.out _ _))
          quiet_step ((go_at_call 18; exact HCQ.out _ _))
          quiet_step ((go_at_call 18; exact HCQ.out _ _))
          quiet_step ((go_at_call 18; exact HCQ.out _ _))
          refine wpQuiet_nil ?_
          intro _ hw'
          obtain ⟨⟨dq, osq⟩, hw''⟩ := hw'
          have hP9 := Lib.hid (hP4.out.below (below_regrown w4 dq osq) hP4.out.lt)
          have hQ9 := Lib.hid (hQ4.out.below (below_regrown w4 dq osq) hQ4.out.lt)
          have hBB9 := Lib.hid (hBB4.out.trans ((below_regrown w4 dq osq).mono hBB4.out.size))
          rw [← hw''] at hP9 hQ9 hBB9
          rw [HQr.out]
          exact ⟨_, _, _, _, _, _, _, _, _, _, _, _, _, _, _, _, _, _, _, _, _, _, _, _, _, _, _, _, _, _, _, _, _, _, _, _, _, _, _, _, _, _, _, _, _, _, _, _, _, _, _, _, _, _, _, _, _, _, _, _, _, _, _, _, _, _, rfl, hP9, hQ9, hBB9⟩
        · subst h1 h2
          clear hdb
          refine wp_region_quiet_below (by kernel_rfl) (by kernel_rfl) ?_
          quiet_step (fail)
          quiet_step (fail)
          quiet_step (fail)
          quiet_step (fail)
          quiet_step (fail)
          quiet_step (fail)
          quiet_step (fail)
          quiet_step (fail)
          quiet_step (fail)
          quiet_step (fail)
          quiet_step (fail)
          quiet_step (fail)
          quiet_step (fail)
          quiet_step (fail)
          go_big_quiet_skip
          go_big_quiet_skip
          go_big_quiet_skip
          go_big_quiet_skip
          go_big_quiet_skip
          go_big_quiet_skip
          go_big_quiet_skip
          go_big_quiet_skip
          go_big_quiet_skip
          go_big_quiet_skip
          quiet_step (fail)
          refine wpQuiet_nil ?_
          intro _ hw'
          obtain ⟨⟨dq, osq⟩, hw''⟩ := hw'
          have hP9 := Lib.hid (hP4.out.below (below_regrown w4 dq osq) hP4.out.lt)
          have hQ9 := Lib.hid (hQ4.out.below (below_regrown w4 dq osq) hQ4.out.lt)
          have hBB9 := Lib.hid (hBB4.out.trans ((below_regrown w4 dq osq).mono hBB4.out.size))
          rw [← hw''] at hP9 hQ9 hBB9
          rw [HQr.out]
          exact ⟨_, _, _, _, _, _, _, _, _, _, _, _, _, _, _, _, _, _, _, _, _, _, _, _, _, _, _, _, _, _, _, _, _, _, _, _, _, _, _, _, _, _, _, _, _, _, _, _, _, _, _, _, _, _, _, _, _, _, _, _, _, _, _, _, _, _, rfl, hP9, hQ9, hBB9⟩
      · have o2 : et = 1 := by rw [← Het.out]; exact reqErr_one (by rw [Het.out]; exact h2)
        subst h1 o2
        clear hdb
        clear h2
        refine wp_region_quiet_below (by kernel_rfl) (by kernel_rfl) ?_
        quiet_step (fail)
        quiet_step (fail)
        quiet_step (fail)
        quiet_step (fail)
        quiet_step (fail)
        quiet_step (fail)
        quiet_step (fail)
        go_big_quiet_skip
        go_big_quiet_skip
        go_big_quiet_skip
        go_big_quiet_skip
        go_big_quiet_skip
        quiet_step (fail)
        quiet_step (fail)
        go_big_quiet_skip
        go_big_quiet_skip
        go_big_quiet_skip
        go_big_quiet_skip
        go_big_quiet_skip
        go_big_quiet_skip
        go_big_quiet_skip
        go_big_quiet_skip
        go_big_quiet_skip
        go_big_quiet_skip
        quiet_step (fail)
        refine wpQuiet_nil ?_
        intro _ hw'
        obtain ⟨⟨dq, osq⟩, hw''⟩ := hw'
        have hP9 := Lib.hid (hP4.out.below (below_regrown w4 dq osq) hP4.out.lt)
        have hQ9 := Lib.hid (hQ4.out.below (below_regrown w4 dq osq) hQ4.out.lt)
        have hBB9 := Lib.hid (hBB4.out.trans ((below_regrown w4 dq osq).mono hBB4.out.size))
        rw [← hw''] at hP9 hQ9 hBB9
        rw [HQr.out]
        exact ⟨_, _, _, _, _, _, _, _, _, _, _, _, _, _, _, _, _, _, _, _, _, _, _, _, _, _, _, _, _, _, _, _, _, _, _, _, _, _, _, _, _, _, _, _, _, _, _, _, _, _, _, _, _, _, _, _, _, _, _, _, _, _, _, _, _, _, rfl, hP9, hQ9, hBB9⟩
    · have o1 : es = 1 := by rw [← Hes.out]; exact reqErr_one (by rw [Hes.out]; exact h1)
      subst o1
      clear hdb
      clear h1
      refine wp_region_quiet_below (by kernel_rfl) (by kernel_rfl) ?_
      quiet_step (fail)
      quiet_step (fail)
      quiet_step (fail)
      go_big_quiet_skip
      go_big_quiet_skip
      quiet_step (fail)
      quiet_step (fail)
      go_big_quiet_skip
      go_big_quiet_skip
      go_big_quiet_skip
      go_big_quiet_skip
      go_big_quiet_skip
      quiet_step (fail)
      quiet_step (fail)
      go_big_quiet_skip
      go_big_quiet_skip
      go_big_quiet_skip
      go_big_quiet_skip
      go_big_quiet_skip
      go_big_quiet_skip
      go_big_quiet_skip
      go_big_quiet_skip
      go_big_quiet_skip
      go_big_quiet_skip
      quiet_step (fail)
      refine wpQuiet_nil ?_
      intro _ hw'
      obtain ⟨⟨dq, osq⟩, hw''⟩ := hw'
      have hP9 := Lib.hid (hP4.out.below (below_regrown w4 dq osq) hP4.out.lt)
      have hQ9 := Lib.hid (hQ4.out.below (below_regrown w4 dq osq) hQ4.out.lt)
      have hBB9 := Lib.hid (hBB4.out.trans ((below_regrown w4 dq osq).mono hBB4.out.size))
      rw [← hw''] at hP9 hQ9 hBB9
      rw [HQr.out]
      exact ⟨_, _, _, _, _, _, _, _, _, _, _, _, _, _, _, _, _, _, _, _, _, _, _, _, _, _, _, _, _, _, _, _, _, _, _, _, _, _, _, _, _, _, _, _, _, _, _, _, _, _, _, _, _, _, _, _, _, _, _, _, _, _, _, _, _, _, rfl, hP9, hQ9, hBB9⟩
  case mono =>
    intro ex a0 w9 hq
    rw [HQr.out] at hq
    clear HQr
    cases ex
    case normal =>
      obtain ⟨k0, k1, k2, k3, k4, k5, k9, k10, k11, k12, k17, k18, k19, k20, k21, k22, k23, k24, k25, k26, k27, k28, k29, k30, k31, k32, k33, k34, k35, k36, k37, k38, k39, k40, k41, k42, k43, k44, k45, k46, k47, k48, k49, k50, k51, k52, k53, k54, k55, k56, k57, k58, k59, k60, k61, k62, k63, k64, k65, k66, k67, k68, k69, k70, k71, k72, rfl, hP9, hQ9, hBB9⟩ := hq
      clear hdb HCQ hX4 hY4 hP4 hQ4 hBB4 HF1 HZ1 HZ2 Hs Hes Ht Het HS HS2 HDB uu0 uu1 uu2 uu3 uu4 uu5 uu6 uu7 zz0 zz1 zz2 zz3 zz4 zz5 zz6 zz7
      obtain ⟨p0, p1, p2, p3, p4⟩ := hP9.out.cells
      go_wp2_with (fail)
      refine (putReply_c x A3 n3 c3 _ ((HR3.out.below hBB9.out).more hBB9.out.size) HN3.out).mono ?_
      rintro e w10 ⟨rfl, hB_10⟩
      have hP10 := Lib.hid (hP9.out.below hB_10 hP9.out.lt)
      have hQ10 := Lib.hid (hQ9.out.below hB_10 hQ9.out.lt)
      have hBB10 := Lib.hid (hBB9.out.trans (hB_10.mono hBB9.out.size))
      clear hP9 hQ9 hBB9 hB_10
      clear p0 p1 p2 p3 p4
      obtain ⟨u, hu⟩ : ∃ u, repS x = u := ⟨_, rfl⟩
      have Hu := Lib.hid hu
      rw [hu] at HF2
      rw [hu] at HZ3
      rw [hu] at ⊢
      clear hu
      obtain ⟨eu, heu⟩ : ∃ eu, repErr x = eu := ⟨_, rfl⟩
      have Heu := Lib.hid heu
      rw [heu] at HF2
      rw [heu] at ⊢
      clear heu
      obtain ⟨p0, p1, p2, p3, p4⟩ := hQ10.out.cells
      go_wp2_with (fail)
      refine (putReply_c y A4 n4 c4 _ ((HR4.out.below hBB10.out).more hBB10.out.size) HN4.out).mono ?_
      rintro e w11 ⟨rfl, hB_11⟩
      have hP11 := Lib.hid (hP10.out.below hB_11 hP10.out.lt)
      have hQ11 := Lib.hid (hQ10.out.below hB_11 hQ10.out.lt)
      have hBB11 := Lib.hid (hBB10.out.trans (hB_11.mono hBB10.out.size))
      clear hP10 hQ10 hBB10 hB_11
      clear p0 p1 p2 p3 p4
      obtain ⟨v, hv⟩ : ∃ v, repS y = v := ⟨_, rfl⟩
      have Hv := Lib.hid hv
      rw [hv] at HF2
      rw [hv] at HZ4
      rw [hv] at ⊢
      clear hv
      obtain ⟨ev, hev⟩ : ∃ ev, repErr y = ev := ⟨_, rfl⟩
      have Hev := Lib.hid hev
      rw [hev] at HF2
      rw [hev] at ⊢
      clear hev
      obtain ⟨p0, p1, p2, p3, p4⟩ := hP11.out.cells
      obtain ⟨q0, q1, q2, q3, q4⟩ := hQ11.out.cells
      have pp0 := cell_regrown p0
      have pp1 := cell_regrown p1
      have pp2 := cell_regrown p2
      have pp3 := cell_regrown p3
      have pp4 := cell_regrown p4
      have qq0 := cell_regrown q0
      have qq1 := cell_regrown q1
      have qq2 := cell_regrown q2
      have qq3 := cell_regrown q3
      have qq4 := cell_regrown q4
      have HCF := Lib.hid (regrown_call (w := w11) (P := Try.prog) (f := 17) (args := #[]) (v := .bool true) (fun w' _ => framed_c w'))
      obtain ⟨db2, hdb2⟩ : ∃ db2, decide (x = y) = db2 := ⟨_, rfl⟩
      have HDB2 := Lib.hid hdb2
      have HCC := Lib.hid (regrown_call (w := w11) (P := Try.prog) (f := 25) (v := .bool db2) (fun w' hb => (sameReply_c x y A3 A4 n3 n4 c3 c4 w' ((HR3.out.below (hBB11.out.trans (hb.mono hBB11.out.size))).more (Nat.le_trans hBB11.out.size hb.size)) ((HR4.out.below (hBB11.out.trans (hb.mono hBB11.out.size))).more (Nat.le_trans hBB11.out.size hb.size)) HN3.out HN4.out).mono (fun e w'' h => by rw [HDB2.out] at h; exact h)))
      clear p0 p1 p2 p3 p4 q0 q1 q2 q3 q4
      by_cases hc : eu = 0 ∧ ev = 0 ∧ (u.size : Int) ≤ (v.size : Int)
      · obtain ⟨he1, he2, hle⟩ := hc
        have hbeq : ((v.extract 0 u.size).toList == u.toList) = db2 := by
          rw [bytes_beq, ← hdb2]
          exact decide_eq_decide.2 (HF2.out he1 he2 (by omega))
        clear hdb2
        subst he1 he2
        have hle2 : u.size ≤ v.size := by omega
        have hle3 : ¬ (v.size : Int) < (u.size : Int) := by omega
        go_wp2_with (fail)
        refine wp_region_quiet_below (by kernel_rfl) (by kernel_rfl) ?_
        quiet_step (first | (go_at_call 17; exact HCF.out _ _) | (go_at_call 25; exact HCC.out _ _))
        quiet_step (first | (go_at_call 17; exact HCF.out _ _) | (go_at_call 25; exact HCC.out _ _))
        quiet_step (first | (go_at_call 17; exact HCF.out _ _) | (go_at_call 25; exact HCC.out _ _))
        quiet_step (first | (go_at_call 17; exact HCF.out _ _) | (go_at_call 25; exact HCC.out _ _))
        quiet_step (first | (go_at_call 17; exact HCF.out _ _) | (go_at_call 25; exact HCC.out _ _))
        quiet_step (first | (go_at_call 17; exact HCF.out _ _) | (go_at_call 25; exact HCC.out _ _))
        quiet_step (first | (go_at_call 17; exact HCF.out _ _) | (go_at_call 25; exact HCC.out _ _))
        quiet_step (first | (go_at_call 17; exact HCF.out _ _) | (go_at_call 25; exact HCC.out _ _))
        quiet_step (first | (go_at_call 17; exact HCF.out _ _) | (go_at_call 25; exact HCC.out _ _))
        quiet_step (first | (go_at_call 17; exact HCF.out _ _) | (go_at_call 25; exact HCC.out _ _))
        quiet_step (first | (go_at_call 17; exact HCF.out _ _) | (go_at_call 25; exact HCC.out _ _))
        quiet_step (first | (go_at_call 17; exact HCF.out _ _) | (go_at_call 25; exact HCC.out _ _))
        quiet_step (first | (go_at_call 17; exact HCF.out _ _) | (go_at_call 25; exact HCC.out _ _))
        quiet_step (first | (go_at_call 17; exact HCF.out _ _) | (go_at_call 25; exact HCC.out _ _))
        quiet_step (first | (go_at_call 17; exact HCF.out _ _) | (go_at_call 25; exact HCC.out _ _))
        quiet_step (first | (go_at_call 17; exact HCF.out _ _) | (go_at_call 25; exact HCC.out _ _))
        quiet_step (first | (go_at_call 17; exact HCF.out _ _) | (go_at_call 25; exact HCC.out _ _))
        quiet_step (first | (go_at_call 17; exact HCF.out _ _) | (go_at_call 25; exact HCC.out _ _))
        quiet_step (first | (go_at_call 17; exact HCF.out _ _) | (go_at_call 25; exact HCC.out _ _))
        quiet_step (first | (go_at_call 17; exact HCF.out _ _) | (go_at_call 25; exact HCC.out _ _))
        quiet_step (first | (go_at_call 17; exact HCF.out _ _) | (go_at_call 25; exact HCC.out _ _))
        quiet_step (first | (go_at_call 17; exact HCF.out _ _) | (go_at_call 25; exact HCC.out _ _))
        quiet_step (first | (go_at_call 17; exact HCF.out _ _) | (go_at_call 25; exact HCC.out _ _))
        quiet_step (first | (go_at_call 17; exact HCF.out _ _) | (go_at_call 25; exact HCC.out _ _))
        quiet_step (first | (go_at_call 17; exact HCF.out _ _) | (go_at_call 25; exact HCC.out _ _))
        quiet_step (first | (go_at_call 17; exact HCF.out _ _) | (go_at_call 25; exact HCC.out _ _))
        quiet_step (first | (go_at_call 17; exact HCF.out _ _) | (go_at_call 25; exact HCC.out _ _))
        quiet_step (first | (go_at_call 17; exact HCF.out _ _) | (go_at_call 25; exact HCC.out _ _))
        quiet_step (first | (go_at_call 17; exact HCF.out _ _) | (go_at_call 25; exact HCC.out _ _))
        refine wpQuiet_nil ?_
        intro _ hw'
        obtain ⟨⟨dq, osq⟩, hw''⟩ := hw'
        have HB9 := Lib.hid (hBB11.out.trans ((below_regrown w11 dq osq).mono hBB11.out.size))
        subst hw''
        have hbb2 : (db2 == db2) = true := by simp
        go_wp2_with (fail)
        go_ret
        exact ⟨ret_bool (by first | rfl | simp), HB9.out⟩
      · have hor : eu = 1 ∨ (eu = 0 ∧ ev = 1) ∨ (eu = 0 ∧ ev = 0 ∧ (v.size : Int) < (u.size : Int)) := by
          by_cases h1 : eu = 0
          · by_cases h2 : ev = 0
            · right; right; refine ⟨h1, h2, ?_⟩
              by_cases h3 : (u.size : Int) ≤ (v.size : Int)
              · exact absurd ⟨h1, h2, h3⟩ hc
              · omega
            · right; left; exact ⟨h1, by rw [← Hev.out]; exact repErr_one (by rw [Hev.out]; exact h2)⟩
          · left; rw [← Heu.out]; exact repErr_one (by rw [Heu.out]; exact h1)
        clear hc hdb2
        rcases hor with rfl | ⟨rfl, rfl⟩ | ⟨rfl, rfl, o3⟩
        · go_wp2_with (fail)
          refine wp_region_quiet_below (by kernel_rfl) (by kernel_rfl) ?_
          quiet_step (first | (go_at_call 17; exact HCF.out _ _) | (go_at_call 25; exact HCC.out _ _))
          quiet_step (first | (go_at_call 17; exact HCF.out _ _) | (go_at_call 25; exact HCC.out _ _))
          quiet_step (first | (go_at_call 17; exact HCF.out _ _) | (go_at_call 25; exact HCC.out _ _))
          quiet_step (first | (go_at_call 17; exact HCF.out _ _) | (go_at_call 25; exact HCC.out _ _))
          quiet_step (first | (go_at_call 17; exact HCF.out _ _) | (go_at_call 25; exact HCC.out _ _))
          go_big_quiet_skip
          go_big_quiet_skip
          quiet_step (first | (go_at_call 17; exact HCF.out _ _) | (go_at_call 25; exact HCC.out _ _))
          quiet_step (first | (go_at_call 17; exact HCF.out _ _) | (go_at_call 25; exact HCC.out _ _))
          go_big_quiet_skip
          go_big_quiet_skip
          go_big_quiet_skip
          go_big_quiet_skip
          go_big_quiet_skip
          quiet_step (first | (go_at_call 17; exact HCF.out _ _) | (go_at_call 25; exact HCC.out _ _))
          quiet_step (first | (go_at_call 17; exact HCF.out _ _) | (go_at_call 25; exact HCC.out _ _))
          go_big_quiet_skip
          go_big_quiet_skip
          go_big_quiet_skip
          go_big_quiet_skip
          go_big_quiet_skip
          go_big_quiet_skip
          go_big_quiet_skip
          go_big_quiet_skip
          go_big_quiet_skip
          go_big_quiet_skip
          quiet_step (first | (go_at_call 17; exact HCF.out _ _) | (go_at_call 25; exact HCC.out _ _))
          quiet_step (first | (go_at_call 17; exact HCF.out _ _) | (go_at_call 25; exact HCC.out _ _))
          quiet_step (first | (go_at_call 17; exact HCF.out _ _) | (go_at_call 25; exact HCC.out _ _))
          refine wpQuiet_nil ?_
          intro _ hw'
          obtain ⟨⟨dq, osq⟩, hw''⟩ := hw'
          have HB9 := Lib.hid (hBB11.out.trans ((below_regrown w11 dq osq).mono hBB11.out.size))
          subst hw''
          go_wp2_with (fail)
          go_ret
          exact ⟨rfl, HB9.out⟩
        · go_wp2_with (fail)
          refine wp_region_quiet_below (by kernel_rfl) (by kernel_rfl) ?_
          quiet_step (first | (go_at_call 17; exact HCF.out _ _) | (go_at_call 25; exact HCC.out _ _))
          quiet_step (first | (go_at_call 17; exact HCF.out _ _) | (go_at_call 25; exact HCC.out _ _))
          quiet_step (first | (go_at_call 17; exact HCF.out _ _) | (go_at_call 25; exact HCC.out _ _))
          quiet_step (first | (go_at_call 17; exact HCF.out _ _) | (go_at_call 25; exact HCC.out _ _))
          quiet_step (first | (go_at_call 17; exact HCF.out _ _) | (go_at_call 25; exact HCC.out _ _))
          quiet_step (first | (go_at_call 17; exact HCF.out _ _) | (go_at_call 25; exact HCC.out _ _))
          quiet_step (first | (go_at_call 17; exact HCF.out _ _) | (go_at_call 25; exact HCC.out _ _))
          quiet_step (first | (go_at_call 17; exact HCF.out _ _) | (go_at_call 25; exact HCC.out _ _))
          quiet_step (first | (go_at_call 17; exact HCF.out _ _) | (go_at_call 25; exact HCC.out _ _))
          go_big_quiet_skip
          go_big_quiet_skip
          go_big_quiet_skip
          go_big_quiet_skip
          go_big_quiet_skip
          quiet_step (first | (go_at_call 17; exact HCF.out _ _) | (go_at_call 25; exact HCC.out _ _))
          quiet_step (first | (go_at_call 17; exact HCF.out _ _) | (go_at_call 25; exact HCC.out _ _))
          go_big_quiet_skip
          go_big_quiet_skip
          go_big_quiet_skip
          go_big_quiet_skip
          go_big_quiet_skip
          go_big_quiet_skip
          go_big_quiet_skip
          go_big_quiet_skip
          go_big_quiet_skip
          go_big_quiet_skip
          quiet_step (first | (go_at_call 17; exact HCF.out _ _) | (go_at_call 25; exact HCC.out _ _))
          quiet_step (first | (go_at_call 17; exact HCF.out _ _) | (go_at_call 25; exact HCC.out _ _))
          quiet_step (first | (go_at_call 17; exact HCF.out _ _) | (go_at_call 25; exact HCC.out _ _))
          refine wpQuiet_nil ?_
          intro _ hw'
          obtain ⟨⟨dq, osq⟩, hw''⟩ := hw'
          have HB9 := Lib.hid (hBB11.out.trans ((below_regrown w11 dq osq).mono hBB11.out.size))
          subst hw''
          go_wp2_with (fail)
          go_ret
          exact ⟨rfl, HB9.out⟩
        · go_wp2_with (fail)
          refine wp_region_quiet_below (by kernel_rfl) (by kernel_rfl) ?_
          quiet_step (first | (go_at_call 17; exact HCF.out _ _) | (go_at_call 25; exact HCC.out _ _))
          quiet_step (first | (go_at_call 17; exact HCF.out _ _) | (go_at_call 25; exact HCC.out _ _))
          quiet_step (first | (go_at_call 17; exact HCF.out _ _) | (go_at_call 25; exact HCC.out _ _))
          quiet_step (first | (go_at_call 17; exact HCF.out _ _) | (go_at_call 25; exact HCC.out _ _))
          quiet_step (first | (go_at_call 17; exact HCF.out _ _) | (go_at_call 25; exact HCC.out _ _))
          quiet_step (first | (go_at_call 17; exact HCF.out _ _) | (go_at_call 25; exact HCC.out _ _))
          quiet_step (first | (go_at_call 17; exact HCF.out _ _) | (go_at_call 25; exact HCC.out _ _))
          quiet_step (first | (go_at_call 17; exact HCF.out _ _) | (go_at_call 25; exact HCC.out _ _))
          quiet_step (first | (go_at_call 17; exact HCF.out _ _) | (go_at_call 25; exact HCC.out _ _))
          quiet_step (first | (go_at_call 17; exact HCF.out _ _) | (go_at_call 25; exact HCC.out _ _))
          quiet_step (first | (go_at_call 17; exact HCF.out _ _) | (go_at_call 25; exact HCC.out _ _))
          quiet_step (first | (go_at_call 17; exact HCF.out _ _) | (go_at_call 25; exact HCC.out _ _))
          quiet_step (first | (go_at_call 17; exact HCF.out _ _) | (go_at_call 25; exact HCC.out _ _))
          quiet_step (first | (go_at_call 17; exact HCF.out _ _) | (go_at_call 25; exact HCC.out _ _))
          quiet_step (first | (go_at_call 17; exact HCF.out _ _) | (go_at_call 25; exact HCC.out _ _))
          quiet_step (first | (go_at_call 17; exact HCF.out _ _) | (go_at_call 25; exact HCC.out _ _))
          go_big_quiet_skip
          go_big_quiet_skip
          go_big_quiet_skip
          go_big_quiet_skip
          go_big_quiet_skip
          go_big_quiet_skip
          go_big_quiet_skip
          go_big_quiet_skip
          go_big_quiet_skip
          go_big_quiet_skip
          quiet_step (first | (go_at_call 17; exact HCF.out _ _) | (go_at_call 25; exact HCC.out _ _))
          quiet_step (first | (go_at_call 17; exact HCF.out _ _) | (go_at_call 25; exact HCC.out _ _))
          quiet_step (first | (go_at_call 17; exact HCF.out _ _) | (go_at_call 25; exact HCC.out _ _))
          refine wpQuiet_nil ?_
          intro _ hw'
          obtain ⟨⟨dq, osq⟩, hw''⟩ := hw'
          have HB9 := Lib.hid (hBB11.out.trans ((below_regrown w11 dq osq).mono hBB11.out.size))
          subst hw''
          go_wp2_with (fail)
          go_ret
          exact ⟨rfl, HB9.out⟩
    all_goals exact hq.elim
end Go.Proofs.Ytmnjlhifjjainaa
