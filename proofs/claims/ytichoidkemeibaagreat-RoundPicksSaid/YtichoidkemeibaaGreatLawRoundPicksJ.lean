/-
  RoundPicks: the walk of the law.
-/
import Derived.Test.YtichoidkemeibaaGreatJ21
import Derived.Test.YtichoidkemeibaaGreatJ22
import Derived.Test.YtichoidkemeibaaGreatJ26
namespace Go.Proofs.YtichoidkemeibaaGreat
open Go.RowKit

set_option maxRecDepth 100000 in
set_option maxHeartbeats 4000000 in
theorem roundPicks_c (q : QuA) (a : RwA) (As Am Ap Ax : Option Addr) (ns cs nm cm np cp nx cx : Nat) (k k' : Int) (S M : List Msg) (ps xs : List Int) (w : World) (hq : QuIn w q) (ha : RwIn w w.heap.size a) (hS : Reads w w.heap.size 4 As ns (mv S)) (hM : Reads w w.heap.size 4 Am nm (mv M)) (hP : Reads w w.heap.size 1 Ap np (iv ps)) (hX : Reads w w.heap.size 1 Ax nx (iv xs))
    (hns : ns ≤ maxLen) (hnm : nm ≤ maxLen) (hnp : np ≤ maxLen) (hnx : nx ≤ maxLen) (fS : ∀ m ∈ S, m.fits) (fM : ∀ m ∈ M, m.fits) :
    Calls Tryz.prog 5 #[quVal q, rwVal a, .slice As ns cs, .slice Am nm cm, .int .i64 k, .int .i64 k', .slice Ap np cp, .slice Ax nx cx] w fun e w' => e = .returned (.bool true) ∧ Below w.heap.size w w' := by
  show Calls Tryz.prog 5 #[.agg #[.int .i64 q.kind, .int .i64 q.src, .int .i64 q.dst, .slice q.W q.nw q.cw, .int .i64 q.radius, .int .i64 q.most], .agg #[.slice a.A1 a.n1 a.c1, .slice a.A2 a.n2 a.c2, .slice a.A3 a.n3 a.c3, .slice a.A4 a.n4 a.c4], .slice As ns cs, .slice Am nm cm, .int .i64 k, .int .i64 k', .slice Ap np cp, .slice Ax nx cx] w _
  have hx := qbAt_new w q a
  obtain ⟨q0, q1, q2, q3, q4, q5⟩ := hx.qc
  obtain ⟨r0, r1, r2, r3⟩ := hx.rc
  unfold quBox rwBox at q0 q1 q2 q3 q4 q5 r0 r1 r2 r3
  have HX := Lib.hid hx
  have HQ := Lib.hid hq
  have HA := Lib.hid ha
  have HS := Lib.hid hS
  have HM := Lib.hid hM
  have HP := Lib.hid hP
  have HPX := Lib.hid hX
  have HFS := Lib.hid fS
  have HFM := Lib.hid fM
  clear hx hq ha hS hM hP hX fS fM
  go_enter Tryz.func5, Tryz.ntmps5
  go_wp2_with (fail)
  refine (far_c q a As Am Ap ns cs nm cm np cp _ (HQ.out.below HX.out.bel) (HX.out.rw_ HA.out) hns hnm hnp).mono ?_
  rintro e w1 ⟨b, rfl, hB1, hb⟩
  have HX1 := Lib.hid (HX.out.step hB1)
  clear hB1 q0 q1 q2 q3 q4 q5 r0 r1 r2 r3 HX
  rcases b with _ | _
  rotate_left
  · clear hb
    go_wp2_with (fail)
    go_ret
    exact ⟨rfl, HX1.out.bel⟩
  obtain ⟨h1, h2, h3⟩ := hb rfl
  clear hb
  by_cases h4 : 100 < nx
  · have h4' : (100 : Int) < (nx : Int) := by omega
    go_wp2_with (fail)
    go_ret
    exact ⟨rfl, HX1.out.bel⟩
  have h4' : ¬ (100 : Int) < (nx : Int) := by omega
  by_cases h5 : k < 1
  · go_wp2_with (fail)
    go_ret
    exact ⟨rfl, HX1.out.bel⟩
  by_cases h6 : 16 < k
  · go_wp2_with (fail)
    go_ret
    exact ⟨rfl, HX1.out.bel⟩
  by_cases h7 : k' < 1
  · go_wp2_with (fail)
    go_ret
    exact ⟨rfl, HX1.out.bel⟩
  by_cases h8 : 16 < k'
  · go_wp2_with (fail)
    go_ret
    exact ⟨rfl, HX1.out.bel⟩
  have HW : Hid (stepR q.kind q.radius a.r S M k' ((a.n1 : Int) - 1) = stepR q.kind q.radius a.r S M k ((a.n1 : Int) - 1)) := stepR_workers (by omega) (by omega)
  obtain ⟨q0, q1, q2, q3, q4, q5⟩ := HX1.out.qc
  obtain ⟨r0, r1, r2, r3⟩ := HX1.out.rc
  go_wp2_with (fail)
  refine (stepP_c q a As Am ns cs nm cm k S M _ Ap np cp ps (HX1.out.rw_ HA.out) ((HS.out.below HX1.out.bel).more HX1.out.bel.size) ((HM.out.below HX1.out.bel).more HX1.out.bel.size) ((HP.out.below HX1.out.bel).more HX1.out.bel.size) (by omega) (by omega) hnp HFS.out HFM.out).mono ?_
  rintro e w2 ⟨A1, k1, c1, A2, k2, c2, rfl, ho1, ho2, hB2⟩
  have HX2 := Lib.hid (HX1.out.step hB2)
  have HR1 := Lib.hid (own_reads ho1)
  have HR2 := Lib.hid (own_reads ho2)
  have m1 := own_max ho1
  have m2 := own_max ho2
  clear hB2 ho1 ho2 q0 q1 q2 q3 q4 q5 r0 r1 r2 r3 HX1
  obtain ⟨q0, q1, q2, q3, q4, q5⟩ := HX2.out.qc
  obtain ⟨r0, r1, r2, r3⟩ := HX2.out.rc
  go_wp2_with (fail)
  refine (stepP_c q a As Am ns cs nm cm k' S M _ Ax nx cx xs (HX2.out.rw_ HA.out) ((HS.out.below HX2.out.bel).more HX2.out.bel.size) ((HM.out.below HX2.out.bel).more HX2.out.bel.size) ((HPX.out.below HX2.out.bel).more HX2.out.bel.size) (by omega) (by omega) hnx HFS.out HFM.out).mono ?_
  rintro e w3 ⟨A3, k3, c3, A4, k4, c4, rfl, ho3, ho4, hB3⟩
  have HX3 := Lib.hid (HX2.out.step hB3)
  have HR1' := Lib.hid ((HR1.out.below hB3).more hB3.size)
  have HR2' := Lib.hid ((HR2.out.below hB3).more hB3.size)
  have HR3 := Lib.hid (own_reads ho3)
  have HR4 := Lib.hid (own_reads ho4)
  rw [HW.out] at HR3 HR4 ⊢
  have m3 := own_max ho3
  have m4 := own_max ho4
  clear hB3 ho3 ho4 q0 q1 q2 q3 q4 q5 r0 r1 r2 r3 HX2 HR1 HR2 HW
  generalize stepR q.kind q.radius a.r S M k ((a.n1 : Int) - 1) = res at *
  obtain ⟨S', M', code⟩ := res
  simp only at HR1' HR2' HR3 HR4 ⊢
  go_wp2_with (fail)
  refine (rounds_c _).mono ?_
  rintro e w4 ⟨rfl, hB4⟩
  have HX4 := Lib.hid (HX3.out.step hB4)
  have HR1 := Lib.hid ((HR1'.out.below hB4).more hB4.size)
  have HR2 := Lib.hid ((HR2'.out.below hB4).more hB4.size)
  have HR3' := Lib.hid ((HR3.out.below hB4).more hB4.size)
  have HR4' := Lib.hid ((HR4.out.below hB4).more hB4.size)
  clear hB4 HX3 HR1' HR2' HR3 HR4
  go_wp2_with (fail)
  refine (same15_c A1 A3 k1 k3 c1 c3 S' S' w4 HR1.out HR3'.out m1 m3).mono ?_
  rintro e w5 ⟨rfl, hB5⟩
  rw [show decide (S' = S') = true from decide_eq_true rfl]
  have HX5 := Lib.hid (HX4.out.step hB5)
  have HR2' := Lib.hid ((HR2.out.below hB5).more hB5.size)
  have HR4 := Lib.hid ((HR4'.out.below hB5).more hB5.size)
  clear hB5 HX4 HR1 HR2 HR3' HR4'
  go_wp2_with (fail)
  refine (same16_c A2 A4 k2 k4 c2 c4 M' M' w5 HR2'.out HR4.out m2 m4).mono ?_
  rintro e w6 ⟨rfl, hB6⟩
  rw [show decide (M' = M') = true from decide_eq_true rfl]
  have HX6 := Lib.hid (HX5.out.step hB6)
  clear hB6 HX5 HR2' HR4
  go_wp2_with (fail)
  go_ret
  exact ⟨rfl, HX6.out.bel⟩
end Go.Proofs.YtichoidkemeibaaGreat
