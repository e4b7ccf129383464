/-
  RoundSteps: the walk of the law.
-/
import Derived.Test.YtichoidkemeibaaGreatJ21
import Derived.Test.YtichoidkemeibaaGreatJ22
import Derived.Test.YtichoidkemeibaaGreatJ26
namespace Go.Proofs.YtichoidkemeibaaGreat
open Go.RowKit

set_option maxRecDepth 100000 in
set_option maxHeartbeats 8000000 in
theorem roundSteps_c (q : QuA) (a : RwA) (As Am Ap : Option Addr) (ns cs nm cm np cp : Nat) (k : Int) (S M : List Msg) (ps : List Int) (w : World) (hq : QuIn w q) (ha : RwIn w w.heap.size a) (hS : Reads w w.heap.size 4 As ns (mv S)) (hM : Reads w w.heap.size 4 Am nm (mv M)) (hP : Reads w w.heap.size 1 Ap np (iv ps))
    (hns : ns ≤ maxLen) (hnm : nm ≤ maxLen) (hnp : np ≤ maxLen) (fS : ∀ m ∈ S, m.fits) (fM : ∀ m ∈ M, m.fits) :
    Calls Tryz.prog 4 #[quVal q, rwVal a, .slice As ns cs, .slice Am nm cm, .int .i64 k, .slice Ap np cp] w fun e w' => e = .returned (.bool true) ∧ Below w.heap.size w w' := by
  show Calls Tryz.prog 4 #[.agg #[.int .i64 q.kind, .int .i64 q.src, .int .i64 q.dst, .slice q.W q.nw q.cw, .int .i64 q.radius, .int .i64 q.most], .agg #[.slice a.A1 a.n1 a.c1, .slice a.A2 a.n2 a.c2, .slice a.A3 a.n3 a.c3, .slice a.A4 a.n4 a.c4], .slice As ns cs, .slice Am nm cm, .int .i64 k, .slice Ap np cp] w _
  have hx := qbAt_new w q a
  obtain ⟨q0, q1, q2, q3, q4, q5⟩ := hx.qc
  obtain ⟨r0, r1, r2, r3⟩ := hx.rc
  unfold quBox rwBox at q0 q1 q2 q3 q4 q5 r0 r1 r2 r3
  have HX := Lib.hid hx
  have HQ := Lib.hid hq
  have HA := Lib.hid ha
  have HS := Lib.hid hS
  have HM := Lib.hid hM
  have HP := Lib.hid hP
  have HFS := Lib.hid fS
  have HFM := Lib.hid fM
  clear hx hq ha hS hM hP fS fM
  go_enter Tryz.func4, Tryz.ntmps4
  go_wp2_with (fail)
  refine (far_c q a As Am Ap ns cs nm cm np cp _ (HQ.out.below HX.out.bel) (HX.out.rw_ HA.out) hns hnm hnp).mono ?_
  rintro e w1 ⟨b, rfl, hB1, hb⟩
  have HX1 := Lib.hid (HX.out.step hB1)
  clear hB1 q0 q1 q2 q3 q4 q5 r0 r1 r2 r3 HX
  rcases b with _ | _
  rotate_left
  · clear hb
    go_wp2_with (fail)
    go_ret
    exact ⟨rfl, HX1.out.bel⟩
  obtain ⟨h1, h2, h3⟩ := hb rfl
  clear hb
  go_wp2_with (fail)
  refine (ownS_c As ns cs S _ ((HS.out.below HX1.out.bel).more HX1.out.bel.size) (by omega)).mono ?_
  rintro e w2 ⟨Ax, cx, rfl, hox, hB2⟩
  have HX2 := Lib.hid (HX1.out.step hB2)
  have HRX2 := Lib.hid (own_reads hox)
  clear hB2 hox HX1
  go_wp2_with (fail)
  refine (own16_c Am nm cm M _ ((HM.out.below HX2.out.bel).more HX2.out.bel.size) (by omega)).mono ?_
  rintro e w3 ⟨Ay, cy, rfl, hoy, hB3⟩
  have HX3 := Lib.hid (HX2.out.step hB3)
  have HRX := Lib.hid ((HRX2.out.below hB3).more hB3.size)
  have HRY := Lib.hid (own_reads hoy)
  clear hB3 hoy HX2 HRX2
  obtain ⟨q0, q1, q2, q3, q4, q5⟩ := HX3.out.qc
  obtain ⟨r0, r1, r2, r3⟩ := HX3.out.rc
  go_wp2_with (fail)
  refine (stepP_c q a As Am ns cs nm cm k S M _ Ap np cp ps (HX3.out.rw_ HA.out) ((HS.out.below HX3.out.bel).more HX3.out.bel.size) ((HM.out.below HX3.out.bel).more HX3.out.bel.size) ((HP.out.below HX3.out.bel).more HX3.out.bel.size) (by omega) (by omega) hnp HFS.out HFM.out).mono ?_
  rintro e w4 ⟨A1, k1, c1, A2, k2, c2, rfl, ho1, ho2, hB4⟩
  have HX4 := Lib.hid (HX3.out.step hB4)
  have HB4 := Lib.hid hB4
  have m1 := own_max ho1
  have m2 := own_max ho2
  have HO1 := Lib.hid ho1
  have HR2 := Lib.hid (own_reads ho2)
  clear hB4 ho1 ho2 q0 q1 q2 q3 q4 q5 r0 r1 r2 r3
  obtain ⟨q0, q1, q2, q3, q4, q5⟩ := HX4.out.qc
  obtain ⟨r0, r1, r2, r3⟩ := HX4.out.rc
  go_wp2_with (fail)
  refine (stepF_c q a Ax Ay ns cx nm cy k S M _ (HX4.out.rw_ HA.out) ((HRX.out.below HB4.out).more HB4.out.size) ((HRY.out.below HB4.out).more HB4.out.size) (by omega) (by omega)).mono ?_
  rintro e w5 ⟨A3, k3, c3, A4, k4, c4, rfl, ho3, ho4, hB5⟩
  have HX5 := Lib.hid (HX4.out.step hB5)
  have HB5 := Lib.hid (HB4.out.trans (hB5.mono HB4.out.size))
  have m3 := own_max ho3
  have m4 := own_max ho4
  have HO1' := Lib.hid (own_below HO1.out hB5)
  have HR2' := Lib.hid ((HR2.out.below hB5).more hB5.size)
  have HR3 := Lib.hid (own_reads ho3)
  have HR4 := Lib.hid (own_reads ho4)
  clear hB5 ho3 ho4 q0 q1 q2 q3 q4 q5 r0 r1 r2 r3 HX4 HB4 HO1 HR2
  generalize stepR q.kind q.radius a.r S M k ((a.n1 : Int) - 1) = res at *
  obtain ⟨S', M', code⟩ := res
  simp only at HO1' HR2' HR3 HR4 ⊢
  go_wp2_with (fail)
  refine (eachP_c As ns cs S k _ ((HS.out.below HX5.out.bel).more HX5.out.bel.size) (by omega)).mono ?_
  rintro e w6 ⟨A5, k5, c5, rfl, ho5, hB6⟩
  have HB6 := Lib.hid (HB5.out.trans (hB6.mono HB5.out.size))
  have m5 := own_max ho5
  have HO1 := Lib.hid (own_below HO1'.out hB6)
  have HR2 := Lib.hid ((HR2'.out.below hB6).more hB6.size)
  have HR3' := Lib.hid ((HR3.out.below hB6).more hB6.size)
  have HR4' := Lib.hid ((HR4.out.below hB6).more hB6.size)
  have HR5 := Lib.hid (own_reads ho5)
  clear hB6 ho5 HX5 HB5 HO1' HR2' HR3 HR4
  go_wp2_with (fail)
  refine (eachF_c Ax ns cx S k _ ((HRX.out.below HB6.out).more HB6.out.size) (by omega)).mono ?_
  rintro e w7 ⟨A6, k6, c6, rfl, ho6, hB7⟩
  have HB7 := Lib.hid (HB6.out.trans (hB7.mono HB6.out.size))
  have m6 := own_max ho6
  have HO1' := Lib.hid (own_below HO1.out hB7)
  have HR2' := Lib.hid ((HR2.out.below hB7).more hB7.size)
  have HR3 := Lib.hid ((HR3'.out.below hB7).more hB7.size)
  have HR4 := Lib.hid ((HR4'.out.below hB7).more hB7.size)
  have HR5' := Lib.hid ((HR5.out.below hB7).more hB7.size)
  have HR6 := Lib.hid (own_reads ho6)
  clear hB7 ho6 HB6 HO1 HR2 HR3' HR4' HR5
  generalize eachR S k = er at *
  obtain ⟨el, ec⟩ := er
  simp only at HR5' HR6 ⊢
  go_wp2_with (fail)
  refine (same15_c A1 A3 k1 k3 c1 c3 S' S' w7 (own_reads HO1'.out) HR3.out m1 m3).mono ?_
  rintro e w8 ⟨rfl, hB8⟩
  rw [show decide (S' = S') = true from decide_eq_true rfl]
  have HB8 := Lib.hid (HB7.out.trans (hB8.mono HB7.out.size))
  have HO1 := Lib.hid (own_below HO1'.out hB8)
  have HR2 := Lib.hid ((HR2'.out.below hB8).more hB8.size)
  have HR4' := Lib.hid ((HR4.out.below hB8).more hB8.size)
  have HR5 := Lib.hid ((HR5'.out.below hB8).more hB8.size)
  have HR6' := Lib.hid ((HR6.out.below hB8).more hB8.size)
  clear hB8 HB7 HO1' HR2' HR3 HR4 HR5' HR6
  go_wp2_with (fail)
  refine (same16_c A2 A4 k2 k4 c2 c4 M' M' w8 HR2.out HR4'.out m2 m4).mono ?_
  rintro e w9 ⟨rfl, hB9⟩
  rw [show decide (M' = M') = true from decide_eq_true rfl]
  have HB9 := Lib.hid (HB8.out.trans (hB9.mono HB8.out.size))
  have HO1' := Lib.hid (own_below HO1.out hB9)
  have HR5' := Lib.hid ((HR5.out.below hB9).more hB9.size)
  have HR6 := Lib.hid ((HR6'.out.below hB9).more hB9.size)
  clear hB9 HB8 HO1 HR2 HR4' HR5 HR6'
  go_wp2_with (fail)
  refine (ints_c A5 A6 k5 k6 c5 c6 el el w9 HR5'.out HR6.out m5 m6).mono ?_
  rintro e w10 ⟨rfl, hB10⟩
  rw [show decide (el = el) = true from decide_eq_true rfl]
  have HB10 := Lib.hid (HB9.out.trans (hB10.mono HB9.out.size))
  have HO1 := Lib.hid (own_below HO1'.out hB10)
  clear hB10 HB9 HO1' HR5' HR6
  have m1' := m1
  unfold maxLen at m1'
  go_wp2_with (fail)
  go_loopw [26] (fun i wr => ∃ (j : Nat) (xs : List Value), j ≤ k1 ∧ i = .int .i64 j ∧ wr.ownsRow w3.heap.size 43 4 (.slice A1 k1 c1) k1 xs ∧ Below w3.heap.size w3 wr) (fun i _ => k1 - (intOf i).toNat)
  case atStart => exact ⟨0, _, Nat.zero_le _, rfl, HO1.out, HB10.out⟩
  case round =>
    clear HO1 HB10
    obtain ⟨j, xs, hj, rfl, ho, hB⟩ := hrel
    by_cases hlt : j < k1
    · obtain ⟨g, cap, hg, hgb⟩ := ho.form (by omega)
      cases hg
      have hxl := ho.1
      obtain ⟨u, hu⟩ : ∃ u, xs[j * 4 + 3]? = some u := ⟨xs[j * 4 + 3]'(by omega), List.getElem?_eq_getElem _⟩
      have c0 : wr.cell? ⟨g, j * 4 + 3, none⟩ = some u := by
        obtain ⟨b, o, e1, _, hc⟩ := (own_reads ho).2 (by omega)
        cases e1
        simpa using hc _ _ hu
      have f0 := ho.frozenAt (j * 4 + 3)
      have hst := ho.stored (j * 4 + 3) (.int .i64 (-7))
      have hgl := (own_lt ho _ rfl).1
      have HST := Lib.hid hst.1
      have HB := Lib.hid (hB.grown hst.2 hB.size (fun x hx => by injection hx with hx; simp only at hgl; omega))
      have f1 : (0 : Int) ≤ (j : Int) := by omega
      have f2 : (j : Int) < (k1 : Int) := by omega
      clear ho hB hxl hu hst hgb
      go_wp2_with (fail)
      go_roundw
      case rel => exact ⟨j + 1, _, by omega, by go_num, HST.out, HB.out⟩
      case measure => simp [intOf]; omega
    obtain rfl : k1 = j := by omega
    have HB10 := Lib.hid hB
    clear ho hB
    go_wp2_with (fail)
    refine (rounds_c _).mono ?_
    rintro e w11 ⟨rfl, hB11⟩
    have HB11 := Lib.hid (HB10.out.trans (hB11.mono HB10.out.size))
    have HX11 := Lib.hid (HX3.out.step HB11.out)
    clear hB11 HB10
    go_wp2_with (fail)
    refine (fresh_c As Am ns cs nm cm S M _ ((HS.out.below HX11.out.bel).more HX11.out.bel.size) ((HM.out.below HX11.out.bel).more HX11.out.bel.size) (by omega) (by omega) HFS.out HFM.out).mono ?_
    rintro e w12 ⟨A7, k7, c7, rfl, -, ho7, hB12⟩
    have m7 := own_max ho7
    have HB12 := Lib.hid (HB11.out.trans (hB12.mono HB11.out.size))
    have HR7 := Lib.hid (own_reads ho7)
    clear hB12 ho7 HB11 HX11
    go_wp2_with (fail)
    refine (fresh19_c Ax Ay ns cx nm cy S M _ ((HRX.out.below HB12.out).more HB12.out.size) ((HRY.out.below HB12.out).more HB12.out.size) (by omega) (by omega)).mono ?_
    rintro e w13 ⟨A8, k8, c8, rfl, -, ho8, hB13⟩
    have m8 := own_max ho8
    have HB13 := Lib.hid (HB12.out.trans (hB13.mono HB12.out.size))
    have HR7' := Lib.hid ((HR7.out.below hB13).more hB13.size)
    have HR8 := Lib.hid (own_reads ho8)
    clear hB13 ho8 HB12 HR7
    go_wp2_with (fail)
    refine (same16_c A7 A8 k7 k8 c7 c8 (freshL S M) (freshL S M) _ HR7'.out HR8.out m7 m8).mono ?_
    rintro e w14 ⟨rfl, hB14⟩
    rw [show decide (freshL S M = freshL S M) = true from decide_eq_true rfl]
    have HB14 := Lib.hid (HB13.out.trans (hB14.mono HB13.out.size))
    have HX14 := Lib.hid (HX3.out.step HB14.out)
    clear hB14 HB13 HR7' HR8
    go_wp2_with (fail)
    refine (same15_c As Ax ns ns cs cx S S _ ((HS.out.below HX14.out.bel).more HX14.out.bel.size) ((HRX.out.below HB14.out).more HB14.out.size) hns hns).mono ?_
    rintro e w15 ⟨rfl, hB15⟩
    rw [show decide (S = S) = true from decide_eq_true rfl]
    have HB15 := Lib.hid (HB14.out.trans (hB15.mono HB14.out.size))
    have HX15 := Lib.hid (HX3.out.step HB15.out)
    clear hB15 HB14 HX14
    go_wp2_with (fail)
    refine (same16_c Am Ay nm nm cm cy M M _ ((HM.out.below HX15.out.bel).more HX15.out.bel.size) ((HRY.out.below HB15.out).more HB15.out.size) hnm hnm).mono ?_
    rintro e w16 ⟨rfl, hB16⟩
    rw [show decide (M = M) = true from decide_eq_true rfl]
    have HX16 := Lib.hid (HX15.out.step hB16)
    clear hB16 HX15
    go_wp2_with (fail)
    go_ret
    exact ⟨rfl, HX16.out.bel⟩
end Go.Proofs.YtichoidkemeibaaGreat
