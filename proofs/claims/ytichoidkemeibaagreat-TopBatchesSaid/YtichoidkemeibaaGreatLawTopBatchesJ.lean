/-
  TopBatches: the walk of the law.
-/
import Derived.Test.YtichoidkemeibaaGreatJ27
import Derived.Test.YtichoidkemeibaaGreatJ29
namespace Go.Proofs.YtichoidkemeibaaGreat
open Go.RowKit

/-- What 'true' needs. -/
theorem walked_end {w0 w : World} (hB : Below w0.heap.size w0 w) : Calls Tryz.prog 13 #[] w fun e w' => e = .returned (.bool true) ∧ Below w0.heap.size w0 w' :=
  (walked_c w).mono fun _ _ h => ⟨h.1, hB.trans (h.2.mono hB.size)⟩

set_option maxRecDepth 100000 in
set_option maxHeartbeats 4000000 in
theorem topBatches_c (q : QuA) (a : RwA) (k st : Int) (Ap : Option Addr) (np cp : Nat) (ps : List Int) (w : World) (hq : QuIn w q) (ha : RwIn w w.heap.size a) (hP : Reads w w.heap.size 1 Ap np (iv ps)) (hnp : np ≤ maxLen) :
    Calls Tryz.prog 3 #[quVal q, rwVal a, .int .i64 k, .slice Ap np cp, .int .i64 st] w fun e w' => e = .returned (.bool true) ∧ Below w.heap.size w w' := by
  show Calls Tryz.prog 3 #[.agg #[.int .i64 q.kind, .int .i64 q.src, .int .i64 q.dst, .slice q.W q.nw q.cw, .int .i64 q.radius, .int .i64 q.most], .agg #[.slice a.A1 a.n1 a.c1, .slice a.A2 a.n2 a.c2, .slice a.A3 a.n3 a.c3, .slice a.A4 a.n4 a.c4], .int .i64 k, .slice Ap np cp, .int .i64 st] w _
  have hx := qbAt_new w q a
  obtain ⟨q0, q1, q2, q3, q4, q5⟩ := hx.qc
  obtain ⟨r0, r1, r2, r3⟩ := hx.rc
  unfold quBox rwBox at q0 q1 q2 q3 q4 q5 r0 r1 r2 r3
  obtain ⟨ws, hwl, hwr, hwm, hws, -, -⟩ := hq
  have HX := Lib.hid hx
  have HA := Lib.hid ha
  have HP := Lib.hid hP
  have HWR := Lib.hid hwr
  have HWM := Lib.hid hwm
  have HWS := Lib.hid hws
  clear hx hwl hwr hwm hws ha hP
  go_enter Tryz.func3, Tryz.ntmps3
  go_wp2_with (fail)
  refine (few_c a _).mono ?_
  rintro e w1 ⟨b, rfl, hb, hB1⟩
  have HX1 := Lib.hid (HX.out.step hB1)
  clear hB1 q0 q1 q2 q3 q4 q5 r0 r1 r2 r3 HX
  rcases b with _ | _
  · clear hb
    go_wp2_with (fail)
    refine (walked_end HX1.out.bel).mono ?_
    rintro e w2 ⟨rfl, hB2⟩
    go_wp2_with (fail)
    go_ret
    exact ⟨rfl, hB2⟩
  have HF := Lib.hid (hb rfl)
  clear hb
  obtain ⟨q0, q1, q2, q3, q4, q5⟩ := HX1.out.qc
  obtain ⟨r0, r1, r2, r3⟩ := HX1.out.rc
  go_wp2_with (fail)
  refine (short_c q.W q.nw q.cw ws _ ((HWR.out.below HX1.out.bel).more HX1.out.bel.size) HWM.out HWS.out).mono ?_
  rintro e w2 ⟨b, rfl, hb, hB2⟩
  have HX2 := Lib.hid (HX1.out.step hB2)
  clear hB2 q0 q1 q2 q3 q4 q5 r0 r1 r2 r3 HX1
  rcases b with _ | _
  · clear hb
    go_wp2_with (fail)
    refine (walked_end HX2.out.bel).mono ?_
    rintro e w3 ⟨rfl, hB3⟩
    go_wp2_with (fail)
    go_ret
    exact ⟨rfl, hB3⟩
  have HW60 := Lib.hid (hb rfl)
  clear hb
  by_cases h1 : 60 < np
  · have h1' : (60 : Int) < (np : Int) := by omega
    go_wp2_with (fail)
    refine (walked_end HX2.out.bel).mono ?_
    rintro e w3 ⟨rfl, hB3⟩
    go_wp2_with (fail)
    go_ret
    exact ⟨rfl, hB3⟩
  have h1' : ¬ (60 : Int) < (np : Int) := by omega
  by_cases h2 : st < 0
  · go_wp2_with (fail)
    refine (walked_end HX2.out.bel).mono ?_
    rintro e w3 ⟨rfl, hB3⟩
    go_wp2_with (fail)
    go_ret
    exact ⟨rfl, hB3⟩
  by_cases h3 : 20 < st
  · go_wp2_with (fail)
    refine (walked_end HX2.out.bel).mono ?_
    rintro e w3 ⟨rfl, hB3⟩
    go_wp2_with (fail)
    go_ret
    exact ⟨rfl, hB3⟩
  obtain ⟨r0, r1, r2, r3⟩ := HX2.out.rc
  go_wp2_with (fail)
  refine (rowsCheck_c a _ (HX2.out.rw_ HA.out)).mono ?_
  rintro e w3 ⟨rfl, hB3⟩
  have HX3 := Lib.hid (HX2.out.step hB3)
  clear hB3 r0 r1 r2 r3 HX2
  by_cases h4 : chkR a.r
  rotate_left
  · rw [decide_eq_false h4]
    clear h4
    go_wp2_with (fail)
    refine (walked_end HX3.out.bel).mono ?_
    rintro e w4 ⟨rfl, hB4⟩
    go_wp2_with (fail)
    go_ret
    exact ⟨rfl, hB4⟩
  rw [decide_eq_true h4]
  have HC := Lib.hid h4
  clear h4
  obtain ⟨q0, q1, q2, q3, q4, q5⟩ := HX3.out.qc
  obtain ⟨r0, r1, r2, r3⟩ := HX3.out.rc
  have hn1 : (a.n1 : Int) - 1 = (a.r.n : Int) := rw_n HA.out HC.out
  have hm1 : a.n1 ≤ maxLen := HA.out.m1
  unfold maxLen at hm1
  go_wp2_with (fail)
  refine (check18_c q (a.r.n : Int) w3 ws ((HWR.out.below HX3.out.bel).more HX3.out.bel.size) HWM.out (fun s hs => by have := HW60.out s hs; omega)).mono ?_
  rintro e w4 ⟨cd, rfl, hcd, hB4⟩
  have HX4 := Lib.hid (HX3.out.step hB4)
  clear hB4 q0 q1 q2 q3 q4 q5 r0 r1 r2 r3 HX3 hm1
  by_cases h5 : cd = 0
  rotate_left
  · clear hcd
    go_wp2_with (fail)
    refine (walked_end HX4.out.bel).mono ?_
    rintro e w5 ⟨rfl, hB5⟩
    go_wp2_with (fail)
    go_ret
    exact ⟨rfl, hB5⟩
  have HQ := Lib.hid (hcd h5)
  subst h5
  clear hcd
  by_cases h6 : k < 1
  · go_wp2_with (fail)
    refine (walked_end HX4.out.bel).mono ?_
    rintro e w5 ⟨rfl, hB5⟩
    go_wp2_with (fail)
    go_ret
    exact ⟨rfl, hB5⟩
  by_cases h7 : 16 < k
  · go_wp2_with (fail)
    refine (walked_end HX4.out.bel).mono ?_
    rintro e w5 ⟨rfl, hB5⟩
    go_wp2_with (fail)
    go_ret
    exact ⟨rfl, hB5⟩
  obtain ⟨kn, rfl⟩ : ∃ kn : Nat, k = (kn : Int) := ⟨k.toNat, by omega⟩
  obtain ⟨sn, rfl⟩ : ∃ sn : Nat, st = (sn : Int) := ⟨st.toNat, by omega⟩
  have hk1 : 1 ≤ kn := by omega
  have hk2 : kn ≤ 16 := by omega
  have hs20 : sn ≤ 20 := by omega
  obtain ⟨q0, q1, q2, q3, q4, q5⟩ := HX4.out.qc
  go_wp2_with (fail)
  refine (start_c q 3 _).mono ?_
  rintro e w5 ⟨A5, k5, c5, rfl, hk5, ho5, hB5⟩
  have HX5 := Lib.hid (HX4.out.step hB5)
  have HR5 := Lib.hid (own_reads ho5)
  have HK5 := Lib.hid hk5
  clear hk5 ho5 hB5 q0 q1 q2 q3 q4 q5 HX4
  obtain ⟨q0, q1, q2, q3, q4, q5⟩ := HX5.out.qc
  go_wp2_with (fail)
  refine (start_c q 3 _).mono ?_
  rintro e w6 ⟨A6, k6, c6, rfl, hk6, ho6, hB6⟩
  have HX6 := Lib.hid (HX5.out.step hB6)
  have HR5' := Lib.hid ((HR5.out.below hB6).more hB6.size)
  have HR6 := Lib.hid (own_reads ho6)
  obtain rfl : k6 = k5 := hk6.trans HK5.out.symm
  have HI := Lib.hid (inv_start HQ.out)
  generalize startM q.kind q.src q.dst 3 = M0 at *
  clear ho6 hB6 q0 q1 q2 q3 q4 q5 HX5 HR5 HK5 hk6
  have hn30 : a.r.n ≤ 29 := by
    have := HF.out.1
    omega
  go_wp2_with (fail)
  have HN1 := Lib.hid hn1
  clear hn1
  go_loopw [15, 11, 12, 13, 14] (fun i v1 v2 v3 v4 wr => ∃ (j : Nat) (S M : List Msg) (A1 A2 A3 A4 : Option Addr) (k1 c1 c2 k3 c3 c4 : Nat), j ≤ sn ∧ i = .int .i64 j ∧ v1 = .slice A1 k1 c1 ∧ v2 = .slice A2 k1 c2 ∧ v3 = .slice A3 k3 c3 ∧ v4 = .slice A4 k3 c4 ∧
      Reads wr wr.heap.size 4 A1 k1 (mv S) ∧ Reads wr wr.heap.size 4 A2 k1 (mv S) ∧ Reads wr wr.heap.size 4 A3 k3 (mv M) ∧ Reads wr wr.heap.size 4 A4 k3 (mv M) ∧ Inv a.r.n j S M ∧ QbAt w q a wr) (fun i _ _ _ _ _ => sn - (intOf i).toNat)
  case atStart => exact ⟨0, [], M0, none, none, A5, A6, 0, 0, 0, k6, c5, c6, Nat.zero_le _, rfl, rfl, rfl, rfl, rfl, Reads.none_, Reads.none_, HR5'.out, HR6.out, HI.out, HX6.out⟩
  case round =>
    obtain ⟨j, S, M, A1, A2, A3, A4, k1, c1, c2, k3, c3, c4, hj, rfl, rfl, rfl, rfl, rfl, hr1, hr2, hr3, hr4, hi, hx⟩ := hrel
    have hk1' : k1 ≤ 58 := by
      have h1 := hr1.mail_len
      have h2 := tm_len hi.s_ hi.sr
      omega
    have hk3' : k3 ≤ 58 := by
      have h1 := hr3.mail_len
      have h2 := tm_len hi.m_ hi.mr
      omega
    have HI1 := Lib.hid hi
    have HX7 := Lib.hid hx
    have HR1 := Lib.hid hr1
    have HR2 := Lib.hid hr2
    have HR3 := Lib.hid hr3
    have HR4 := Lib.hid hr4
    clear hi hx hr1 hr2 hr3 hr4 HI HX6 HR5' HR6
    by_cases hlt : j < sn
    rotate_left
    · obtain rfl : j = sn := by omega
      go_wp2_with (fail)
      refine (walked_end HX7.out.bel).mono ?_
      rintro e w8 ⟨rfl, hB8⟩
      go_wp2_with (fail)
      go_ret
      exact ⟨rfl, hB8⟩
    have f1 : (j : Int) < (sn : Int) := by omega
    have hj2 : j ≤ 200 := by omega
    have hn2 : a.r.n ≤ 200 := by omega
    have HMY := Lib.hid (HI1.out.may hn2 hj2)
    go_wp2_with (fail)
    refine (carried_c A4 k3 c4 kn M _ hk1 hk2 HR4.out (by omega) HMY.out).mono ?_
    rintro e w8 ⟨A8, k8, c8, rfl, ho8, hB8⟩
    have HX8 := Lib.hid (HX7.out.step hB8)
    have HR1' := Lib.hid ((HR1.out.below hB8).more hB8.size)
    have HR2' := Lib.hid ((HR2.out.below hB8).more hB8.size)
    have HR3' := Lib.hid ((HR3.out.below hB8).more hB8.size)
    have HR8 := Lib.hid (own_reads ho8)
    have HPM : Hid ((parted M kn).flatten.Perm M) := parted_permR kn hk1 hk2 M HMY.out
    have hk8 : k8 ≤ 4000 := by
      have h1 := HR8.out.mail_len
      have h2 := HPM.out.length_eq
      have h3 := HR3.out.mail_len
      omega
    have HOK : Hid (stepOk S M (kn : Int) (a.r.n : Int)) := HI1.out.ok hn2 hj2 ⟨by omega, by omega⟩
    have HI2 : Hid (Inv a.r.n (j + 1) (stepS S M) (stepM (nxM q.kind q.radius a.r) S M)) := inv_step HC.out HI1.out
    have HE1 : Hid (stepR q.kind q.radius a.r S M (kn : Int) ((a.n1 : Int) - 1) = (stepS S M, stepM (nxM q.kind q.radius a.r) S M, 0)) := by
      show _ = _
      rw [HN1.out]
      exact stepR_yes HC.out HOK.out
    have HE2 : Hid (stepR q.kind q.radius a.r S (parted M kn).flatten (kn : Int) ((a.n1 : Int) - 1) = (stepS S M, stepM (nxM q.kind q.radius a.r) S M, 0)) := by
      show _ = _
      rw [HN1.out]
      exact stepR_perm HPM.out HC.out HOK.out
    have HFS := Lib.hid (HI1.out.fitS hn2 hj2)
    have HFM := Lib.hid (HI1.out.fitM hn2 hj2)
    have HFZ : Hid (∀ m ∈ (parted M kn).flatten, m.fits) := fun m hm => HFM.out m (HPM.out.mem_iff.1 hm)
    generalize (parted M kn).flatten = Z at *
    clear ho8 hB8 HX7 HR1 HR2 HR3 HR4 HOK HPM HMY
    obtain ⟨q0, q1, q2, q3, q4, q5⟩ := HX8.out.qc
    obtain ⟨r0, r1, r2, r3⟩ := HX8.out.rc
    go_wp2_with (fail)
    refine (stepP_c q a A1 A3 k1 c1 k3 c3 (kn : Int) S M w8 Ap np cp ps (HX8.out.rw_ HA.out) HR1'.out HR3'.out ((HP.out.below HX8.out.bel).more HX8.out.bel.size) (by omega) (by omega) hnp HFS.out HFM.out).mono ?_
    rw [HE1.out]
    rintro e w9 ⟨A9, k9, c9, A10, k10, c10, rfl, ho9, ho10, hB9⟩
    have HX9 := Lib.hid (HX8.out.step hB9)
    have HR2 := Lib.hid ((HR2'.out.below hB9).more hB9.size)
    have HR8' := Lib.hid ((HR8.out.below hB9).more hB9.size)
    have HR9 := Lib.hid (own_reads ho9)
    have HR10 := Lib.hid (own_reads ho10)
    clear ho9 ho10 hB9 HX8 HR1' HR2' HR3' HR8 q0 q1 q2 q3 q4 q5 r0 r1 r2 r3 HE1
    obtain ⟨q0, q1, q2, q3, q4, q5⟩ := HX9.out.qc
    obtain ⟨r0, r1, r2, r3⟩ := HX9.out.rc
    go_wp2_with (fail)
    refine (stepP_c q a A2 A8 k1 c2 k8 c8 (kn : Int) S Z w9 none 0 0 [] (HX9.out.rw_ HA.out) HR2.out HR8'.out Reads.none_ (by omega) (by omega) (by unfold maxLen; omega) HFS.out HFZ.out).mono ?_
    rw [HE2.out]
    rintro e w10 ⟨A11, k11, c11, A12, k12, c12, rfl, ho11, ho12, hB10⟩
    have HX10 := Lib.hid (HX9.out.step hB10)
    have HR9' := Lib.hid ((HR9.out.below hB10).more hB10.size)
    have HR10' := Lib.hid ((HR10.out.below hB10).more hB10.size)
    have HR11 := Lib.hid (own_reads ho11)
    have HR12 := Lib.hid (own_reads ho12)
    clear ho11 ho12 hB10 HX9 HR2 HR8' HR9 HR10 q0 q1 q2 q3 q4 q5 r0 r1 r2 r3 HE2
    generalize stepM (nxM q.kind q.radius a.r) S M = M' at *
    generalize stepS S M = S' at *
    simp only at HR9' HR10' HR11 HR12
    obtain rfl : k11 = k9 := HR11.out.mail_len.symm.trans HR9'.out.mail_len
    obtain rfl : k12 = k10 := HR12.out.mail_len.symm.trans HR10'.out.mail_len
    have hk11 : k11 ≤ 58 := by
      have h1 := HR11.out.mail_len
      have h2 := tm_len HI2.out.s_ HI2.out.sr
      omega
    have hk12 : k12 ≤ 58 := by
      have h1 := HR12.out.mail_len
      have h2 := tm_len HI2.out.m_ HI2.out.mr
      omega
    clear HI1 HFS HFM HFZ
    simp only
    go_wp2_with (fail)
    go_loopw [24] (fun i wr => ∃ u : Nat, u ≤ k11 ∧ i = .int .i64 u ∧ Below w10.heap.size w10 wr) (fun i _ => k11 - (intOf i).toNat)
    case atStart => exact ⟨0, Nat.zero_le _, rfl, Below.refl _ _⟩
    case round =>
      obtain ⟨u, hu, rfl, hB⟩ := hrel
      by_cases hlu : u < k11
      · obtain ⟨a1, o1, x, rfl, hx, hc10, hc11, hc12, hc13⟩ := (HR9'.out.below hB).mail_at hlu
        obtain ⟨a2, o2, y, rfl, hy, hc20, hc21, hc22, hc23⟩ := (HR11.out.below hB).mail_at hlu
        obtain rfl : x = y := by
          have h1 := hx.out
          rw [hy.out] at h1
          injection h1 with h1
          exact h1.symm
        have HBU := Lib.hid hB
        clear hB hx hy
        go_wp2_with (fail)
        go_quiet (fail)
        go_wp2
        go_roundw
        case rel => exact ⟨u + 1, by omega, by go_num, below_drewN HBU.out _⟩
        case measure => simp [intOf]; omega
      · obtain rfl : u = k11 := by omega
        have HXU := Lib.hid (HX10.out.step hB)
        have HS1 := Lib.hid ((HR9'.out.below hB).more hB.size)
        have HS2 := Lib.hid ((HR11.out.below hB).more hB.size)
        have HM1 := Lib.hid ((HR10'.out.below hB).more hB.size)
        have HM2 := Lib.hid ((HR12.out.below hB).more hB.size)
        clear hB HX10 HR9' HR10' HR11 HR12
        go_wp2_with (fail)
        go_loopw [25] (fun i w' => ∃ u : Nat, u ≤ k12 ∧ i = .int .i64 u ∧ Below wr.heap.size wr w') (fun i _ => k12 - (intOf i).toNat)
        case atStart => exact ⟨0, Nat.zero_le _, rfl, Below.refl _ _⟩
        case round =>
          obtain ⟨u, hu, rfl, hB⟩ := hrel
          by_cases hlu : u < k12
          · obtain ⟨a1, o1, x, rfl, hx, hc10, hc11, hc12, hc13⟩ := (HM1.out.below hB).mail_at hlu
            obtain ⟨a2, o2, y, rfl, hy, hc20, hc21, hc22, hc23⟩ := (HM2.out.below hB).mail_at hlu
            obtain rfl : x = y := by
              have h1 := hx.out
              rw [hy.out] at h1
              injection h1 with h1
              exact h1.symm
            have HBU := Lib.hid hB
            clear hB hx hy
            go_wp2_with (fail)
            go_quiet (fail)
            go_wp2
            go_roundw
            case rel => exact ⟨u + 1, by omega, by go_num, below_drewN HBU.out _⟩
            case measure => simp [intOf]; omega
          · obtain rfl : u = k12 := by omega
            have HXV := Lib.hid (HXU.out.step hB)
            have HT1 := Lib.hid ((HS1.out.below hB).more hB.size)
            have HT2 := Lib.hid ((HS2.out.below hB).more hB.size)
            have HN1' := Lib.hid ((HM1.out.below hB).more hB.size)
            have HN2' := Lib.hid ((HM2.out.below hB).more hB.size)
            clear hB HXU HS1 HS2 HM1 HM2
            go_wp2_with (fail)
            go_roundw
            case rel => exact ⟨j + 1, S', M', A9, A11, A10, A12, _, c9, c11, _, c10, c12, by omega, by go_num, rfl, rfl, rfl, rfl, HT1.out, HT2.out, HN1'.out, HN2'.out, HI2.out, HXV.out⟩
            case measure => simp [intOf]; omega
end Go.Proofs.YtichoidkemeibaaGreat
