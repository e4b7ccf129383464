/-
  RoundGrows: the walk of the law.
-/
import Derived.Test.YtichoidkemeibaaGreatJ21
import Derived.Test.YtichoidkemeibaaGreatJ22
import Derived.Test.YtichoidkemeibaaGreatJ26
namespace Go.Proofs.YtichoidkemeibaaGreat
open Go.RowKit

set_option maxRecDepth 100000 in
set_option maxHeartbeats 2000000 in
theorem in19_c (A : Option Addr) (n c : Nat) (S : List Msg) (y : Msg) (w : World) (hr : Reads w w.heap.size 4 A n (mv S)) (hn : n ≤ maxLen) :
    Calls Tryz.prog 29 #[.slice A n c, .agg #[.int .i64 y.slot, .int .i64 y.dir, .int .i64 y.v, .int .i64 y.d]] w fun e w' => e = .returned (.bool (decide (y ∈ S))) ∧ Below w.heap.size w w' := by
  have hl := Lib.hid hr.mail_len
  unfold maxLen at hn
  have HR := Lib.hid hr
  clear hr
  go_enter Tryz.func29, Tryz.ntmps29
  go_wp2_with (fail)
  go_loopw [5] (fun i wr => ∃ j : Nat, j ≤ n ∧ i = .int .i64 j ∧ Hid (∀ z ∈ S.take j, z ≠ y) ∧ Below w.heap.size w wr ∧ wr.heap[w.heap.size]? = some (.cells #[.int .i64 y.slot, .int .i64 y.dir, .int .i64 y.v, .int .i64 y.d] 43 (0, 0))) (fun i _ => n - (intOf i).toNat)
  case atStart => exact ⟨0, Nat.zero_le _, rfl, fun z hz => by simp at hz, below_one _ _, Array.getElem?_push_size⟩
  case round =>
    obtain ⟨j, hj, rfl, hT, hB, hbx⟩ := hrel
    by_cases hlt : j < n
    · obtain ⟨b, o, x, rfl, hx, c0, c1, c2, c3⟩ := (HR.out.below hB).mail_at hlt
      obtain ⟨d0, d1, d2, d3⟩ := state_box hbx
      have HX := Lib.hid hx.out
      have HB := Lib.hid hB
      have HBX := Lib.hid hbx
      clear hx hB hbx
      have f1 : (0 : Int) ≤ (j : Int) := by omega
      have f2 : (j : Int) < (n : Int) := by omega
      by_cases hxy : x = y
      · subst hxy
        have hf : Hid (decide (x ∈ S) = true) := decide_eq_true (List.mem_of_getElem? HX.out)
        go_wp2_with (fail)
        go_quiet (fail)
        rename_i nq
        have HB2 := Lib.hid (below_drewN HB.out nq)
        generalize wr.drewN nq = w2 at *
        clear c0 c1 c2 c3 d0 d1 d2 d3
        go_wp2_with (fail)
        go_ret
        exact ⟨ret_bool hf.out.symm, HB2.out⟩
      · have hrun := run_eql_state x y hxy
        have hT' : Hid (∀ z ∈ S.take (j + 1), z ≠ y) := fun z hz => by
          rw [List.take_add_one, HX.out, Option.toList_some] at hz
          rcases List.mem_append.1 hz with hz | hz
          · exact hT.out z hz
          · rw [List.mem_singleton.1 hz]; exact hxy
        clear hxy
        go_wp2_with (fail)
        go_quiet (fail)
        rename_i nq
        have HB2 := Lib.hid (below_drewN HB.out nq)
        have HBX2 : Hid ((wr.drewN nq).heap[w.heap.size]? = some (.cells #[.int .i64 y.slot, .int .i64 y.dir, .int .i64 y.v, .int .i64 y.d] 43 (0, 0))) := HBX.out
        generalize wr.drewN nq = w2 at *
        clear c0 c1 c2 c3 d0 d1 d2 d3 hrun
        go_wp2_with (fail)
        go_roundw
        case rel => exact ⟨j + 1, by omega, by go_num, hT', HB2.out, HBX2.out⟩
        case measure => simp [intOf]; omega
    · obtain rfl : j = n := by omega
      have hf : Hid (decide (y ∈ S) = false) := decide_eq_false fun hy => hT.out y (by
        rw [List.take_of_length_le (by rw [hl.out]; exact Nat.le_refl _)]
        exact hy) rfl
      go_wp2_with (fail)
      go_ret
      exact ⟨ret_bool hf.out.symm, hB⟩

/-- What a step's states and messages are good for. -/
structure Grown (kind radius : Int) (r : Rws) (S M S' M' : List Msg) : Prop where
  old : ∀ x ∈ S, x ∈ S'
  new : ∀ x ∈ freshL S M, x ∈ S'
  mem : ∀ x ∈ S', x ∈ S ∨ x ∈ freshL S M
  sent : ∀ x ∈ M', ∃ y ∈ freshL S M, x ∈ nxM kind radius r y
  len : S'.length = S.length + (freshL S M).length
  right : rightR S'
  again : freshL S' M' = M'
  fS : ∀ x ∈ S', x.fits
  fM : ∀ x ∈ M', x.fits
  sl : S'.length ≤ S.length + M.length
  ml : M'.length ≤ M.length * 200
theorem fresh_len (S M : List Msg) : (freshL S M).length ≤ M.length := by
  have h1 : (freshL S M).length ≤ (combine M).length := List.length_filter_le _ _
  have h2 := combine_lenR M
  omega
theorem grown_step {kind radius : Int} {r : Rws} {S M : List Msg} {k : Int} (hc : chkR r) (hok : stepOk S M k (r.n : Int)) : Grown kind radius r S M (stepS S M) (stepM (nxM kind radius r) S M) := by
  have hi := stepS_is M hok.1.2
  have hg : ∀ y ∈ freshL S M, mayM y ∧ y.v < (r.n : Int) := fun y hy => ⟨hok.2.1 y (freshL_mem hy), hok.2.2.1 y (freshL_mem hy)⟩
  have hm : ∀ x ∈ stepS S M, mayM x := fun x hx => by
    rcases (hi.2.1 x).1 hx with h | h
    · exact (hok.1.1 x h).1
    · exact (hg x h).1
  have hs : ∀ x ∈ stepM (nxM kind radius r) S M, ∃ y ∈ freshL S M, x ∈ nxM kind radius r y := fun x hx => List.mem_flatMap.1 (freshL_mem hx)
  have hl : (freshL S M).length ≤ M.length := fresh_len S M
  refine ⟨fun x hx => (hi.2.1 x).2 (.inl hx), fun x hx => (hi.2.1 x).2 (.inr hx), fun x hx => (hi.2.1 x).1 hx, hs, hi.2.2, ⟨hm, hi.1⟩, freshL_twice _ _, fun x hx => may_fits (hm x hx), fun x hx => ?_, by omega, ?_⟩
  · obtain ⟨y, hy, hxy⟩ := hs x hx
    exact nx_fits hc (hg y hy).1 (hg y hy).2 x hxy
  · have h1 : (stepM (nxM kind radius r) S M).length ≤ _ := fresh_len (stepS S M) ((freshL S M).flatMap (nxM kind radius r))
    have h2 := flat_nx_len (kind := kind) (radius := radius) hc (freshL S M) (fun y hy => ⟨(hg y hy).1.1.2.2.1, (hg y hy).2⟩)
    omega

set_option maxRecDepth 100000 in
set_option maxHeartbeats 4000000 in
theorem roundGrows_c (q : QuA) (a : RwA) (As Am Ap : Option Addr) (ns cs nm cm np cp : Nat) (k : Int) (S M : List Msg) (ps : List Int) (w : World) (hq : QuIn w q) (ha : RwIn w w.heap.size a) (hS : Reads w w.heap.size 4 As ns (mv S)) (hM : Reads w w.heap.size 4 Am nm (mv M)) (hP : Reads w w.heap.size 1 Ap np (iv ps))
    (hns : ns ≤ maxLen) (hnm : nm ≤ maxLen) (hnp : np ≤ maxLen) (fS : ∀ m ∈ S, m.fits) (fM : ∀ m ∈ M, m.fits) :
    Calls Tryz.prog 6 #[quVal q, rwVal a, .slice As ns cs, .slice Am nm cm, .int .i64 k, .slice Ap np cp] w fun e w' => e = .returned (.bool true) ∧ Below w.heap.size w w' := by
  show Calls Tryz.prog 6 #[.agg #[.int .i64 q.kind, .int .i64 q.src, .int .i64 q.dst, .slice q.W q.nw q.cw, .int .i64 q.radius, .int .i64 q.most], .agg #[.slice a.A1 a.n1 a.c1, .slice a.A2 a.n2 a.c2, .slice a.A3 a.n3 a.c3, .slice a.A4 a.n4 a.c4], .slice As ns cs, .slice Am nm cm, .int .i64 k, .slice Ap np cp] w _
  have hx := qbAt_new w q a
  obtain ⟨q0, q1, q2, q3, q4, q5⟩ := hx.qc
  obtain ⟨r0, r1, r2, r3⟩ := hx.rc
  unfold quBox rwBox at q0 q1 q2 q3 q4 q5 r0 r1 r2 r3
  have HX := Lib.hid hx
  have HQ := Lib.hid hq
  have HA := Lib.hid ha
  have HS := Lib.hid hS
  have HM := Lib.hid hM
  have HP := Lib.hid hP
  have HFS := Lib.hid fS
  have HFM := Lib.hid fM
  have HLS := Lib.hid hS.mail_len
  have HLM := Lib.hid hM.mail_len
  clear hx hq ha hS hM hP fS fM
  go_enter Tryz.func6, Tryz.ntmps6
  go_wp2_with (fail)
  refine (far_c q a As Am Ap ns cs nm cm np cp _ (HQ.out.below HX.out.bel) (HX.out.rw_ HA.out) hns hnm hnp).mono ?_
  rintro e w1 ⟨b, rfl, hB1, hb⟩
  have HX1 := Lib.hid (HX.out.step hB1)
  clear hB1 q0 q1 q2 q3 q4 q5 r0 r1 r2 r3 HX
  rcases b with _ | _
  rotate_left
  · clear hb
    go_wp2_with (fail)
    go_ret
    exact ⟨rfl, HX1.out.bel⟩
  obtain ⟨h1, h2, h3⟩ := hb rfl
  clear hb
  obtain ⟨q0, q1, q2, q3, q4, q5⟩ := HX1.out.qc
  obtain ⟨r0, r1, r2, r3⟩ := HX1.out.rc
  go_wp2_with (fail)
  refine (stepP_c q a As Am ns cs nm cm k S M _ Ap np cp ps (HX1.out.rw_ HA.out) ((HS.out.below HX1.out.bel).more HX1.out.bel.size) ((HM.out.below HX1.out.bel).more HX1.out.bel.size) ((HP.out.below HX1.out.bel).more HX1.out.bel.size) (by omega) (by omega) hnp HFS.out HFM.out).mono ?_
  rintro e w2 ⟨A1, k1, c1, A2, k2, c2, rfl, ho1, ho2, hB2⟩
  have HX2 := Lib.hid (HX1.out.step hB2)
  have hr1 := own_reads ho1
  have hr2 := own_reads ho2
  clear hB2 ho1 ho2 q0 q1 q2 q3 q4 q5 r0 r1 r2 r3 HX1
  by_cases hok : chkR a.r ∧ stepOk S M k ((a.n1 : Int) - 1)
  rotate_left
  · rw [stepR_no hok] at hr1 hr2 ⊢
    have hl1 : 0 = k1 := hr1.mail_len
    have hl2 : 0 = k2 := hr2.mail_len
    subst hl1 hl2
    have hcode : ((if chkR a.r then (1 : Int) else 40) == 0) = false := by split <;> rfl
    have hcode2 : ((if chkR a.r then (1 : Int) else 40) != 0) = true := by split <;> rfl
    simp only
    generalize (if chkR a.r then (1 : Int) else 40) = code at hcode hcode2 ⊢
    clear hr1 hr2 hok
    go_wp2_with (fail)
    refine (rounds_c _).mono ?_
    rintro e w3 ⟨rfl, hB3⟩
    have HX3 := Lib.hid (HX2.out.step hB3)
    clear hB3 HX2
    go_wp2_with (fail)
    go_ret
    exact ⟨rfl, HX3.out.bel⟩
  rw [stepR_yes hok.1 hok.2] at hr1 hr2 ⊢
  simp only at hr1 hr2 ⊢
  have hgr := grown_step (kind := q.kind) (radius := q.radius) hok.1 (by have h := rw_n HA.out hok.1; rw [h] at hok; exact hok.2)
  have hl1 := hr1.mail_len
  have hl2 := hr2.mail_len
  have hk1 : k1 ≤ 120 := by have h4 := hgr.sl; have h5 := HLS.out; have h6 := HLM.out; omega
  have hk2 : k2 ≤ 12000 := by have h4 := hgr.ml; have h6 := HLM.out; omega
  have HL1 := Lib.hid hl1
  clear hl1 hl2
  generalize stepS S M = S' at *
  generalize stepM (nxM q.kind q.radius a.r) S M = M' at *
  have HGR := Lib.hid hgr
  have HR1 := Lib.hid hr1
  have HR2 := Lib.hid hr2
  clear hgr hr1 hr2 hok
  go_wp2_with (fail)
  refine (fresh_c As Am ns cs nm cm S M _ ((HS.out.below HX2.out.bel).more HX2.out.bel.size) ((HM.out.below HX2.out.bel).more HX2.out.bel.size) (by omega) (by omega) HFS.out HFM.out).mono ?_
  rintro e w3 ⟨A3, k3, c3, rfl, hk3, ho3, hB3⟩
  have HX3 := Lib.hid (HX2.out.step hB3)
  have HR1' := Lib.hid ((HR1.out.below hB3).more hB3.size)
  have HR2' := Lib.hid ((HR2.out.below hB3).more hB3.size)
  have HR3 := Lib.hid (own_reads ho3)
  have HK3 := Lib.hid hk3
  have hk3' : k3 ≤ 60 := by have h4 := fresh_len S M; have h6 := HLM.out; omega
  clear hB3 ho3 hk3 HX2 HR1 HR2
  go_wp2_with (fail)
  go_loopw [17] (fun i wr => ∃ j : Nat, j ≤ ns ∧ i = .int .i64 j ∧ Below w3.heap.size w3 wr) (fun i _ => ns - (intOf i).toNat)
  case atStart => exact ⟨0, Nat.zero_le _, rfl, Below.refl _ _⟩
  case round =>
    obtain ⟨j, hj, rfl, hB⟩ := hrel
    by_cases hlt : j < ns
    · obtain ⟨b, o, x, rfl, hx, c0, c1', c2', c3'⟩ := (HS.out.below (HX3.out.step hB).bel).mail_at hlt
      have hin : Hid (decide (x ∈ S') = true) := decide_eq_true (HGR.out.old x (List.mem_of_getElem? hx.out))
      have HB := Lib.hid hB
      have f1 : (0 : Int) ≤ (j : Int) := by omega
      have f2 : (j : Int) < (ns : Int) := by omega
      clear hx hB
      go_wp2_with (fail)
      refine (in19_c A1 k1 c1 S' x _ ((HR1'.out.below HB.out).more HB.out.size) (by unfold maxLen; omega)).mono ?_
      rintro e w4 ⟨rfl, hB4⟩
      rw [hin.out]
      have HB4 := Lib.hid (HB.out.trans (hB4.mono HB.out.size))
      clear hB4 c0 c1' c2' c3' HB
      go_wp2_with (fail)
      go_roundw
      case rel => exact ⟨j + 1, by omega, by go_num, HB4.out⟩
      case measure => simp [intOf]; omega
    · obtain rfl : ns = j := by omega
      have HX4 := Lib.hid (HX3.out.step hB)
      have HR1 := Lib.hid ((HR1'.out.below hB).more hB.size)
      have HR2 := Lib.hid ((HR2'.out.below hB).more hB.size)
      have HR4 := Lib.hid ((HR3.out.below hB).more hB.size)
      obtain ⟨w5, rfl⟩ : ∃ w5 : World, w5 = wr := ⟨_, rfl⟩
      clear hB HX3 HR1' HR2' HR3
      go_wp2_with (fail)
      go_loopw [18] (fun i wr => ∃ j : Nat, j ≤ k3 ∧ i = .int .i64 j ∧ Below w5.heap.size w5 wr) (fun i _ => k3 - (intOf i).toNat)
      case atStart => exact ⟨0, Nat.zero_le _, rfl, Below.refl _ _⟩
      case round =>
        obtain ⟨i, hi, rfl, hB⟩ := hrel
        by_cases hlt2 : i < k3
        · obtain ⟨b, o, x, rfl, hx, c0, c1', c2', c3'⟩ := (HR4.out.below hB).mail_at hlt2
          have hin : Hid (decide (x ∈ S') = true) := decide_eq_true (HGR.out.new x (List.mem_of_getElem? hx.out))
          have HB := Lib.hid hB
          have f1 : (0 : Int) ≤ (i : Int) := by omega
          have f2 : (i : Int) < (k3 : Int) := by omega
          clear hx hB
          have HIN : Hid (Calls Tryz.prog 29 #[.slice A1 k1 c1, .agg #[.int .i64 x.slot, .int .i64 x.dir, .int .i64 x.v, .int .i64 x.d]] wr.drew fun e w' => e = .returned (.bool true) ∧ Below wr.heap.size wr w') :=
            (in19_c A1 k1 c1 S' x wr.drew ((HR1.out.below HB.out.drew).more HB.out.size) (by unfold maxLen; omega)).mono fun e w' ⟨h1, h2⟩ => ⟨by rw [h1, hin.out], ((Below.refl wr.heap.size wr).drew).trans h2⟩
          go_wp2_with (fail)
          go_region_law (go_simp; go_at_call 29; refine Calls.mono HIN.out ?_; rintro e w6 ⟨rfl, hB6⟩)
          all_goals
            have HB6 := Lib.hid (HB.out.trans (hB6.mono HB.out.size))
            clear hB6 c0 c1' c2' c3' HB
            go_wp2_with (fail)
            go_roundw
            case rel => exact ⟨i + 1, by omega, by go_num, HB6.out⟩
            case measure => simp [intOf]; omega
        · obtain rfl : k3 = i := by omega
          have HX5 := Lib.hid (HX4.out.step hB)
          have HR1' := Lib.hid ((HR1.out.below hB).more hB.size)
          have HR2' := Lib.hid ((HR2.out.below hB).more hB.size)
          clear hB HX4 HR1 HR2 HR4
          have hlen : (k1 : Int) = (ns : Int) + (k3 : Int) := by have h4 := HGR.out.len; have h5 := HLS.out; have h6 := HL1.out; have h7 := HK3.out; omega
          have hleq : ((k1 : Int) == (ns : Int) + (k3 : Int)) = true := by simpa using hlen
          clear hlen
          go_wp2_with (fail)
          refine (rounds_c _).mono ?_
          rintro e w7 ⟨rfl, hB7⟩
          have HX7 := Lib.hid (HX5.out.step hB7)
          have HR1 := Lib.hid ((HR1'.out.below hB7).more hB7.size)
          have HR2 := Lib.hid ((HR2'.out.below hB7).more hB7.size)
          clear hB7 HX5 HR1' HR2'
          go_wp2_with (fail)
          refine (right19_c A1 k1 c1 S' _ HR1.out (by omega)).mono ?_
          rintro e w8 ⟨rfl, hB8⟩
          rw [decide_eq_true HGR.out.right]
          have HX8 := Lib.hid (HX7.out.step hB8)
          have HR1' := Lib.hid ((HR1.out.below hB8).more hB8.size)
          have HR2' := Lib.hid ((HR2.out.below hB8).more hB8.size)
          clear hB8 HX7 HR1 HR2
          go_wp2_with (fail)
          refine (fresh_c A1 A2 k1 c1 k2 c2 S' M' _ HR1'.out HR2'.out (by omega) (by omega) HGR.out.fS HGR.out.fM).mono ?_
          rintro e w9 ⟨A5, k5, c5, rfl, hk5, ho5, hB9⟩
          have m5 := own_max ho5
          have hr5 := own_reads ho5
          rw [HGR.out.again] at hr5
          have HR5 := Lib.hid hr5
          have HX9 := Lib.hid (HX8.out.step hB9)
          have HR2 := Lib.hid ((HR2'.out.below hB9).more hB9.size)
          clear hB9 hk5 ho5 hr5 HX8 HR1' HR2'
          go_wp2_with (fail)
          refine (same16_c A5 A2 k5 k2 c5 c2 M' M' _ HR5.out HR2.out m5 (by unfold maxLen; omega)).mono ?_
          rintro e w10 ⟨rfl, hB10⟩
          rw [show decide (M' = M') = true from decide_eq_true rfl]
          have HX10 := Lib.hid (HX9.out.step hB10)
          clear hB10 HX9 HR5 HR2
          go_wp2_with (fail)
          go_ret
          exact ⟨rfl, HX10.out.bel⟩
end Go.Proofs.YtichoidkemeibaaGreat
