/-
  RoundSlots: the walk of the law.
-/
import Derived.Test.YtichoidkemeibaaGreatLawRoundGrowsJ
namespace Go.Proofs.YtichoidkemeibaaGreat
open Go.RowKit

def inSlot (sl : Int) (x : Msg) : Bool := decide (x.slot = sl)
theorem cnt_snoc (sl : Int) (l : List Msg) (j : Nat) (x : Msg) (h : l[j]? = some x) : (l.take (j + 1)).countP (inSlot sl) = (l.take j).countP (inSlot sl) + if x.slot = sl then 1 else 0 := by
  rw [List.take_add_one, h, Option.toList_some, List.countP_append]
  unfold inSlot
  by_cases hs : x.slot = sl
  · simp [hs]
  · simp [hs]
theorem nx_slot {kind radius : Int} {r : Rws} {x y : Msg} (h : y ∈ nxM kind radius r x) : y.slot = x.slot := by
  unfold nxM at h
  split at h
  · simp at h
  · obtain ⟨u, _, rfl⟩ := List.mem_map.1 h
    rfl
theorem nodup_of_rise {l : List Msg} (h : l.Pairwise kless) : l.Nodup := h.imp fun {a b} hk e => by subst e; exact kless_irrefl _ hk
/-- A slot that has no message. -/
theorem slot_keeps {S M : List Msg} {sl : Int} (hS : S.Pairwise kless) (hM : ∀ m ∈ M, m.slot ≠ sl) : (stepS S M).countP (inSlot sl) = S.countP (inSlot sl) := by
  have hi := stepS_is M hS
  have hf : ∀ m ∈ freshL S M, m.slot ≠ sl := fun m hm => hM m (freshL_mem hm)
  have hn : (S ++ freshL S M).Nodup := by
    refine List.nodup_append.2 ⟨nodup_of_rise hS, nodup_of_rise (freshL_rise S M), fun a ha b hb e => ?_⟩
    subst e
    exact freshL_fresh S M a hb a ha (kEq_refl a)
  have hp : (stepS S M).Perm (S ++ freshL S M) := (List.perm_ext_iff_of_nodup (nodup_of_rise hi.1) hn).2 fun a => by rw [hi.2.1, List.mem_append]
  rw [hp.countP_eq, List.countP_append]
  have : (freshL S M).countP (inSlot sl) = 0 := by
    rw [List.countP_eq_zero]
    intro a ha
    unfold inSlot
    simpa using hf a ha
  omega

set_option maxRecDepth 100000 in
set_option maxHeartbeats 4000000 in
theorem roundSlots_c (q : QuA) (a : RwA) (As Am Ap : Option Addr) (ns cs nm cm np cp : Nat) (k sl : Int) (S M : List Msg) (ps : List Int) (w : World) (hq : QuIn w q) (ha : RwIn w w.heap.size a) (hS : Reads w w.heap.size 4 As ns (mv S)) (hM : Reads w w.heap.size 4 Am nm (mv M)) (hP : Reads w w.heap.size 1 Ap np (iv ps))
    (hns : ns ≤ maxLen) (hnm : nm ≤ maxLen) (hnp : np ≤ maxLen) (fS : ∀ m ∈ S, m.fits) (fM : ∀ m ∈ M, m.fits) :
    Calls Tryz.prog 7 #[quVal q, rwVal a, .slice As ns cs, .slice Am nm cm, .int .i64 k, .slice Ap np cp, .int .i64 sl] w fun e w' => e = .returned (.bool true) ∧ Below w.heap.size w w' := by
  show Calls Tryz.prog 7 #[.agg #[.int .i64 q.kind, .int .i64 q.src, .int .i64 q.dst, .slice q.W q.nw q.cw, .int .i64 q.radius, .int .i64 q.most], .agg #[.slice a.A1 a.n1 a.c1, .slice a.A2 a.n2 a.c2, .slice a.A3 a.n3 a.c3, .slice a.A4 a.n4 a.c4], .slice As ns cs, .slice Am nm cm, .int .i64 k, .slice Ap np cp, .int .i64 sl] w _
  have hx := qbAt_new w q a
  obtain ⟨q0, q1, q2, q3, q4, q5⟩ := hx.qc
  obtain ⟨r0, r1, r2, r3⟩ := hx.rc
  unfold quBox rwBox at q0 q1 q2 q3 q4 q5 r0 r1 r2 r3
  have HX := Lib.hid hx
  have HQ := Lib.hid hq
  have HA := Lib.hid ha
  have HS := Lib.hid hS
  have HM := Lib.hid hM
  have HP := Lib.hid hP
  have HFS := Lib.hid fS
  have HFM := Lib.hid fM
  have HLS := Lib.hid hS.mail_len
  have HLM := Lib.hid hM.mail_len
  clear hx hq ha hS hM hP fS fM
  go_enter Tryz.func7, Tryz.ntmps7
  go_wp2_with (fail)
  refine (far_c q a As Am Ap ns cs nm cm np cp _ (HQ.out.below HX.out.bel) (HX.out.rw_ HA.out) hns hnm hnp).mono ?_
  rintro e w1 ⟨b, rfl, hB1, hb⟩
  have HX1 := Lib.hid (HX.out.step hB1)
  clear hB1 q0 q1 q2 q3 q4 q5 r0 r1 r2 r3 HX
  rcases b with _ | _
  rotate_left
  · clear hb
    go_wp2_with (fail)
    go_ret
    exact ⟨rfl, HX1.out.bel⟩
  obtain ⟨h1, h2, h3⟩ := hb rfl
  clear hb
  obtain ⟨q0, q1, q2, q3, q4, q5⟩ := HX1.out.qc
  obtain ⟨r0, r1, r2, r3⟩ := HX1.out.rc
  go_wp2_with (fail)
  refine (stepP_c q a As Am ns cs nm cm k S M _ Ap np cp ps (HX1.out.rw_ HA.out) ((HS.out.below HX1.out.bel).more HX1.out.bel.size) ((HM.out.below HX1.out.bel).more HX1.out.bel.size) ((HP.out.below HX1.out.bel).more HX1.out.bel.size) (by omega) (by omega) hnp HFS.out HFM.out).mono ?_
  rintro e w2 ⟨A1, k1, c1, A2, k2, c2, rfl, ho1, ho2, hB2⟩
  have HX2 := Lib.hid (HX1.out.step hB2)
  have hr1 := own_reads ho1
  have hr2 := own_reads ho2
  clear hB2 ho1 ho2 q0 q1 q2 q3 q4 q5 r0 r1 r2 r3 HX1
  by_cases hok : chkR a.r ∧ stepOk S M k ((a.n1 : Int) - 1)
  rotate_left
  · rw [stepR_no hok] at hr1 hr2 ⊢
    have hcode2 : ((if chkR a.r then (1 : Int) else 40) != 0) = true := by split <;> rfl
    have hcode : ((if chkR a.r then (1 : Int) else 40) == 0) = false := by split <;> rfl
    simp only
    generalize (if chkR a.r then (1 : Int) else 40) = code at hcode hcode2 ⊢
    clear hr1 hr2 hok
    go_wp2_with (fail)
    refine (rounds_c _).mono ?_
    rintro e w3 ⟨rfl, hB3⟩
    have HX3 := Lib.hid (HX2.out.step hB3)
    clear hB3 HX2
    go_wp2_with (fail)
    go_ret
    exact ⟨rfl, HX3.out.bel⟩
  rw [stepR_yes hok.1 hok.2] at hr1 hr2 ⊢
  simp only at hr1 hr2 ⊢
  have hgr := grown_step (kind := q.kind) (radius := q.radius) hok.1 (by have h := rw_n HA.out hok.1; rw [h] at hok; exact hok.2)
  have hsk : (∀ m ∈ M, m.slot ≠ sl) → (stepS S M).countP (inSlot sl) = S.countP (inSlot sl) := slot_keeps hok.2.1.2
  have hl1 := hr1.mail_len
  have hl2 := hr2.mail_len
  have hk1 : k1 ≤ 120 := by have h4 := hgr.sl; have h5 := HLS.out; have h6 := HLM.out; omega
  have hk2 : k2 ≤ 12000 := by have h4 := hgr.ml; have h6 := HLM.out; omega
  have HL1 := Lib.hid hl1
  have HL2 := Lib.hid hl2
  clear hl1 hl2
  generalize stepS S M = S' at *
  generalize stepM (nxM q.kind q.radius a.r) S M = M' at *
  have HGR := Lib.hid hgr
  have HSK := Lib.hid hsk
  have HR1 := Lib.hid hr1
  have HR2 := Lib.hid hr2
  clear hgr hr1 hr2 hok hsk
  go_wp2_with (fail)
  go_loopw [18] (fun i wr => ∃ j : Nat, j ≤ nm ∧ i = .int .i64 j ∧ Hid (∀ m ∈ M.take j, m.slot ≠ sl) ∧ wr = w2) (fun i _ => nm - (intOf i).toNat)
  case atStart => exact ⟨0, Nat.zero_le _, rfl, fun m hm => by simp at hm, rfl⟩
  case round =>
    obtain ⟨j, hj, rfl, hT, rfl⟩ := hrel
    by_cases hlt : j < nm
    · obtain ⟨b, o, x, rfl, hx, d0, d1, d2, d3⟩ := (HM.out.below HX2.out.bel).mail_at hlt
      have HX' := Lib.hid hx.out
      have f1 : (0 : Int) ≤ (j : Int) := by omega
      have f2 : (j : Int) < (nm : Int) := by omega
      clear hx
      by_cases hsl : x.slot = sl
      · have g1 : (x.slot == sl) = true := by simpa using hsl
        clear hsl
        go_wp2_with (fail)
        refine (rounds_c _).mono ?_
        rintro e w3 ⟨rfl, hB3⟩
        have HX3 := Lib.hid (HX2.out.step hB3)
        clear hB3 d0 d1 d2 d3
        go_wp2_with (fail)
        go_ret
        exact ⟨rfl, HX3.out.bel⟩
      · have g1 : (x.slot == sl) = false := by simpa using hsl
        have hT' : Hid (∀ m ∈ M.take (j + 1), m.slot ≠ sl) := fun m hm => by
          rw [List.take_add_one, HX'.out, Option.toList_some] at hm
          rcases List.mem_append.1 hm with hm | hm
          · exact hT.out m hm
          · rw [List.mem_singleton.1 hm]; exact hsl
        clear hsl
        go_wp2_with (fail)
        go_roundw
        case rel => exact ⟨j + 1, by omega, by go_num, hT', by first | rfl | trivial⟩
        case measure => simp [intOf]; omega
    obtain rfl : nm = j := by omega
    have HNO : Hid (∀ m ∈ M, m.slot ≠ sl) := fun m hm => hT.out m (by rw [List.take_of_length_le (by rw [HLM.out]; exact Nat.le_refl _)]; exact hm)
    have HCNT : Hid (S'.countP (inSlot sl) = S.countP (inSlot sl)) := HSK.out HNO.out
    obtain ⟨w2, rfl⟩ : ∃ w2 : World, w2 = wr := ⟨_, rfl⟩
    clear hT hj hlt HSK
    go_wp2_with (fail)
    go_loopw [20, 19] (fun i c wr => ∃ j : Nat, j ≤ k1 ∧ i = .int .i64 j ∧ c = .int .i64 ((S'.take j).countP (inSlot sl) : Nat) ∧ Below w2.heap.size w2 wr) (fun i _ _ => k1 - (intOf i).toNat)
    case atStart => exact ⟨0, Nat.zero_le _, rfl, rfl, Below.refl _ _⟩
    case round =>
      obtain ⟨j, hj, rfl, rfl, hB⟩ := hrel
      have hcl : (S'.take j).countP (inSlot sl) ≤ 120 := by
        have h4 := List.countP_le_length (p := inSlot sl) (l := S'.take j)
        rw [List.length_take] at h4
        omega
      by_cases hlt : j < k1
      · obtain ⟨b, o, x, rfl, hx, d0, d1, d2, d3⟩ := (HR1.out.below hB).mail_at hlt
        have hmem := HGR.out.mem x (List.mem_of_getElem? hx.out)
        have hsn := cnt_snoc sl S' j x hx.out
        have HB := Lib.hid hB
        have f1 : (0 : Int) ≤ (j : Int) := by omega
        have f2 : (j : Int) < (k1 : Int) := by omega
        clear hx hB
        by_cases hsl : x.slot = sl
        · have g1 : (x.slot == sl) = true := by simpa using hsl
          have hin : Hid (decide (x ∈ S) = true) := decide_eq_true (hmem.elim id fun hf => absurd hsl (HNO.out x (freshL_mem hf)))
          rw [if_pos hsl] at hsn
          have HSN := Lib.hid hsn
          clear hsl hmem hsn
          generalize (S'.take j).countP (inSlot sl) = cn at *
          go_wp2_with (fail)
          refine (in19_c As ns cs S x _ ((HS.out.below (HX2.out.bel.trans (HB.out.mono HX2.out.bel.size))).more (Nat.le_trans HX2.out.bel.size HB.out.size)) hns).mono ?_
          rintro e w3 ⟨rfl, hB3⟩
          rw [hin.out]
          have HB3 := Lib.hid (HB.out.trans (hB3.mono HB.out.size))
          clear hB3 d0 d1 d2 d3 HB
          go_wp2_with (fail)
          go_roundw
          case rel => exact ⟨j + 1, by omega, by go_num, by rw [HSN.out]; go_num, HB3.out⟩
          case measure => simp [intOf]; omega
        · have g1 : (x.slot == sl) = false := by simpa using hsl
          rw [if_neg hsl] at hsn
          have HSN := Lib.hid hsn
          clear hsl hmem hsn
          go_wp2_with (fail)
          go_roundw
          case rel => exact ⟨j + 1, by omega, by go_num, by rw [HSN.out]; rfl, HB.out⟩
          case measure => simp [intOf]; omega
      obtain rfl : k1 = j := by omega
      have e1 : S'.take k1 = S' := List.take_of_length_le (by rw [HL1.out]; exact Nat.le_refl _)
      rw [e1] at hcl ⊢
      have HX3 := Lib.hid (HX2.out.step hB)
      have HR2' := Lib.hid ((HR2.out.below hB).more hB.size)
      obtain ⟨w3, rfl⟩ : ∃ w3 : World, w3 = wr := ⟨_, rfl⟩
      obtain ⟨cn, hcn⟩ : ∃ cn, cn = S'.countP (inSlot sl) := ⟨_, rfl⟩
      rw [← hcn] at HCNT hcl ⊢
      have hcs : S.countP (inSlot sl) = cn := HCNT.out.symm
      have HCS := Lib.hid hcs
      clear hB e1 hcn hcs HCNT HX2 HR1 HR2 hj hlt
      go_wp2_with (fail)
      go_loopw [21, 19] (fun i c wr => ∃ j : Nat, j ≤ ns ∧ i = .int .i64 j ∧ c = .int .i64 ((cn : Int) - ((S.take j).countP (inSlot sl) : Nat)) ∧ wr = w3) (fun i _ _ => ns - (intOf i).toNat)
      case atStart => exact ⟨0, Nat.zero_le _, rfl, by simp, rfl⟩
      case round =>
        obtain ⟨j, hj, rfl, rfl, rfl⟩ := hrel
        have hcj : (S.take j).countP (inSlot sl) ≤ cn := by rw [← HCS.out]; exact List.Sublist.countP_le (List.take_sublist _ _)
        by_cases hlt : j < ns
        · obtain ⟨b, o, x, rfl, hx, d0, d1, d2, d3⟩ := (HS.out.below HX3.out.bel).mail_at hlt
          have hsn := cnt_snoc sl S j x hx.out
          have f1 : (0 : Int) ≤ (j : Int) := by omega
          have f2 : (j : Int) < (ns : Int) := by omega
          clear hx
          by_cases hsl : x.slot = sl
          · have g1 : (x.slot == sl) = true := by simpa using hsl
            rw [if_pos hsl] at hsn
            have HSN := Lib.hid hsn
            clear hsl hsn
            generalize (S.take j).countP (inSlot sl) = cj at *
            have g2 : IntKind.i64.wrap ((cn : Int) - (cj : Int) - 1) = (cn : Int) - (cj : Int) - 1 := IntWalk.i64_in _ (by omega)
            go_wp2_with (fail)
            go_roundw
            case rel => exact ⟨j + 1, by omega, by go_num, by rw [HSN.out]; go_num, by first | rfl | trivial⟩
            case measure => simp [intOf]; omega
          · have g1 : (x.slot == sl) = false := by simpa using hsl
            rw [if_neg hsl] at hsn
            have HSN := Lib.hid hsn
            clear hsl hsn
            go_wp2_with (fail)
            go_roundw
            case rel => exact ⟨j + 1, by omega, by go_num, by rw [HSN.out]; rfl, by first | rfl | trivial⟩
            case measure => simp [intOf]; omega
        obtain rfl : ns = j := by omega
        have e1 : S.take ns = S := List.take_of_length_le (by rw [HLS.out]; exact Nat.le_refl _)
        have e2 : (cn : Int) - ((S.take ns).countP (inSlot sl) : Nat) = 0 := by rw [e1, HCS.out]; omega
        rw [e2]
        obtain ⟨w3, rfl⟩ : ∃ w3 : World, w3 = wr := ⟨_, rfl⟩
        clear e1 e2 hcj hj hlt
        go_wp2_with (fail)
        go_loopw [22] (fun i wr => ∃ j : Nat, j ≤ k2 ∧ i = .int .i64 j ∧ wr = w3) (fun i _ => k2 - (intOf i).toNat)
        case atStart => exact ⟨0, Nat.zero_le _, rfl, rfl⟩
        case round =>
          obtain ⟨j, hj, rfl, rfl⟩ := hrel
          by_cases hlt : j < k2
          · obtain ⟨b, o, x, rfl, hx, d0, d1, d2, d3⟩ := HR2'.out.mail_at hlt
            have hsl : x.slot ≠ sl := by
              obtain ⟨y, hy, hxy⟩ := HGR.out.sent x (List.mem_of_getElem? hx.out)
              rw [nx_slot hxy]
              exact HNO.out y (freshL_mem hy)
            have f1 : (0 : Int) ≤ (j : Int) := by omega
            have f2 : (j : Int) < (k2 : Int) := by omega
            have g1 : (x.slot == sl) = false := by simpa using hsl
            clear hx hsl
            go_wp2_with (fail)
            go_roundw
            case rel => exact ⟨j + 1, by omega, by go_num, by first | rfl | trivial⟩
            case measure => simp [intOf]; omega
          obtain rfl : k2 = j := by omega
          go_wp2_with (fail)
          refine (rounds_c _).mono ?_
          rintro e w4 ⟨rfl, hB4⟩
          have HX4 := Lib.hid (HX3.out.step hB4)
          clear hB4 HX3
          go_wp2_with (fail)
          go_ret
          exact ⟨rfl, HX4.out.bel⟩
end Go.Proofs.YtichoidkemeibaaGreat
