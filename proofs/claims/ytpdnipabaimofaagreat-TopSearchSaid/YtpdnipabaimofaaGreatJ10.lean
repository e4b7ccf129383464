/-
  round.Step where it goes through: the walk.
-/
import Derived.Test.YtpdnipabaimofaaGreatJ09
import Derived.BigFrameIn
namespace Go.Proofs.YtpdnipabaimofaaGreat
open Go.RowKit Go.Shelf
attribute [local go_sem] Oper.semAt_some

set_option maxRecDepth 100000 in
set_option maxHeartbeats 8000000 in
theorem step_ok (q : QuA) (a : RwA) (As Am Ap : Option Addr) (ns cs nm cm np cp : Nat) (qn : Nat) (S M : List Msg) (ps : List Int) (w : World) (ha : RwIn w w.heap.size a) (hS : Reads w w.heap.size 4 As ns (mv S)) (hM : Reads w w.heap.size 4 Am nm (mv M)) (hP : Reads w w.heap.size 1 Ap np (iv ps))
    (hns : ns ≤ 500000) (hnm : nm ≤ 4000) (hnp : np ≤ maxLen) (fS : ∀ m ∈ S, m.fits) (fM : ∀ m ∈ M, m.fits) (hc : chkR a.r) (hok : stepOk S M qn ((a.n1 : Int) - 1)) :
    Calls Tryz.prog 24 #[quVal q, rwVal a, .slice As ns cs, .slice Am nm cm, .int .i64 qn, .slice Ap np cp] w fun e w' =>
      ∃ A1 k1 c1 A2 k2 c2, e = .returned (.tuple #[.slice A1 k1 c1, .slice A2 k2 c2, .int .i64 0]) ∧ w'.ownsRow w.heap.size 121 4 (.slice A1 k1 c1) k1 (mv (stepS S M)) ∧ w'.ownsRow w.heap.size 79 4 (.slice A2 k2 c2) k2 (mv (stepM (nxM q.kind q.radius a.r) S M)) ∧ Below w.heap.size w w' := by
  show Calls Tryz.prog 24 #[.agg #[.int .i64 q.kind, .int .i64 q.src, .int .i64 q.dst, .slice q.W q.nw q.cw, .int .i64 q.radius, .int .i64 q.most], .agg #[.slice a.A1 a.n1 a.c1, .slice a.A2 a.n2 a.c2, .slice a.A3 a.n3 a.c3, .slice a.A4 a.n4 a.c4], .slice As ns cs, .slice Am nm cm, .int .i64 qn, .slice Ap np cp] w _
  have hq1 : 1 ≤ qn := by have := hok.2.2.2; omega
  have hq2 : qn ≤ 16 := by have := hok.2.2.2; omega
  have hx := stAt_new w q a
  obtain ⟨r0, r1, r2, r3⟩ := hx.rc
  have hm1 := ha.m1
  unfold maxLen at hm1
  unfold quBox rwBox at r0 r1 r2 r3
  have b0 : ((w.alloc (quBox q)).alloc (rwBox a)).cell? ⟨w.heap.size + 1, 0, none⟩ = some (.slice a.A1 a.n1 a.c1) := by
    have := (w.alloc (quBox q)).alloc_heap_new (rwBox a)
    rw [World.size_alloc] at this
    rw [Lib.cell_of_heap this]; rfl
  unfold quBox rwBox at b0
  have HN1 := Lib.hid (rw_n ha hc)
  have HX := Lib.hid hx
  have HA := Lib.hid ha
  have HS := Lib.hid hS
  have HM := Lib.hid hM
  have HP := Lib.hid hP
  have HFS := Lib.hid fS
  have HFM := Lib.hid fM
  have HOK := Lib.hid hok
  have HC := Lib.hid hc
  clear hx ha hS hM hP fS fM hok hc
  rw [← callsIn_wide (n := 10)]
  refine callsIn_of_wp_marks Tryz.func24 rfl trivial ?_ rfl
  simp only [Tryz.ntmps24, List.size_toArray, List.length_cons, List.length_nil, Nat.reduceAdd, Nat.reduceSub, Array.replicate_succ, Array.replicate_zero, List.push_toArray, List.append_toArray, List.nil_append, List.cons_append]
  refine wpIn_wide.2 ?_
  obtain ⟨Qm, hQm⟩ : ∃ Qm, Qm = bodyPostM Fence.wide 10 Tryz.prog Tryz.f24 (fun e w' => ∃ A1 k1 c1 A2 k2 c2, e = .returned (.tuple #[.slice A1 k1 c1, .slice A2 k2 c2, .int .i64 0]) ∧ w'.ownsRow w.heap.size 121 4 (.slice A1 k1 c1) k1 (mv (stepS S M)) ∧ w'.ownsRow w.heap.size 79 4 (.slice A2 k2 c2) k2 (mv (stepM (nxM q.kind q.radius a.r) S M)) ∧ Below w.heap.size w w') := ⟨_, rfl⟩
  rw [← hQm]
  have HQ := Lib.hid hQm
  clear hQm
  go_wp2_with (fail)
  go_step3
  go_wp2_with (fail)
  refine (rowsCheck_c a _ (HX.out.rw_ HA.out)).mono ?_
  rintro e w1 ⟨rfl, hB1⟩
  rw [decide_eq_true HC.out]
  have HX1 := Lib.hid (HX.out.step hB1)
  clear hB1 r0 r1 r2 r3 HX b0
  go_wp2_with (fail)
  refine (turnOrder_c Ap qn np cp ps _ (by omega) ((HP.out.below HX1.out.bel).more HX1.out.bel.size) hnp).mono ?_
  rintro e w2 ⟨Ao, co, rfl, hoo, hB2⟩
  have HX2 := Lib.hid (HX1.out.step hB2)
  have HOO := Lib.hid (own_more (base := w.heap.size) hoo HX1.out.bel.size)
  clear hB2 HX1 hoo
  go_wp2_with (fail)
  refine (fresh_c As Am ns cs nm cm S M _ ((HS.out.below HX2.out.bel).more HX2.out.bel.size) ((HM.out.below HX2.out.bel).more HX2.out.bel.size) (by omega) (by omega) HFS.out HFM.out).mono ?_
  rintro e w3 ⟨A3, k3, c3, rfl, hk3, ho3, hB3⟩
  have HX3 := Lib.hid (HX2.out.step hB3)
  have HO3 := Lib.hid (own_reads ho3)
  have HOO3 := Lib.hid (own_below HOO.out hB3)
  have hk3' : k3 ≤ 4000 := by
    rw [hk3]
    have h1 : (freshL S M).length ≤ (combine M).length := List.length_filter_le _ _
    have h2 := combine_lenR M
    have h3 := HM.out.mail_len
    omega
  have HK3 := Lib.hid hk3
  clear hB3 HX2 ho3 hk3 HOO
  go_wp2_with (fail)
  have hmayF : allMay (freshL S M) := (splitOk_of HOK.out).2
  have HMF := Lib.hid hmayF
  clear hmayF
  refine (split_c A3 k3 c3 qn (freshL S M) _ hq1 hq2 HO3.out (by omega) HMF.out).mono ?_
  rintro e w4 ⟨A4, c4, vs, rfl, ho4, hr4, hB4⟩
  have HX4 := Lib.hid (HX3.out.step hB4)
  have HO4 := Lib.hid (own_more (base := w.heap.size) ho4 HX3.out.bel.size)
  have HR4 := Lib.hid (hr4.more HX3.out.bel.size)
  have HOO4 := Lib.hid (own_below HOO3.out hB4)
  clear hB4 HX3 HO3 ho4 hr4 HOO3
  have n4 := HX4.out.nc
  go_wp2_with (fail)
  refine (right_c As ns cs S ((a.n1 : Int) - 1) _ ((HS.out.below HX4.out.bel).more HX4.out.bel.size) (by omega)).mono ?_
  rintro e w5 ⟨rfl, hB5⟩
  rw [decide_eq_true HOK.out.1]
  have HX5 := Lib.hid (HX4.out.step hB5)
  have HO5 := Lib.hid (own_below HO4.out hB5)
  have HR5 := Lib.hid (HR4.out.below hB5)
  have HOO5 := Lib.hid (own_below HOO4.out hB5)
  clear hB5 n4 HX4 HO4 HR4 HOO4
  have n5 := HX5.out.nc
  go_wp2_with (fail)
  refine (check_c Am nm cm M _ ((HM.out.below HX5.out.bel).more HX5.out.bel.size) (by unfold maxLen; omega)).mono ?_
  rintro e w6 ⟨rfl, hB6⟩
  rw [decide_eq_true HOK.out.2.1]
  have HX6 := Lib.hid (HX5.out.step hB6)
  have HO6 := Lib.hid (own_below HO5.out hB6)
  have HR6 := Lib.hid (HR5.out.below hB6)
  have HOO6 := Lib.hid (own_below HOO5.out hB6)
  clear hB6 n5 HX5 HO5 HR5 HOO5
  have n6 := HX6.out.nc
  have hany : Hid ((M.any fun x => decide ((a.n1 : Int) - 1 ≤ x.v)) = false) := by
    show _ = _
    rw [List.any_eq_false]
    intro m hm
    have := HOK.out.2.2.1 m hm
    simp
    omega
  go_wp2_with (fail)
  refine (containsB_c Am nm cm (w.heap.size + 2) M ((a.n1 : Int) - 1) _ ((HM.out.below HX6.out.bel).more HX6.out.bel.size) (by unfold maxLen; omega) HX6.out.lt n6).mono ?_
  rintro e w7 ⟨rfl, hB7⟩
  rw [hany.out]
  have HX7 := Lib.hid (HX6.out.step hB7)
  have HO7 := Lib.hid (own_below HO6.out hB7)
  have HR7 := Lib.hid (HR6.out.below hB7)
  have HOO7 := Lib.hid (own_below HOO6.out hB7)
  clear hB7 n6 HX6 HO6 HR6 HOO6 hany
  go_wp2_with (fail)
  refine (cloneSt_c As ns cs S _ ((HS.out.below HX7.out.bel).more HX7.out.bel.size) (by omega)).mono ?_
  rintro e w8 ⟨A8, c8, rfl, ho8, hB8⟩
  have HX8 := Lib.hid (HX7.out.step hB8)
  have HO8 := Lib.hid (own_below HO7.out hB8)
  have HR8 := Lib.hid (HR7.out.below hB8)
  have HOO8 := Lib.hid (own_below HOO7.out hB8)
  have HN8 := Lib.hid (own_more (base := w.heap.size) ho8 HX7.out.bel.size)
  clear hB8 HX7 HO7 HR7 HOO7 ho8
  go_wp2_with (fail)
  go_step3
  go_wp2_with (fail)
  obtain ⟨I, hI⟩ : ∃ I : Act → World → Prop, I = fun a' W => ∃ (j : Nat) (Ds : List Nat) (u24 u25 u26 u27 u28 u78 u79 u80 u81 u82 u83 u84 u85 u86 u87 u88 u89 u90 u91 u92 u93 u94 u95 u96 u97 u98 u99 u100 u101 u102 u103 u104 u105 u106 u107 u108 u109 u110 : Value), j ≤ qn ∧ Hid (NowAt w q a w8.heap.size Ds qn vs (mvs (parted (freshL S M) qn)) A4 c4 Ao co (ord (upto qn) ps) (S ++ (doneL (freshL S M) qn ps ((ord (upto qn) ps).take j))) ((doneL (freshL S M) qn ps ((ord (upto qn) ps).take j)).flatMap (nxM q.kind q.radius a.r)) W) ∧ a' = { tmps := #[Value.agg #[Value.int IntKind.i64 q.kind, Value.int IntKind.i64 q.src, Value.int IntKind.i64 q.dst, Value.slice q.W q.nw q.cw, Value.int IntKind.i64 q.radius, Value.int IntKind.i64 q.most], Value.agg #[Value.slice a.A1 a.n1 a.c1, Value.slice a.A2 a.n2 a.c2, Value.slice a.A3 a.n3 a.c3, Value.slice a.A4 a.n4 a.c4], Value.slice As ns cs, Value.slice Am nm cm, Value.int IntKind.i64 (qn : Int), Value.slice Ap np cp, Value.pointer (some { block := w.heap.size, off := 0 }), Value.pointer (some { block := w.heap.size + 1, off := 0 }), undef, undef, undef, undef, Value.slice none 0 0, Value.slice none 0 0, Value.int IntKind.i64 0, Value.pointer (some { block := w.heap.size + 1 + 1, off := 0 }), Value.func (Fn.func 47) #[] #[Value.pointer (some { block := w.heap.size + 1 + 1, off := 0 })], Value.slice Ao qn co, Value.int IntKind.i64 0, Value.slice A4 qn c4, Value.int IntKind.i64 0, Value.pointer (some { block := w8.heap.size, off := 0 }), Value.pointer (some { block := w8.heap.size + 1, off := 0 }), undef, u24, u25, u26, u27, u28, Value.pointer (some { block := w.heap.size + 1, off := 0 }), Value.slice a.A1 a.n1 a.c1, Value.int IntKind.i64 ↑a.n1, Value.int IntKind.i64 (↑a.n1 - 1), Value.func (Fn.func 47) #[] #[Value.pointer (some { block := w.heap.size + 1 + 1, off := 0 })], Value.agg #[Value.slice a.A1 a.n1 a.c1, Value.slice a.A2 a.n2 a.c2, Value.slice a.A3 a.n3 a.c3, Value.slice a.A4 a.n4 a.c4], Value.bool true, Value.bool false, Value.tuple #[Value.slice Ao qn co, Value.int IntKind.i64 0], Value.int IntKind.i64 (qn : Int), Value.slice Ap np cp, Value.tuple #[Value.slice Ao qn co, Value.int IntKind.i64 0], Value.slice Ao qn co, Value.int IntKind.i64 0, Value.tuple #[Value.slice A4 qn c4, Value.int IntKind.i64 0], Value.slice As ns cs, Value.slice Am nm cm, Value.slice A3 k3 c3, Value.int IntKind.i64 (qn : Int), Value.tuple #[Value.slice A4 qn c4, Value.int IntKind.i64 0], Value.slice A4 qn c4, Value.int IntKind.i64 0, Value.int IntKind.i64 0, Value.bool false, Value.bool false, Value.int IntKind.i64 0, Value.bool false, Value.bool false, Value.bool false, Value.slice As ns cs, Value.int IntKind.i64 (↑a.n1 - 1), Value.bool true, Value.bool false, Value.bool false, Value.bool false, Value.slice Am nm cm, Value.bool true, Value.bool false, Value.bool false, Value.bool false, Value.slice Am nm cm, Value.func (Fn.func 47) #[] #[Value.pointer (some { block := w.heap.size + 1 + 1, off := 0 })], Value.bool false, Value.bool false, Value.slice As ns cs, Value.slice A8 ns c8, Value.slice Ao qn co, Value.int IntKind.i64 (qn : Int), .int .i64 (j : Nat), u78, u79, u80, u81, u82, u83, u84, u85, u86, u87, u88, u89, u90, u91, u92, u93, u94, u95, u96, u97, u98, u99, u100, u101, u102, u103, u104, u105, u106, u107, u108, u109, u110, undef, undef, undef, undef, undef, undef, undef, undef, undef], defers := marksOf Ds } := ⟨_, rfl⟩
  have HI := Lib.hid hI
  clear hI
  refine wp_loop I (fun a' _ => qn - (intOf (a'.tmps.getD 77 undef)).toNat) ?_ ?_
  · rw [HI.out]
    refine ⟨0, [], undef, undef, undef, undef, undef, undef, undef, undef, undef, undef, undef, undef, undef, undef, undef, undef, undef, undef, undef, undef, undef, undef, undef, undef, undef, undef, undef, undef, undef, undef, undef, undef, undef, undef, undef, undef, undef, undef, Nat.zero_le _, ?_, rfl⟩
    have hb := below_two w8 (.cells #[.slice A8 ns c8] 59) (.cells #[.slice none 0 0] 57)
    have e0 : doneL (freshL S M) qn ps ((ord (upto qn) ps).take 0) = [] := rfl
    rw [e0, List.append_nil]
    refine ⟨HX8.out.step hb, own_below HOO8.out hb, own_below HO8.out hb, fun x hx => (own_lt HO8.out x hx).2, HR8.out.below hb, ⟨A8, ns, c8, ?_, own_below HN8.out hb⟩, ⟨none, 0, 0, ?_, own_nil, fun _ _ _ _ _ => Apart.none_right⟩, MarksOk.nil _ _, HX8.out.lt⟩
    · rw [Below.heap_alloc _ _ _ (by simp)]
      exact w8.alloc_heap_new _
    · have := (w8.alloc (.cells #[.slice A8 ns c8] 59)).alloc_heap_new (.cells #[.slice none 0 0] 57)
      rw [World.size_alloc] at this
      exact this
  intro a0 W0 hinv
  rw [HI.out] at hinv
  obtain ⟨j, Ds, u24, u25, u26, u27, u28, u78, u79, u80, u81, u82, u83, u84, u85, u86, u87, u88, u89, u90, u91, u92, u93, u94, u95, u96, u97, u98, u99, u100, u101, u102, u103, u104, u105, u106, u107, u108, u109, u110, hj, HNOW, rfl⟩ := hinv
  clear HX8 HO8 HR8 HOO8 HN8
  dsimp only
  by_cases hlt : j < qn
  rotate_left
  · obtain rfl : qn = j := by omega
    have hol := (own_reads HNOW.out.ord).int_len
    have et : (ord (upto qn) ps).take qn = ord (upto qn) ps := List.take_of_length_le (by omega)
    rw [et] at HNOW
    obtain ⟨An, nn, cn, hbn, hon⟩ := HNOW.out.now
    obtain ⟨At, nt, ct, hbt, hot, -⟩ := HNOW.out.sent
    have hperm := doneL_perm ps HMF.out hq1 hq2
    have hnn : nn ≤ 600000 := by
      have h1 := (own_reads hon).mail_len
      rw [List.length_append, hperm.length_eq] at h1
      have h2 := HS.out.mail_len
      have h3 := HK3.out
      omega
    have hgood : ∀ y ∈ freshL S M, mayM y ∧ y.v < (a.r.n : Int) := fun y hy => ⟨HMF.out y hy, by have h1 := (good_fresh HOK.out y hy).2.1.2; rw [HN1.out] at h1; exact h1⟩
    have hnt : nt ≤ 1000000 := by
      have h1 := (own_reads hot).mail_len
      have h2 := flat_nx_len (kind := q.kind) (radius := q.radius) HC.out (doneL (freshL S M) qn ps (ord (upto qn) ps)) (fun y hy => ⟨(hgood y (hperm.mem_iff.1 hy)).1.1.2.2.1, (hgood y (hperm.mem_iff.1 hy)).2⟩)
      rw [hperm.length_eq] at h2
      have h3 := HK3.out
      omega
    have hfT : ∀ y ∈ (doneL (freshL S M) qn ps (ord (upto qn) ps)).flatMap (nxM q.kind q.radius a.r), y.fits := fun y hy => by
      obtain ⟨x, hx, hxy⟩ := List.mem_flatMap.1 hy
      have h1 := hgood x (hperm.mem_iff.1 hx)
      exact nx_fits HC.out h1.1 h1.2 y hxy
    have hfS : ∀ y ∈ stepS S M, y.fits := fun y hy => by
      rcases ((stepS_is M HOK.out.1.2).2.1 y).1 hy with h1 | h1
      · exact HFS.out y h1
      · exact may_fits (hgood y h1).1
    have c1 : W0.cell? ⟨w8.heap.size, 0, none⟩ = some (.slice An nn cn) := by rw [Lib.cell_of_heap hbn]; rfl
    have HPERM := Lib.hid hperm
    have HFT := Lib.hid hfT
    have HFS2 := Lib.hid hfS
    have HBN := Lib.hid hbn
    have HON := Lib.hid hon
    have HBT := Lib.hid hbt
    have HOT := Lib.hid hot
    clear hol et hbn hon hbt hot hperm hgood hfT hfS hj hlt
    go_wp2_with (fail)
    refine (sortSt_c HON.out (by omega)).mono ?_
    rintro e w10 ⟨rfl, d', hp, hs, ho', hg⟩
    obtain rfl : d' = stepS S M := sorted_step HOK.out.1.2 HPERM.out hp hs
    have hN10 := HNOW.out.sorted HBN.out HON.out hg ho'
    have hT1 : RowT W0 (An.map (·.block)) 121 := rowT_own HON.out
    have HBT10 := Lib.hid (box_T HBT.out hg hT1 (by decide))
    have HBN10 := Lib.hid (box_T HBN.out hg hT1 (by decide))
    have HOT10 := Lib.hid (own_T HOT.out hg hT1 (by decide))
    have HON10 := Lib.hid ho'
    have HN10 := Lib.hid hN10
    clear hp hs ho' hg hN10 hT1 c1 HNOW HBN HON HBT HOT
    have c1 : w10.cell? ⟨w8.heap.size, 0, none⟩ = some (.slice An nn cn) := by rw [Lib.cell_of_heap HBN10.out]; rfl
    have c2 : w10.cell? ⟨w8.heap.size + 1, 0, none⟩ = some (.slice At nt ct) := by rw [Lib.cell_of_heap HBT10.out]; rfl
    have hfr : Calls Tryz.prog 50 #[.slice An nn cn, .slice At nt ct] w10.drew fun e w' => ∃ A' k' c', e = .returned (.slice A' k' c') ∧ w'.ownsRow w10.heap.size 79 4 (.slice A' k' c') k' (mv (stepM (nxM q.kind q.radius a.r) S M)) ∧ Below w10.heap.size w10 w' :=
      (fresh_c An At nn cn nt ct (stepS S M) _ w10.drew ((own_reads HON10.out).below ((Below.refl _ _).drew)) ((own_reads HOT10.out).below ((Below.refl _ _).drew)) (by omega) hnt HFS2.out HFT.out).mono
        fun e w' ⟨A', k', c', h1, h2, h3, h4⟩ => ⟨A', k', c', h1, by
          rw [← stepM_same (nx := (nxM q.kind q.radius a.r)) (fun m => HPERM.out.mem_iff)]
          exact h3, ((Below.refl w10.heap.size w10).drew).trans h4⟩
    have HFR := Lib.hid hfr
    clear hfr
    go_wp2_with (fail)
    refine wp_mono (Q := fun e a' w2 => match e with
      | .normal => ∃ A9 k9 c9, a' = { tmps := #[Value.agg #[Value.int IntKind.i64 q.kind, Value.int IntKind.i64 q.src, Value.int IntKind.i64 q.dst, Value.slice q.W q.nw q.cw, Value.int IntKind.i64 q.radius, Value.int IntKind.i64 q.most], Value.agg #[Value.slice a.A1 a.n1 a.c1, Value.slice a.A2 a.n2 a.c2, Value.slice a.A3 a.n3 a.c3, Value.slice a.A4 a.n4 a.c4], Value.slice As ns cs, Value.slice Am nm cm, Value.int IntKind.i64 (qn : Int), Value.slice Ap np cp, Value.pointer (some { block := w.heap.size, off := 0 }), Value.pointer (some { block := w.heap.size + 1, off := 0 }), undef, undef, undef, undef, .slice An nn cn, .slice A9 k9 c9, .int .i64 0, Value.pointer (some { block := w.heap.size + 1 + 1, off := 0 }), Value.func (Fn.func 47) #[] #[Value.pointer (some { block := w.heap.size + 1 + 1, off := 0 })], Value.slice Ao qn co, Value.int IntKind.i64 0, Value.slice A4 qn c4, Value.int IntKind.i64 0, Value.pointer (some { block := w8.heap.size, off := 0 }), Value.pointer (some { block := w8.heap.size + 1, off := 0 }), undef, u24, u25, u26, u27, u28, Value.pointer (some { block := w.heap.size + 1, off := 0 }), Value.slice a.A1 a.n1 a.c1, Value.int IntKind.i64 ↑a.n1, Value.int IntKind.i64 (↑a.n1 - 1), Value.func (Fn.func 47) #[] #[Value.pointer (some { block := w.heap.size + 1 + 1, off := 0 })], Value.agg #[Value.slice a.A1 a.n1 a.c1, Value.slice a.A2 a.n2 a.c2, Value.slice a.A3 a.n3 a.c3, Value.slice a.A4 a.n4 a.c4], Value.bool true, Value.bool false, Value.tuple #[Value.slice Ao qn co, Value.int IntKind.i64 0], Value.int IntKind.i64 (qn : Int), Value.slice Ap np cp, Value.tuple #[Value.slice Ao qn co, Value.int IntKind.i64 0], Value.slice Ao qn co, Value.int IntKind.i64 0, Value.tuple #[Value.slice A4 qn c4, Value.int IntKind.i64 0], Value.slice As ns cs, Value.slice Am nm cm, Value.slice A3 k3 c3, Value.int IntKind.i64 (qn : Int), Value.tuple #[Value.slice A4 qn c4, Value.int IntKind.i64 0], Value.slice A4 qn c4, Value.int IntKind.i64 0, Value.int IntKind.i64 0, Value.bool false, Value.bool false, Value.int IntKind.i64 0, Value.bool false, Value.bool false, Value.bool false, Value.slice As ns cs, Value.int IntKind.i64 (↑a.n1 - 1), Value.bool true, Value.bool false, Value.bool false, Value.bool false, Value.slice Am nm cm, Value.bool true, Value.bool false, Value.bool false, Value.bool false, Value.slice Am nm cm, Value.func (Fn.func 47) #[] #[Value.pointer (some { block := w.heap.size + 1 + 1, off := 0 })], Value.bool false, Value.bool false, Value.slice As ns cs, Value.slice A8 ns c8, Value.slice Ao qn co, Value.int IntKind.i64 (qn : Int), .int .i64 (qn : Nat), .bool false, u79, u80, u81, u82, u83, u84, u85, u86, u87, u88, u89, u90, u91, u92, u93, u94, u95, u96, u97, u98, u99, u100, u101, u102, u103, u104, u105, u106, u107, u108, u109, u110, .int .i64 0, .bool false, undef, .slice An nn cn, .tuple #[], .slice An nn cn, .slice An nn cn, .slice At nt ct, .slice A9 k9 c9], defers := marksOf Ds } ∧ w2.ownsRow w10.heap.size 79 4 (.slice A9 k9 c9) k9 (mv (stepM (nxM q.kind q.radius a.r) S M)) ∧ Below w10.heap.size w10 w2
      | _ => False) ?_ ?_
    · go_region_law (go_simp; go_at_call 50; refine Calls.mono HFR.out ?_; rintro e w9 ⟨A9, k9, c9, rfl, ho9, hB9⟩; have c3 := (hB9.cell (block_lt_of_cell c1)).trans c1; have c4 := (hB9.cell (block_lt_of_cell c2)).trans c2)
      all_goals exact ⟨A9, k9, c9, rfl, ho9, hB9⟩
    rintro (_ | _ | _ | _ | _ | _) a' w2 hq
    case normal =>
      obtain ⟨A9, k9, c9, rfl, ho9, hB9⟩ := hq
      have HN9 := Lib.hid (HN10.out.below hB9)
      have HO9 := Lib.hid (own_more (base := w.heap.size) ho9 HN10.out.st.bel.size)
      have HS9 := Lib.hid (own_below HON10.out hB9)
      clear c1 c2 ho9 hB9
      dsimp only
      go_wp2_with (fail)
      rw [HQ.out, Exit.noGoto_ret]
      refine leaves_marks (B := w8.heap.size + 2) (fun W => W.ownsRow w.heap.size 121 4 (.slice An nn cn) nn (mv (stepS S M)) ∧ W.ownsRow w.heap.size 79 4 (.slice A9 k9 c9) k9 (mv (stepM (nxM q.kind q.radius a.r) S M)) ∧ (Below w.heap.size w W ∧ w8.heap.size ≤ W.heap.size)) ?_ ?_ Ds w2 HN9.out.marks ⟨HS9.out, HO9.out, HN9.out.st.bel, Nat.le_of_lt (Nat.lt_of_succ_lt HN9.out.lt)⟩
      · rintro W D ⟨h1, h2, h3, h4⟩ hD hdef
        have hg := grownBy_putObj' W D (.deferred none)
        have hkeep : ∀ {e size A n c xs}, W.ownsRow w.heap.size e size (.slice A n c) n xs → (W.putObj D (.deferred none)).ownsRow w.heap.size e size (.slice A n c) n xs := fun {e size A n c xs} ho => by
          refine ho.kept hg ?_
          rcases ho.2 with ⟨hv, -⟩ | ⟨g, cap, cur, hv, -, hb, -⟩
          · rw [hv]; exact .inl rfl
          · rw [hv]
            refine .inr fun e' => ?_
            have e' : some g = some D := e'
            cases e'
            rw [hb] at hdef; cases hdef
        exact ⟨hkeep h1, hkeep h2, h3.grown hg h3.size (fun k hk => by cases hk; have := HN9.out.nblt; omega), Nat.le_trans h4 hg.size⟩
      · rintro W ⟨h1, h2, h3, h4⟩
        refine ⟨.tuple #[.slice An nn cn, .slice A9 k9 c9, .int .i64 0], ?_, ⟨An, nn, cn, A9, k9, c9, rfl, h1, h2, h3⟩⟩
        simp [results, Tryz.results24, go_sem]
    all_goals exact hq.elim
  obtain ⟨b, o, i, e1, hi, d0⟩ := (own_reads HNOW.out.ord).int_at hlt
  obtain ⟨m, e2, hmq⟩ := ord_mem (List.mem_of_getElem? hi.out)
  subst e2
  have hpm : (mvs (parted (freshL S M) qn))[m]? = some (mv (ofHome (freshL S M) qn m)) := by
    unfold mvs
    rw [List.getElem?_map, parted_get _ _ _ hmq]
    rfl
  obtain ⟨Ab, nbx, cbx, hv, hob⟩ := HNOW.out.rows.at_ hpm
  obtain ⟨b', o', e3, d1⟩ := (own_reads HNOW.out.bx).val_at hv
  have HORD := Lib.hid hi.out
  have HV := Lib.hid hv
  have HOB := Lib.hid hob
  obtain ⟨q0, q1, q2, q3, q4, q5⟩ := HNOW.out.st.qc
  obtain ⟨r0, r1, r2, r3⟩ := HNOW.out.st.rc
  have f1 : (0 : Int) ≤ (j : Int) := by omega
  have f2 : (j : Int) < (qn : Int) := by omega
  have f3 : (0 : Int) ≤ (m : Int) := by omega
  have f4 : (m : Int) < (qn : Int) := by omega
  subst e1
  subst e3
  clear hi hpm hv hob
  have hnb : nbx ≤ 4000 := by
    have h1 := (own_reads HOB.out).mail_len
    have h2 : (ofHome (freshL S M) qn m).length ≤ (freshL S M).length := List.length_filter_le _ _
    have h3 := HK3.out
    omega
  have hms : Calls Tryz.prog 55 #[.slice Ab nbx cbx, .slice Ap np cp] W0.drew fun e w' => ∃ A' c', e = .returned (.slice A' nbx c') ∧ w'.ownsRow W0.heap.size 79 4 (.slice A' nbx c') nbx (mv (homesL (freshL S M) qn ps m)) ∧ Below W0.heap.size W0 w' :=
    (turnMails_c Ab Ap nbx cbx np cp (ofHome (freshL S M) qn m) ps W0.drew ((own_reads HOB.out).below ((Below.refl _ _).drew)) (by omega) ((HP.out.below (HNOW.out.st.bel.drew)).more HNOW.out.st.bel.size) hnp).mono
      fun e w' ⟨A', c', h1, h2, h3⟩ => ⟨A', c', h1, h2, ((Below.refl W0.heap.size W0).drew).trans h3⟩
  have HMS := Lib.hid hms
  clear hms
  go_wp2_with (fail)
  refine wp_mono (Q := fun e a' w2 => match e with
    | .normal => ∃ A9 c9 w9, a' = { tmps := #[Value.agg #[Value.int IntKind.i64 q.kind, Value.int IntKind.i64 q.src, Value.int IntKind.i64 q.dst, Value.slice q.W q.nw q.cw, Value.int IntKind.i64 q.radius, Value.int IntKind.i64 q.most], Value.agg #[Value.slice a.A1 a.n1 a.c1, Value.slice a.A2 a.n2 a.c2, Value.slice a.A3 a.n3 a.c3, Value.slice a.A4 a.n4 a.c4], Value.slice As ns cs, Value.slice Am nm cm, Value.int IntKind.i64 (qn : Int), Value.slice Ap np cp, Value.pointer (some { block := w.heap.size, off := 0 }), Value.pointer (some { block := w.heap.size + 1, off := 0 }), undef, undef, undef, undef, Value.slice none 0 0, Value.slice none 0 0, Value.int IntKind.i64 0, Value.pointer (some { block := w.heap.size + 1 + 1, off := 0 }), Value.func (Fn.func 47) #[] #[Value.pointer (some { block := w.heap.size + 1 + 1, off := 0 })], Value.slice (some ⟨b, o, none⟩) qn co, Value.int IntKind.i64 0, Value.slice (some ⟨b', o', none⟩) qn c4, Value.int IntKind.i64 0, Value.pointer (some { block := w8.heap.size, off := 0 }), Value.pointer (some { block := w8.heap.size + 1, off := 0 }), undef, .int .i64 (m : Nat), .pointer (some ⟨w9.heap.size, 0, none⟩), u26, u27, u28, Value.pointer (some { block := w.heap.size + 1, off := 0 }), Value.slice a.A1 a.n1 a.c1, Value.int IntKind.i64 ↑a.n1, Value.int IntKind.i64 (↑a.n1 - 1), Value.func (Fn.func 47) #[] #[Value.pointer (some { block := w.heap.size + 1 + 1, off := 0 })], Value.agg #[Value.slice a.A1 a.n1 a.c1, Value.slice a.A2 a.n2 a.c2, Value.slice a.A3 a.n3 a.c3, Value.slice a.A4 a.n4 a.c4], Value.bool true, Value.bool false, Value.tuple #[Value.slice (some ⟨b, o, none⟩) qn co, Value.int IntKind.i64 0], Value.int IntKind.i64 (qn : Int), Value.slice Ap np cp, Value.tuple #[Value.slice (some ⟨b, o, none⟩) qn co, Value.int IntKind.i64 0], Value.slice (some ⟨b, o, none⟩) qn co, Value.int IntKind.i64 0, Value.tuple #[Value.slice (some ⟨b', o', none⟩) qn c4, Value.int IntKind.i64 0], Value.slice As ns cs, Value.slice Am nm cm, Value.slice A3 k3 c3, Value.int IntKind.i64 (qn : Int), Value.tuple #[Value.slice (some ⟨b', o', none⟩) qn c4, Value.int IntKind.i64 0], Value.slice (some ⟨b', o', none⟩) qn c4, Value.int IntKind.i64 0, Value.int IntKind.i64 0, Value.bool false, Value.bool false, Value.int IntKind.i64 0, Value.bool false, Value.bool false, Value.bool false, Value.slice As ns cs, Value.int IntKind.i64 (↑a.n1 - 1), Value.bool true, Value.bool false, Value.bool false, Value.bool false, Value.slice Am nm cm, Value.bool true, Value.bool false, Value.bool false, Value.bool false, Value.slice Am nm cm, Value.func (Fn.func 47) #[] #[Value.pointer (some { block := w.heap.size + 1 + 1, off := 0 })], Value.bool false, Value.bool false, Value.slice As ns cs, Value.slice A8 ns c8, Value.slice (some ⟨b, o, none⟩) qn co, Value.int IntKind.i64 (qn : Int), .int .i64 (j : Nat), .bool true, .pointer (some ⟨b, o + j, none⟩), .int .i64 (m : Nat), Value.agg #[Value.int IntKind.i64 q.kind, Value.int IntKind.i64 q.src, Value.int IntKind.i64 q.dst, Value.slice q.W q.nw q.cw, Value.int IntKind.i64 q.radius, Value.int IntKind.i64 q.most], Value.agg #[Value.slice a.A1 a.n1 a.c1, Value.slice a.A2 a.n2 a.c2, Value.slice a.A3 a.n3 a.c3, Value.slice a.A4 a.n4 a.c4], Value.slice (some ⟨b', o', none⟩) qn c4, .int .i64 (m : Nat), Value.pointer (some ⟨b', o' + m, none⟩), Value.slice Ab nbx cbx, Value.slice Ap np cp, Value.slice A9 nbx c9, Value.agg #[Value.int IntKind.i64 q.kind, Value.int IntKind.i64 q.src, Value.int IntKind.i64 q.dst, Value.slice q.W q.nw q.cw, Value.int IntKind.i64 q.radius, Value.int IntKind.i64 q.most, Value.slice a.A1 a.n1 a.c1, Value.slice a.A2 a.n2 a.c2, Value.slice a.A3 a.n3 a.c3, Value.slice a.A4 a.n4 a.c4, Value.slice A9 nbx c9, Value.int IntKind.i64 0], .pointer (some ⟨w9.heap.size, 0, none⟩), u91, u92, u93, u94, u95, u96, u97, u98, u99, u100, u101, u102, u103, u104, u105, u106, u107, u108, u109, u110, undef, undef, undef, undef, undef, undef, undef, undef, undef], defers := marksOf Ds } ∧ w2 = w9.alloc (wkObj q a A9 nbx c9) ∧ w9.ownsRow W0.heap.size 79 4 (.slice A9 nbx c9) nbx (mv (homesL (freshL S M) qn ps m)) ∧ Below W0.heap.size W0 w9
    | _ => False) ?_ ?_
  · go_region_law (go_simp; go_at_call 55; refine Calls.mono HMS.out ?_; rintro e w9 ⟨A9, c9, rfl, ho9, hB9⟩; obtain ⟨x0, x1, x2, x3, x4, x5⟩ := (HNOW.out.below hB9).st.qc; obtain ⟨y0, y1, y2, y3⟩ := (HNOW.out.below hB9).st.rc)
    all_goals exact ⟨A9, c9, w9, rfl, rfl, ho9, hB9⟩
  rintro (_ | _ | _ | _ | _ | _) a' w2 hq
  case normal =>
    obtain ⟨A9, c9, w9, rfl, rfl, ho9, hB9⟩ := hq
    have HN9 := Lib.hid (HNOW.out.below hB9)
    have HO9 := Lib.hid ho9
    have HB9 := Lib.hid hB9
    have HSENT := Lib.hid HNOW.out.sent
    have HLT0 := Lib.hid HNOW.out.lt
    clear q0 q1 q2 q3 q4 q5 r0 r1 r2 r3 d0 d1 f1 f2 f3 f4 HNOW HOB HMS ho9 hB9
    dsimp only
    go_wp2_with (fail)
    refine (work_c w9.heap.size _).mono ?_
    rintro e w10 ⟨rfl, rfl⟩
    have hb2 := below_two w9 (wkObj q a A9 nbx c9) (.cells #[.pointer (some ⟨w9.heap.size, 0, none⟩)] 122)
    have hx1 := w9.alloc_heap_new (wkObj q a A9 nbx c9)
    have hx2 := (w9.alloc (wkObj q a A9 nbx c9)).alloc_heap_new (.cells #[.pointer (some ⟨w9.heap.size, 0, none⟩)] 122)
    have hx3 : ((w9.alloc (wkObj q a A9 nbx c9)).alloc (.cells #[.pointer (some ⟨w9.heap.size, 0, none⟩)] 122)).heap[w9.heap.size]? = some (wkObj q a A9 nbx c9) := (Below.heap_alloc _ _ _ (by simp)).trans hx1
    have hx4 : ((w9.alloc (wkObj q a A9 nbx c9)).alloc (.cells #[.pointer (some ⟨w9.heap.size, 0, none⟩)] 122)).heap.size = w9.heap.size + 2 := by simp
    rw [World.size_alloc] at hx2
    rw [World.size_alloc]
    obtain ⟨wx, hwx⟩ : ∃ wx, wx = (w9.alloc (wkObj q a A9 nbx c9)).alloc (.cells #[.pointer (some ⟨w9.heap.size, 0, none⟩)] 122) := ⟨_, rfl⟩
    rw [← hwx] at hb2 hx2 hx3 hx4
    rw [← hwx]
    clear hwx hx1
    have hbw : Below w9.heap.size w9 wx := hb2
    have HRD : Hid (RdAt w q a w8.heap.size Ds qn vs (mvs (parted (freshL S M) qn)) (some ⟨b', o', none⟩) c4 (some ⟨b, o, none⟩) co (ord (upto qn) ps) (w9.heap.size + 1) w9.heap.size W0.heap.size A9 nbx c9 (homesL (freshL S M) qn ps m) wx.heap.size (S ++ (doneL (freshL S M) qn ps ((ord (upto qn) ps).take j))) ((doneL (freshL S M) qn ps ((ord (upto qn) ps).take j)).flatMap (nxM q.kind q.radius a.r)) wx) := by
      refine ⟨HN9.out.below hbw, ⟨hx2, hx3, HA.out.below (HN9.out.below hbw).st.bel, own_below HO9.out hbw, (HN9.out.below hbw).st.bel.size⟩, fun A n c hh => ?_, Nat.le_refl _, fun D hD => (HN9.out.below hbw).marks.lt hD, (HN9.out.below hbw).st.bel.size⟩
      obtain ⟨A5, n5, c5, h5, h6, -⟩ := HSENT.out
      have h7 := (hbw.block _ HN9.out.lt).trans ((HB9.out.block _ HLT0.out).trans h5)
      rw [hh] at h7
      simp at h7
      obtain ⟨rfl, rfl, rfl⟩ := h7
      exact (apart_of_lt h6 HO9.out (Nat.le_refl _)).symm
    clear hx2 hx3 hx4 hb2 hbw HN9 HO9 HSENT HLT0
    have HGM : Hid (∀ y ∈ homesL (freshL S M) qn ps m, goodM a.r.n y) := fun y hy => by
      have h1 := good_fresh HOK.out y (homesL_mem hy)
      rw [HN1.out] at h1
      exact h1
    have HLD : Hid ((doneL (freshL S M) qn ps ((ord (upto qn) ps).take j)).length ≤ 4000) := by
      have h1 := doneL_take ps HMF.out hq1 hq2 j
      have h2 := HK3.out
      show _ ≤ _
      omega
    have HLS : Hid (S.length ≤ 500000) := by
      have h1 := HS.out.mail_len
      show _ ≤ _
      omega
    have HLH : Hid ((homesL (freshL S M) qn ps m).length ≤ 4000) := by
      have h1 := (own_reads HRD.out.wk.m_).mail_len
      show _ ≤ _
      omega
    have HNX : Hid (∀ l : List Msg, (∀ y ∈ l, y ∈ freshL S M) → (l.flatMap (nxM q.kind q.radius a.r)).length ≤ l.length * 200) := fun l hl => flat_nx_len HC.out l fun y hy => by
      have h1 := (good_fresh HOK.out y (hl y hy)).2.1
      rw [HN1.out] at h1
      exact h1
    go_wp2_with (fail)
    refine (wpIn_wide (n := 10)).1 ?_
    refine wpIn_range_mem rfl (by omega) (gf := 91) (lb := #[.pointer (some ⟨w9.heap.size + 1, 0, none⟩)]) rfl trivial (enters_of Tryz.func91 (by kernel_rfl) rfl)
      (encs := wkEncs) (work_gives 9 (by omega) w.heap.size w.heap.size (w9.heap.size + 1) w9.heap.size W0.heap.size q a A9 nbx c9 (homesL (freshL S M) qn ps m) wx HC.out HGM.out HRD.out.wk (Nat.le_refl _)) (fun _ => rfl)
      (fun pre W => RdAt w q a w8.heap.size Ds qn vs (mvs (parted (freshL S M) qn)) (some ⟨b', o', none⟩) c4 (some ⟨b, o, none⟩) co (ord (upto qn) ps) (w9.heap.size + 1) w9.heap.size W0.heap.size A9 nbx c9 (homesL (freshL S M) qn ps m) wx.heap.size (S ++ (doneL (freshL S M) qn ps ((ord (upto qn) ps).take j)) ++ pre.map Prod.fst) ((doneL (freshL S M) qn ps ((ord (upto qn) ps).take j)).flatMap (nxM q.kind q.radius a.r) ++ (pre.map Prod.fst).flatMap (nxM q.kind q.radius a.r)) W)
      (fun pre W W' row hs hg hr => hs.own_ hg hr) (fun pre X X' h hb => h.below hb) (fun pre X h => h.wk) ?h0 (sent_own _)
      (fun x a' W => ∃ bx : Nat, a' = { tmps := #[Value.agg #[Value.int IntKind.i64 q.kind, Value.int IntKind.i64 q.src, Value.int IntKind.i64 q.dst, Value.slice q.W q.nw q.cw, Value.int IntKind.i64 q.radius, Value.int IntKind.i64 q.most], Value.agg #[Value.slice a.A1 a.n1 a.c1, Value.slice a.A2 a.n2 a.c2, Value.slice a.A3 a.n3 a.c3, Value.slice a.A4 a.n4 a.c4], Value.slice As ns cs, Value.slice Am nm cm, Value.int IntKind.i64 (qn : Int), Value.slice Ap np cp, Value.pointer (some { block := w.heap.size, off := 0 }), Value.pointer (some { block := w.heap.size + 1, off := 0 }), undef, undef, undef, undef, Value.slice none 0 0, Value.slice none 0 0, Value.int IntKind.i64 0, Value.pointer (some { block := w.heap.size + 1 + 1, off := 0 }), Value.func (Fn.func 47) #[] #[Value.pointer (some { block := w.heap.size + 1 + 1, off := 0 })], Value.slice (some ⟨b, o, none⟩) qn co, Value.int IntKind.i64 0, Value.slice (some ⟨b', o', none⟩) qn c4, Value.int IntKind.i64 0, Value.pointer (some { block := w8.heap.size, off := 0 }), Value.pointer (some { block := w8.heap.size + 1, off := 0 }), undef, .int .i64 (m : Nat), .pointer (some ⟨w9.heap.size, 0, none⟩), .func (.func 56) #[.pointer (some ⟨w9.heap.size, 0, none⟩)] #[], .pointer (some ⟨bx, 0, none⟩), .slice x.2.1 x.2.2.1 x.2.2.2, Value.pointer (some { block := w.heap.size + 1, off := 0 }), Value.slice a.A1 a.n1 a.c1, Value.int IntKind.i64 ↑a.n1, Value.int IntKind.i64 (↑a.n1 - 1), Value.func (Fn.func 47) #[] #[Value.pointer (some { block := w.heap.size + 1 + 1, off := 0 })], Value.agg #[Value.slice a.A1 a.n1 a.c1, Value.slice a.A2 a.n2 a.c2, Value.slice a.A3 a.n3 a.c3, Value.slice a.A4 a.n4 a.c4], Value.bool true, Value.bool false, Value.tuple #[Value.slice (some ⟨b, o, none⟩) qn co, Value.int IntKind.i64 0], Value.int IntKind.i64 (qn : Int), Value.slice Ap np cp, Value.tuple #[Value.slice (some ⟨b, o, none⟩) qn co, Value.int IntKind.i64 0], Value.slice (some ⟨b, o, none⟩) qn co, Value.int IntKind.i64 0, Value.tuple #[Value.slice (some ⟨b', o', none⟩) qn c4, Value.int IntKind.i64 0], Value.slice As ns cs, Value.slice Am nm cm, Value.slice A3 k3 c3, Value.int IntKind.i64 (qn : Int), Value.tuple #[Value.slice (some ⟨b', o', none⟩) qn c4, Value.int IntKind.i64 0], Value.slice (some ⟨b', o', none⟩) qn c4, Value.int IntKind.i64 0, Value.int IntKind.i64 0, Value.bool false, Value.bool false, Value.int IntKind.i64 0, Value.bool false, Value.bool false, Value.bool false, Value.slice As ns cs, Value.int IntKind.i64 (↑a.n1 - 1), Value.bool true, Value.bool false, Value.bool false, Value.bool false, Value.slice Am nm cm, Value.bool true, Value.bool false, Value.bool false, Value.bool false, Value.slice Am nm cm, Value.func (Fn.func 47) #[] #[Value.pointer (some { block := w.heap.size + 1 + 1, off := 0 })], Value.bool false, Value.bool false, Value.slice As ns cs, Value.slice A8 ns c8, Value.slice (some ⟨b, o, none⟩) qn co, Value.int IntKind.i64 (qn : Int), .int .i64 (j : Nat), .bool true, .pointer (some ⟨b, o + j, none⟩), .int .i64 (m : Nat), Value.agg #[Value.int IntKind.i64 q.kind, Value.int IntKind.i64 q.src, Value.int IntKind.i64 q.dst, Value.slice q.W q.nw q.cw, Value.int IntKind.i64 q.radius, Value.int IntKind.i64 q.most], Value.agg #[Value.slice a.A1 a.n1 a.c1, Value.slice a.A2 a.n2 a.c2, Value.slice a.A3 a.n3 a.c3, Value.slice a.A4 a.n4 a.c4], Value.slice (some ⟨b', o', none⟩) qn c4, .int .i64 (m : Nat), Value.pointer (some ⟨b', o' + m, none⟩), Value.slice Ab nbx cbx, Value.slice Ap np cp, Value.slice A9 nbx c9, Value.agg #[Value.int IntKind.i64 q.kind, Value.int IntKind.i64 q.src, Value.int IntKind.i64 q.dst, Value.slice q.W q.nw q.cw, Value.int IntKind.i64 q.radius, Value.int IntKind.i64 q.most, Value.slice a.A1 a.n1 a.c1, Value.slice a.A2 a.n2 a.c2, Value.slice a.A3 a.n3 a.c3, Value.slice a.A4 a.n4 a.c4, Value.slice A9 nbx c9, Value.int IntKind.i64 0], .pointer (some ⟨w9.heap.size, 0, none⟩), .pointer (some ⟨w9.heap.size, 0, none⟩), .func (.func 56) #[.pointer (some ⟨w9.heap.size, 0, none⟩)] #[], .func (.func 56) #[.pointer (some ⟨w9.heap.size, 0, none⟩)] #[], .func (.func 91) #[] #[.pointer (some ⟨w9.heap.size + 1, 0, none⟩)], .agg #[.int .i64 x.1.slot, .int .i64 x.1.dir, .int .i64 x.1.v, .int .i64 x.1.d], .slice x.2.1 x.2.2.1 x.2.2.2, u97, u98, u99, u100, u101, u102, u103, u104, u105, u106, u107, u108, u109, u110, undef, undef, undef, undef, undef, undef, undef, undef, undef], defers := [] } ∧ W.heap[bx]? = some (stBox x.1))
      (fun a' x W W' row hs hg hr => by obtain ⟨bx, h1, h2⟩ := hs; exact ⟨bx, h1, cells_own _ x W W' row h2 hg hr⟩) ?assign ?body ?done
    case h0 =>
      rw [List.map_nil, List.append_nil, List.flatMap_nil, List.append_nil]
      exact HRD.out
    case assign =>
      intro l pre x W K hI hat hK
      have HK := Lib.hid hK
      have HII := Lib.hid hI
      have HAT := Lib.hid hat
      clear hK hI hat
      gi_wp2_with (fail)
      refine HK.out _ _ (below_one _ _) (HII.out.below (below_one _ _)) ⟨HAT.out.1, own_below HAT.out.2 (below_one _ _)⟩ ⟨W.heap.size, rfl, ?_⟩
      exact W.alloc_heap_new _
    case body =>
      rintro l pre x a' W hI hat ⟨bx, rfl, hbx⟩ ⟨xs, hxs⟩
      obtain ⟨An, nn, cn, hbn, hon⟩ := hI.at_.now
      obtain ⟨At, nt, ct, hbt, hot, hat3⟩ := hI.at_.sent
      have hpl : pre.length ≤ 4000 := by
        have h1 := HLH.out
        rw [← hxs, List.length_map, List.length_append] at h1
        omega
      have hnn : nn ≤ 600000 := by
        have h1 := (own_reads hon).mail_len
        rw [List.length_append, List.length_append, List.length_map] at h1
        have h2 := HLS.out
        have h3 := HLD.out
        omega
      have hsub : ∀ y ∈ pre.map Prod.fst, y ∈ freshL S M := fun y hy => homesL_mem (by rw [← hxs, List.map_append]; exact List.mem_append_left _ hy)
      have hnt : nt ≤ 1700000 := by
        have h1 := (own_reads hot).mail_len
        rw [List.length_append] at h1
        have h2 := HNX.out ((doneL (freshL S M) qn ps ((ord (upto qn) ps).take j))) (fun y hy => doneL_mem hy)
        have h3 := HNX.out (pre.map Prod.fst) hsub
        have h4 := HLD.out
        rw [List.length_map] at h3
        omega
      have hxf : x.1 ∈ freshL S M := homesL_mem (by rw [← hxs, List.map_append, List.map_cons]; simp)
      have hx200 : x.2.2.1 ≤ 200 := by
        rw [hat.1]
        have h1 := HNX.out [x.1] (fun y hy => by rw [List.mem_singleton.1 hy]; exact hxf)
        simpa using h1
      have HTN : Hid (W.heap[w8.heap.size]? = some (.cells #[.slice An nn cn] 59 (0, 0))) := hbn
      have HTS : Hid (W.heap[w8.heap.size + 1]? = some (.cells #[.slice At nt ct] 57 (0, 0))) := hbt
      have c1 : W.cell? ⟨w8.heap.size, 0, none⟩ = some (.slice An nn cn) := by rw [Lib.cell_of_heap hbn]; rfl
      obtain ⟨x0, x1, x2, x3⟩ : W.cell? ⟨bx, 0, none⟩ = some (.int .i64 x.1.slot) ∧ W.cell? ⟨bx, 1, none⟩ = some (.int .i64 x.1.dir) ∧ W.cell? ⟨bx, 2, none⟩ = some (.int .i64 x.1.v) ∧ W.cell? ⟨bx, 3, none⟩ = some (.int .i64 x.1.d) := by
        unfold stBox at hbx
        refine ⟨?_, ?_, ?_, ?_⟩ <;> · rw [Lib.cell_of_heap hbx]; rfl
      have hws : w.heap.size ≤ W.heap.size := hI.at_.st.bel.size
      have HII := Lib.hid hI
      have HAT := Lib.hid hat
      have HON := Lib.hid hon
      have HOT := Lib.hid hot
      have HA3 := Lib.hid hat3
      clear hI hat hbx hbn hbt hon hot hat3 hsub hxf hxs hpl
      have HR6 : Hid (∀ (A6 : Option Addr) (c6 : Nat) (w6 : World), w6.ownsRow w.heap.size 121 4 (.slice A6 (nn + 1) c6) (nn + 1) (mv (S ++ (doneL (freshL S M) qn ps ((ord (upto qn) ps).take j)) ++ pre.map Prod.fst) ++ (#[Value.int .i64 x.1.slot, Value.int .i64 x.1.dir, Value.int .i64 x.1.v, Value.int .i64 x.1.d] : Array Value).toList) → Pushed W w6 An A6 →
          RdAt w q a w8.heap.size Ds qn vs (mvs (parted (freshL S M) qn)) (some ⟨b', o', none⟩) c4 (some ⟨b, o, none⟩) co (ord (upto qn) ps) (w9.heap.size + 1) w9.heap.size W0.heap.size A9 nbx c9 (homesL (freshL S M) qn ps m) wx.heap.size (S ++ (doneL (freshL S M) qn ps ((ord (upto qn) ps).take j)) ++ pre.map Prod.fst ++ [x.1]) ((doneL (freshL S M) qn ps ((ord (upto qn) ps).take j)).flatMap (nxM q.kind q.radius a.r) ++ (pre.map Prod.fst).flatMap (nxM q.kind q.radius a.r)) (w6.setCell ⟨w8.heap.size, 0, none⟩ (.slice A6 (nn + 1) c6)) ∧ KeepsOthers W (w6.setCell ⟨w8.heap.size, 0, none⟩ (.slice A6 (nn + 1) c6))) := fun A6 c6 w6 ho p =>
        HII.out.grow_now HTN.out HON.out p (by rw [mv_append]; simpa [mv, mc] using ho)
      gi_wp2_with (first
        | (refine wpListIn_push elState rfl (.tmp 97) (.tmp 99) rfl HON.out rfl _ rfl rfl (mc_one x.1) (by unfold maxLen; omega) (by omega) hws ?_; intro A6 c6 w6 ho6 p6; have hb6 := box_T HTN.out p6.grown (rowT_own HON.out) (by decide); have g0 := Boxed.cell hb6; have g1 := Boxed.frozen hb6; have hs6 := box_T HTS.out p6.grown (rowT_own HON.out) (by decide); have g2 := Boxed.cell hs6; have HS7 := Lib.hid (box_T hs6 (grownBy_setCell' w6 w8.heap.size (.slice A6 (nn + 1) c6)) (rowT_box hb6) (by decide)); have HO7 := Lib.hid (own_T (own_T HOT.out p6.grown (rowT_own HON.out) (by decide)) (grownBy_setCell' w6 w8.heap.size (.slice A6 (nn + 1) c6)) (rowT_box hb6) (by decide)); have HAT7 := Lib.hid (sent_grow_now (n' := nn + 1) (c' := c6) HAT.out HTN.out HON.out p6); have HRK := Lib.hid (HR6.out A6 c6 w6 ho6 p6); clear hb6 hs6 ho6 p6; have hws7 : w.heap.size ≤ (w6.setCell ⟨w8.heap.size, 0, none⟩ (.slice A6 (nn + 1) c6)).heap.size := Nat.le_trans hws HRK.out.2.size)
        | (refine wpListIn_cat elMail rfl (.tmp 101) (.tmp 102) rfl HO7.out rfl (own_reads HAT7.out.2) rfl (mv_one _) (by unfold maxLen; omega) (by omega) hws7 ?_; intro A8' c8' w8' ho8 p8; have hb8 := box_T HS7.out p8.grown (rowT_own HO7.out) (by decide); have g3 := Boxed.cell hb8; have g4 := Boxed.frozen hb8; have HB8 := Lib.hid hb8; have HO8 := Lib.hid ho8; have HP8 := Lib.hid p8; clear hb8 ho8 p8))
      obtain ⟨R2, K2⟩ := HRK.out.1.grow_sent HS7.out HO7.out HA3.out HP8.out (by rw [mv_append]; exact HO8.out)
      exact ⟨(HRK.out.2.trans K2).from _, by simpa only [List.append_assoc] using R2⟩
    case done =>
      intro D xs W hD hS hI hdef
      rw [hS] at hI
      have hlt2 : w8.heap.size + 2 ≤ wx.heap.size := HRD.out.at_.lt
      have HNF := Lib.hid (hI.next hD hdef hlt2)
      have k11 := hI.wk.kc.2.2.2
      have HORD2 := HORD.out
      clear hI hdef hS hD hlt2
      dsimp only
      go_wp2_with (fail)
      have e77 : Value.int IntKind.i64 ((j : Int) + 1) = .int .i64 ((j + 1 : Nat) : Int) := by go_num
      rw [e77, HI.out]
      refine ⟨⟨j + 1, D :: Ds, _, _, _, _, _, _, _, _, _, _, _, _, _, _, _, _, _, _, _, _, _, _, _, _, _, _, _, _, _, _, _, _, _, _, _, _, _, _, by omega, ?_, rfl⟩, by simp [intOf]; omega⟩
      have e : (doneL (freshL S M) qn ps ((ord (upto qn) ps).take j)) ++ homesL (freshL S M) qn ps m = (doneL (freshL S M) qn ps ((ord (upto qn) ps).take (j + 1))) := (doneL_step ps HORD2).symm
      rw [List.append_assoc, ← List.flatMap_append, e] at HNF
      exact HNF
  all_goals exact hq.elim
end Go.Proofs.YtpdnipabaimofaaGreat
