/-
  A graph made normal: the walk.
-/
import Derived.Test.YtichoidkemeibaaGreatJ23
namespace Go.Proofs.YtichoidkemeibaaGreat
open Go.RowKit

set_option maxRecDepth 100000 in
set_option maxHeartbeats 4000000 in
theorem normal_c (g : Gr) (A1 A2 : Option Addr) (n1 n2 c1 c2 : Nat) (vs : List Value) (w : World) (h : GrIn w w.heap.size g A1 n1 A2 n2 vs) (hb : Hid (sized g)) :
    Calls Tryz.prog 115 #[.agg #[.int .i64 g.n, .slice A1 n1 c1, .slice A2 n2 c2]] w fun e w' => NDone w w' g e := by
  have L1 := Lib.hid h.len1
  have L2 := Lib.hid h.len2
  have hx := (boxed_new h c1 c2).step (below_oneG _ (.cells #[.int .i64 0, .slice none 0 0, .slice none 0 0] 77))
  have hz := GAt.new (w.alloc (.cells #[.int .i64 g.n, .slice A1 n1 c1, .slice A2 n2 c2] 77)) 0 none 0 0 none 0 0
  rw [World.size_alloc] at hz
  have HX := Lib.hid hx
  have HZ := Lib.hid hz
  clear hx hz h
  go_enter Tryz.func115, Tryz.ntmps115
  go_wp2_with (fail)
  refine (check_cG g A1 A2 n1 n2 c1 c2 vs _ HX.out.in_ hb).mono ?_
  rintro e w1 ⟨rfl, hB1⟩
  have hx1 := HX.out.step hB1
  have hz1 := HZ.out.below hB1 HZ.out.lt
  have HX1 := Lib.hid hx1
  have HZ1 := Lib.hid hz1
  clear hB1 HX HZ
  by_cases hc : checkG g
  rotate_left
  · rw [decide_eq_false hc]
    have HC := Lib.hid hc
    obtain ⟨e0, e1, e2⟩ := hz1.cells
    have f0 := hz1.frozen 0
    have f1 := hz1.frozen 1
    have f2 := hz1.frozen 2
    clear hc hx1 hz1
    go_wp2_with (fail)
    refine (show bodyPost _ _ _ Exit.ret _ (putG w1 (w.heap.size + 1) 0 none 0 0 none 0 0) from ?_)
    exact normal_no rfl rfl rfl (putG_at HZ1.out 0 none 0 0 none 0 0) (putG_below HX1.out.bel (Nat.le_succ _) 0 none 0 0 none 0 0) HC.out
  rw [decide_eq_true hc]
  have HC := Lib.hid hc
  have hn1 : n1 ≤ 2000 := by have h1 := hc.2.1; have h2 := L1.out; omega
  have hn2 : n2 ≤ 200 := by have h1 := hc.2.2.1; have h3 := hc.1.2; have h2 := L2.out; omega
  clear hc
  obtain ⟨q0, q1, q2⟩ := hx1.box.cells
  clear hx1 hz1
  go_wp2_with (fail)
  have hz1 := HZ1.out
  have hs1 : w.heap.size + 1 + 1 ≤ w1.heap.size := hz1.lt
  have hx1a := HX1.out.step (below_oneG w1 (.cells #[.int .i64 0, .slice none 0 0, .slice none 0 0] 77))
  have hz1a := hz1.below (below_oneG w1 (.cells #[.int .i64 0, .slice none 0 0, .slice none 0 0] 77)) hz1.lt
  have hn1a := GAt.new w1 0 none 0 0 none 0 0
  obtain ⟨r0, r1, r2⟩ := hx1a.box.cells
  have HX1A := Lib.hid hx1a
  have HZ1A := Lib.hid hz1a
  have HN1A := Lib.hid hn1a
  clear hx1a hz1a hn1a hz1
  refine Code.wp_mono (Q := fun ex a w9 => match ex with | Exit.normal => ∃ nb B1 k1 d1 l1 u11 u12 u13 u14 u15 u16 u17, a = ({ tmps := #[.agg #[.int .i64 g.n, .slice A1 n1 c1, .slice A2 n2 c2], .pointer (some ⟨w.heap.size, 0, none⟩), .pointer (some ⟨w.heap.size + 1, 0, none⟩), .int .i64 0, .pointer (some ⟨nb, 0, none⟩), undef, undef,
      .agg #[.int .i64 g.n, .slice A1 n1 c1, .slice A2 n2 c2], .bool true, .bool false, undef, u11, u12, u13, u14, u15, u16, u17, undef, undef, undef, undef, undef, undef, undef, undef, undef, undef, undef, undef, undef, undef, undef, undef, undef], defers := [] } : Act) ∧ Rises lessE l1 ∧ (∀ x ∈ l1, x ∈ g.es) ∧ (l1.length ≤ g.es.length ∧ (g.es.length = 1 → l1 = g.es)) ∧ NSt w w9 nb g A1 n1 c1 A2 n2 c2 vs l1 [] B1 k1 d1 none 0 [] | _ => False) ?mono ?reg
  case reg =>
    go_region_law (first
      | (go_simp; go_at_call 112; refine (edges_c _).mono ?_; rintro e w5 ⟨rfl, hB5⟩
         have hx5 : BoxedG w w.heap.size g A1 n1 c1 A2 n2 c2 vs w5 := by first | exact HX1.out.drew.step hB5 | exact HX1A.out.drew.step hB5
         have hz5 : GAt w5 (w.heap.size + 1) 0 none 0 0 none 0 0 := by first | exact HZ1.out.drew.below hB5 HZ1.out.lt | exact HZ1A.out.drew.below hB5 HZ1A.out.lt
         have hs5 : w1.heap.size ≤ w5.heap.size := by have := hB5.size; first | exact this | (simp at this; omega)
         obtain ⟨a0, a1, a2⟩ := hx5.box.cells
         have hx5a := hx5.step (below_oneG w5 (.cells #[.int .i64 0, .slice none 0 0, .slice none 0 0] 77))
         have hz5a := hz5.below (below_oneG w5 (.cells #[.int .i64 0, .slice none 0 0, .slice none 0 0] 77)) hz5.lt
         have hn5a := GAt.new w5 0 none 0 0 none 0 0
         obtain ⟨b0, b1, b2⟩ := hx5a.box.cells
         try (have hn5 : GAt w5 w1.heap.size 0 none 0 0 none 0 0 := HN1A.out.drew.below hB5 HN1A.out.lt))
      | (go_simp; go_at_call 142; refine (onceE_c A1 n1 c1 g.es _ (by first | exact hx5.in_.es | exact hx5a.in_.es) (by omega)).mono ?_; rintro e w6 ⟨B1, k1, d1, l1, rfl, p1, p2, p3, ho6, hB6⟩
         have hx6 : BoxedG w w.heap.size g A1 n1 c1 A2 n2 c2 vs w6 := by first | exact hx5.step hB6 | exact hx5a.step hB6
         have hz6 : GAt w6 (w.heap.size + 1) 0 none 0 0 none 0 0 := by first | exact hz5.below hB6 hz5.lt | exact hz5a.below hB6 hz5a.lt
         obtain ⟨a3, a4, a5⟩ := hx6.box.cells
         have hx6a := hx6.step (below_oneG w6 (.cells #[.int .i64 0, .slice none 0 0, .slice none 0 0] 77))
         obtain ⟨b3, b4, b5⟩ := hx6a.box.cells
         try (have hn6 : GAt w6 w1.heap.size 0 none 0 0 none 0 0 := hn5.below hB6 hn5.lt
              obtain ⟨x0, x1, x2⟩ := hn6.cells
              have y0 := hn6.frozen 0
              have y1 := hn6.frozen 1
              have y2 := hn6.frozen 2)
         try (have hn6 : GAt w6 w5.heap.size 0 none 0 0 none 0 0 := hn5a.below hB6 hn5a.lt
              obtain ⟨x0, x1, x2⟩ := hn6.cells
              have y0 := hn6.frozen 0
              have y1 := hn6.frozen 1
              have y2 := hn6.frozen 2)))
    all_goals (first
      | exact ⟨_, B1, k1, d1, l1, _, _, _, _, _, _, _, rfl, p1, p2, p3, nst_new hx6 hz6 ho6 (by first | omega | (rw [World.size_alloc]; omega))⟩
      | exact ⟨_, B1, k1, d1, l1, _, _, _, _, _, _, _, rfl, p1, p2, p3, nst_put hx6 hz6 hn6 (by omega) ho6 (by first | omega | (rw [World.size_alloc]; omega))⟩)
  case mono =>
    intro ex a w9 hq
    cases ex
    case normal =>
      obtain ⟨nb, B1, k1, d1, l1, u11, u12, u13, u14, u15, u16, u17, rfl, p1, p2, p3', hN⟩ := hq
      have P3 := Lib.hid p3'.2
      have p3 := p3'.1
      clear p3'
      have HN := Lib.hid hN
      obtain ⟨t0, t1, t2⟩ := hN.x.box.cells
      clear hN
      go_wp2_with (fail)
      go_loopw [21] (fun i wr => ∃ (j : Nat) (B2 : Option Addr) (d2 : Nat) (us : List Value) (ls : List (List ByteArray)), j ≤ n2 ∧ i = .int .i64 j ∧ ls.length = j ∧ (∀ d ∈ ls, goodRow d) ∧ NSt w wr nb g A1 n1 c1 A2 n2 c2 vs l1 ls B1 k1 d1 B2 d2 us) (fun i _ => n2 - (intOf i).toNat)
      case atStart => exact ⟨0, none, 0, [], [], Nat.zero_le _, rfl, rfl, fun d hd => by simp at hd, HN.out⟩
      case round =>
        clear HN t0 t1 t2 r0 r1 r2 q0 q1 q2 HX1 HZ1 HX1A HZ1A HN1A hs1
        obtain ⟨j, B2, d2, us, ls, hj, rfl, rfl, hgood, hN⟩ := hrel
        have HG := Lib.hid hgood
        have HN := Lib.hid hN
        by_cases hjn : ls.length < n2
        · obtain ⟨A, n, c, l, hv, hl⟩ := hN.x.in_.row_is hjn
          obtain ⟨b2, o2, hA2, hcell, hnm, hrd⟩ := hN.x.in_.row_of hv.out hl.out
          subst hA2
          have hw : wordsOk l := HC.out.2.2.2.2 l (List.mem_of_getElem? hl.out)
          have hnl : l.length = n := hrd.str_len
          have hnn : n ≤ 1000000 := by have := hw.1; omega
          have HW := Lib.hid hw
          obtain ⟨e0, e1, e2⟩ := hN.o.cells
          have f1 : (0 : Int) ≤ (ls.length : Int) := by omega
          have f2 : (ls.length : Int) < (n2 : Int) := by omega
          clear hrd hw hN hgood
          go_wp2_with (fail)
          go_region_law (first
            | (go_simp; go_at_call 109; refine (words_c _).mono ?_; rintro e w5 ⟨rfl, hB5⟩
               have hN5 := HN.out.drew.step hB5
               obtain ⟨y0, y1, y2⟩ := hN5.o.cells
               have hrd5 := (hN5.x.in_.row_of hv.out hl.out).choose_spec.choose_spec.2.2.2)
            | (go_simp; go_at_call 143; refine (onceS_c A n c l _ hrd5 hnn).mono ?_; rintro e w6 ⟨A7, k7, c7, l7, rfl, p4, p5, p6, ho7, hB6⟩
               have hN6 := hN5.step hB6
               obtain ⟨x0, x1, x2⟩ := hN6.o.cells
               have hws6 := hN6.ws
               have hsz6 := hN6.size
               have hN7 := hN6.step (below_oneG w6 (.cells #[.slice A7 k7 c7] 22))
               obtain ⟨v0, v1, v2⟩ := hN7.o.cells)
            | (refine step_push elRows rfl (.tmp 26) (.tmp 30) rfl hws6 rfl _ rfl rfl (one_slice _ _ _) (by unfold maxLen; omega) (by omega) hsz6 ?_; intro A8 c8 w8 ho8 p8
               have hg8 : GAt w8 nb g.n B1 k1 d1 B2 ls.length d2 := box_pushed p8 hws6 hN6.o (by decide)
               obtain ⟨z0, z1, z2⟩ := hg8.cells
               have fz2 := hg8.frozen 2))
          all_goals
            have hN9 := Lib.hid (hN6.row ho8 p8 (own_more ho7 hN5.size) (hN5.rs.apart_base ho7 (Nat.le_refl _)))
            have hG9 : Hid (goodRow l7) := once_row HW.out p4 p5 p6
            clear ho7 ho8 p8 hg8 z0 z1 z2 fz2 hN7 v0 v1 v2 hN6 x0 x1 x2 hws6 hrd5 hN5 y0 y1 y2 e0 e1 e2 hcell
            go_wp2_with (fail)
            go_roundw
            case rel =>
              refine ⟨ls.length + 1, A8, c8, _, ls ++ [l7], by omega, by go_num, by simp, ?_, hN9.out⟩
              intro d hd
              rcases List.mem_append.1 hd with hd | hd
              · exact HG.out d hd
              · rw [List.mem_singleton.1 hd]; exact hG9.out
            case measure => simp [intOf]; omega
        · have hn2e : n2 = ls.length := by omega
          obtain ⟨e0, e1, e2⟩ := hN.o.cells
          obtain ⟨z0, z1, z2⟩ := hN.z.cells
          have fz0 := hN.z.frozen 0
          have fz1 := hN.z.frozen 1
          have fz2 := hN.z.frozen 2
          clear hN hgood
          have HB : Hid (Below w.heap.size w (putG wr (w.heap.size + 1) g.n B1 k1 d1 B2 ls.length d2)) := putG_below HN.out.x.bel (Nat.le_succ _) g.n B1 k1 d1 B2 ls.length d2
          have hr := fun {A : Option Addr} {n c : Nat} {e : TypeId} {sz : Nat} {xs : List Value} {bb : Nat} (h : wr.ownsRow bb e sz (.slice A n c) n xs) (hne : e ≠ 77) => own_setBox h HN.out.z hne (putG_grown wr (w.heap.size + 1) g.n B1 k1 d1 B2 ls.length d2)
          have HE : Hid (isG ⟨g.n, l1, ls⟩) := normal_is HC.out p1 p2 p3 (by rw [L2.out, hn2e]) HG.out
          have HI : Hid (GrIn (putG wr (w.heap.size + 1) g.n B1 k1 d1 B2 ls.length d2) (putG wr (w.heap.size + 1) g.n B1 k1 d1 B2 ls.length d2).heap.size ⟨g.n, l1, ls⟩ B1 k1 B2 ls.length us) :=
            grIn_own (g := ⟨g.n, l1, ls⟩) (hr HN.out.es (by decide)) (hr HN.out.ws (by decide)) (rows_setBox HN.out.rs HN.out.z (by decide) (putG_grown wr (w.heap.size + 1) g.n B1 k1 d1 B2 ls.length d2))
          have HZ : Hid (GAt (putG wr (w.heap.size + 1) g.n B1 k1 d1 B2 ls.length d2) (w.heap.size + 1) g.n B1 k1 d1 B2 ls.length d2) := putG_at HN.out.z g.n B1 k1 d1 B2 ls.length d2
          clear hr
          go_wp2_with (fail)
          refine (show bodyPost _ _ _ Exit.ret _ (putG wr (w.heap.size + 1) g.n B1 k1 d1 B2 ls.length d2) from ?_)
          exact normal_yes (g' := ⟨g.n, l1, ls⟩) rfl rfl rfl HZ.out HB.out HI.out HC.out HE.out ⟨rfl, P3.out⟩
    all_goals exact hq.elim
end Go.Proofs.YtichoidkemeibaaGreat
