/-
  The program reads a query.
-/
import Derived.Test.YtmnjlhifjjainaaFrRd
namespace Go.Proofs.Ytmnjlhifjjainaa
open Go.RowKit

theorem query_end {a : Act} {w w5 : World} {b p p' o c : Nat} {s : ByteArray} {kind : Int} {q : Qry} {A : Option Addr} (ht : a.tmps.getD 4 undef = .pointer (some ⟨o, 0, none⟩)) (hd : a.defers = [])
    (hQ : QAt w5 o q A q.words.length c) (H : rdQ s kind p = some (q, p')) (hr : RfAt w5 b s p') (ho : w5.ownsRow w.heap.size 9 1 (.slice A q.words.length c) q.words.length (sv q.words)) (hG : w.grownBy w5 (some b)) :
    bodyPost Try.prog Try.f47 (fun e w' => QDone w w' b s e (rdQ s kind p)) Exit.ret a w5 := by
  obtain ⟨c0, c1, c2, c3, c4, c5⟩ := hQ.cells
  refine bodyPost_ret (v := .agg #[.int .i64 q.kind, .int .i64 q.src, .int .i64 q.dst, .slice A q.words.length c, .int .i64 q.radius, .int .i64 q.most]) ?_ hd ?_
  · rw [Array.getD_eq_getD_getElem?] at ht
    simp [results, Try.results47, ht, c0, c1, c2, c3, c4, c5, go_sem]
  · rw [H]
    exact ⟨A, c, rfl, hr, ho, hG⟩

set_option maxRecDepth 100000 in
set_option maxHeartbeats 600000 in
theorem query_c (b : Nat) (s : ByteArray) (p : Nat) (kind : Int) (w : World) (hc : RfAt w b s p) (hs : s.size ≤ 1000000) :
    Calls Try.prog 47 #[.pointer (some ⟨b, 0, none⟩), .int .i64 kind] w fun e w' => QDone w w' b s e (rdQ s kind p) := by
  have hbl := hc.lt
  have hq0 : QAt (w.alloc (.cells #[.int .i64 0, .int .i64 0, .int .i64 0, .slice none 0 0, .int .i64 0, .int .i64 0] 24)) w.heap.size noQ none 0 0 := QAt.new w noQ none 0 0
  have hG0 := only_alloc (only_refl w (some b)) (.cells #[.int .i64 0, .int .i64 0, .int .i64 0, .slice none 0 0, .int .i64 0, .int .i64 0] 24)
  have hr0 := hc.below (below_one w (.cells #[.int .i64 0, .int .i64 0, .int .i64 0, .slice none 0 0, .int .i64 0, .int .i64 0] 24))
  clear hc
  rcases h1 : rdAt s p with _ | ⟨a, p1⟩
  · have H : Hid (rdQ s kind p = none) := by show _ = _; simp only [rdQ, h1]
    go_enter Try.func47, Try.ntmps47
    go_wp2_with (fail)
    refine (rfNumber_none b s p _ hr0 hs h1).mono ?_
    rintro e w2 ⟨rfl, hG⟩
    have HG := Lib.hid (only_trans_row hG0 hG)
    unfold thrown
    refine ⟨rfl, ?_⟩
    show QDone w w2 b s thrown (rdQ s kind p)
    rw [H.out]
    exact ⟨rfl, HG.out⟩
  · go_enter Try.func47, Try.ntmps47
    go_wp2_with (fail)
    refine (rfNumber_some b s p a p1 _ hr0 hs h1).mono ?_
    rintro e w2 ⟨rfl, hr2, hG⟩
    have hG2 := only_trans_row hG0 hG
    have hq2 := Lib.hid (hq0.grown hG (by omega))
    have hlt := hq2.out.lt
    clear hG0 hG hr0 hq0
    obtain ⟨o, ho⟩ : ∃ o, w.heap.size = o := ⟨_, rfl⟩
    rw [ho] at hq2 hlt hbl ⊢
    have HO := Lib.hid ho
    clear ho
    have hr3 := hr2.below (below_one w2 (.cells #[.int .i64 kind, .int .i64 a, .int .i64 0, .slice none 0 0, .int .i64 0, .int .i64 0] 24))
    have hG3 := only_alloc hG2 (.cells #[.int .i64 kind, .int .i64 a, .int .i64 0, .slice none 0 0, .int .i64 0, .int .i64 0] 24)
    have hq3 := Lib.hid (hq2.out.below (below_one w2 (.cells #[.int .i64 kind, .int .i64 a, .int .i64 0, .slice none 0 0, .int .i64 0, .int .i64 0] 24)) hlt)
    have hx3 := QAt.new w2 ⟨kind, a, 0, [], 0, 0⟩ none 0 0
    clear hr2 hG2 hq2
    by_cases hk : kind ≤ 2
    · rcases h2 : rdAt s p1 with _ | ⟨d, p2⟩
      · have H : Hid (rdQ s kind p = none) := by show _ = _; simp only [rdQ, h1, h2, if_pos hk]
        clear h1
        go_wp2_with (fail)
        refine (rfNumber_none b s p1 _ hr3 hs h2).mono ?_
        rintro e w4 ⟨rfl, hG⟩
        have HG := Lib.hid (only_trans_row hG3 hG)
        unfold thrown
        refine ⟨rfl, ?_⟩
        show QDone w w4 b s thrown (rdQ s kind p)
        rw [H.out]
        exact ⟨rfl, HG.out⟩
      · have H : Hid (rdQ s kind p = some (⟨kind, a, d, [], 0, 0⟩, p2)) := by show _ = _; simp only [rdQ, h1, h2, if_pos hk]
        clear h1
        go_wp2_with (fail)
        refine (rfNumber_some b s p1 d p2 _ hr3 hs h2).mono ?_
        rintro e w4 ⟨rfl, hr4, hG⟩
        have hlt4 := hx3.lt
        have hx4 := Lib.hid (hx3.grown hG (by omega))
        have hq4 := Lib.hid (hq3.out.grown hG (by omega))
        have hG4 := Lib.hid (only_trans_row hG3 hG)
        have hr4 := Lib.hid hr4
        clear hq3 hx3 hG hG3 hr3 h2
        generalize w2.heap.size = bq at *
        obtain ⟨c0, c1, c2, c3, c4, c5⟩ := hx4.out.cells
        obtain ⟨d0, d1, d2, d3, d4, d5⟩ := hq4.out.cells
        have g0 := hq4.out.frozen 0
        have g1 := hq4.out.frozen 1
        have g2 := hq4.out.frozen 2
        have g3 := hq4.out.frozen 3
        have g4 := hq4.out.frozen 4
        have g5 := hq4.out.frozen 5
        have hf2 := hx4.out.frozen 2
        have hne : ¬ o = bq := by omega
        have hne' : ¬ bq = o := by omega
        go_wp2_with (fail)
        have hG5 := only_setCell' (k := bq) (o := 2) hG4.out (by rw [HO.out]; omega) (.int .i64 d)
        have hq5 := (hq4.out.grown (only_setCellS (only_refl w4 (some bq)) 2 (.int .i64 d)) (by omega))
        have hr5 := (hr4.out.grown (only_setCellS (only_refl w4 (some bq)) 2 (.int .i64 d)) (by omega))
        refine (show bodyPost _ _ _ Exit.ret _ (putQ (w4.setCell ⟨bq, 2, none⟩ (.int .i64 d)) o ⟨kind, a, d, [], 0, 0⟩ none 0 0) from ?_)
        have hQ6 := putQ_at hq5 ⟨kind, a, d, [], 0, 0⟩ none 0 0
        have hR6 := hr5.grown (putQ_grown _ o ⟨kind, a, d, [], 0, 0⟩ none 0 0) (by omega)
        have hG6 := putQ_only hG5 (Nat.le_of_eq HO.out) ⟨kind, a, d, [], 0, 0⟩ none 0 0
        generalize putQ (w4.setCell ⟨bq, 2, none⟩ (.int .i64 d)) o ⟨kind, a, d, [], 0, 0⟩ none 0 0 = w6 at hQ6 hR6 hG6 ⊢
        exact query_end (o := o) (c := 0) (A := none) (q := ⟨kind, a, d, [], 0, 0⟩) rfl rfl hQ6 H.out hR6 own_nil hG6
    · have HK := Lib.hid hk
      rcases h2 : rdAt s p1 with _ | ⟨n, p2⟩
      · have H : Hid (rdQ s kind p = none) := by show _ = _; simp only [rdQ, h1, h2, if_neg hk]
        clear h1
        go_wp2_with (fail)
        refine (rfMost_none b s p1 8 _ hr3 hs h2).mono ?_
        rintro e w4 ⟨rfl, hG⟩
        have HG := Lib.hid (only_trans_row hG3 hG)
        unfold thrown
        refine ⟨rfl, ?_⟩
        show QDone w w4 b s thrown (rdQ s kind p)
        rw [H.out]
        exact ⟨rfl, HG.out⟩
      by_cases hn8 : (n : Int) ≤ 8
      rotate_left
      · have H : Hid (rdQ s kind p = none) := by show _ = _; simp only [rdQ, h1, h2, if_neg hk, if_neg hn8]
        have HN8 := Lib.hid hn8
        clear h1
        go_wp2_with (fail)
        refine (rfMost_big b s p1 8 n p2 _ hr3 hs h2 (by omega)).mono ?_
        rintro e w4 ⟨rfl, hG⟩
        have HG := Lib.hid (only_trans_row hG3 hG)
        unfold thrown
        refine ⟨rfl, ?_⟩
        show QDone w w4 b s thrown (rdQ s kind p)
        rw [H.out]
        exact ⟨rfl, HG.out⟩
      · have H1 := Lib.hid h1
        clear h1
        go_wp2_with (fail)
        refine (rfMost_some b s p1 8 n p2 _ hr3 hs h2 hn8).mono ?_
        rintro e w4 ⟨rfl, hr4, hG⟩
        have H2 := Lib.hid h2
        have hlt4 := hx3.lt
        have hx4 := Lib.hid (hx3.grown hG (by omega))
        have hq4 := Lib.hid (hq3.out.grown hG (by omega))
        have hG4 := Lib.hid (only_trans_row hG3 hG)
        have hr4 := Lib.hid hr4
        have hlt5 := hx4.out.lt
        clear hq3 hx3 hG hG3 hr3 h2
        generalize w2.heap.size = bq at *
        have hne : ¬ o = bq := by omega
        have hne' : ¬ bq = o := by omega
        go_wp2_with (fail)
        go_loopw [18] (fun i wr => ∃ (k : Nat) (l : List ByteArray) (p3 : Nat) (A : Option Addr) (c : Nat), k ≤ n ∧ i = .int .i64 k ∧ Hid (l.length = k) ∧ Hid (rdWords s k p2 = some (l, p3)) ∧ RfAt wr b s p3 ∧ QAt wr bq ⟨kind, a, 0, l, 0, 0⟩ A k c ∧ QAt wr o noQ none 0 0 ∧ wr.ownsRow (bq + 1) 9 1 (.slice A k c) k (sv l) ∧ w.grownBy wr (some b)) (fun i _ => n - (intOf i).toNat)
        case atStart => exact ⟨0, [], p2, none, 0, Nat.zero_le _, rfl, rfl, rfl, hr4.out, hx4.out, hq4.out, own_nil, hG4.out⟩
        case round =>
          clear hr4 hx4 hq4 hG4 hlt5 hlt4
          obtain ⟨k, l, p3, A, c, hkn, rfl, hll, hrd, hr, hx, hq, ho, hG⟩ := hrel
          have hbx := hx.lt
          by_cases hkl : k < n
          · rcases h3 : rdText s p3 with _ | ⟨t, p4⟩
            · have H : Hid (rdQ s kind p = none) := by
                show _ = _
                simp only [rdQ, H1.out, H2.out, if_neg (show ¬ kind ≤ 2 by omega), if_pos hn8, rdWords_stop hrd.out h3 hkl]
              obtain ⟨c0, c1, c2, c3, c4, c5⟩ := hx.cells
              have HG0 := Lib.hid hG
              have HR := Lib.hid (show RfAt wr.drew b s p3 from hr)
              clear hx hq ho hG hr
              go_wp2_with (fail)
              refine wp_region_any (by kernel_rfl) ?_
              change wpAny _ _ _ _ _ _ _ (World.drew _)
              refine wpAny_take (i := 0) (v := .pointer (some ⟨bq, 3, none⟩)) rfl (by kernel_rfl) (by kernel_rfl) (by kernel_rfl) (fun _ _ _ h => h) (Or.inl ⟨by rfl, by intro w'; go_simp; try with_reducible rfl⟩) ?_
              refine wpAny_take (i := 2) (v := .pointer (some ⟨b, 0, none⟩)) rfl (by kernel_rfl) (by kernel_rfl) (by kernel_rfl) (fun _ _ _ h => h) (Or.inl ⟨by rfl, by intro w'; go_simp; try with_reducible rfl⟩) ?_
              refine wpAny_ready (rs := [1, 3]) (by kernel_rfl) (by simp) ?_
              refine AllReady.cons rfl (fun K hK => ?_) (AllReady.cons rfl (fun K hK => ?_) AllReady.nil)
              · go_simp
                refine hK _ _ ?_
                clear hK K
                refine wpAny_ready (rs := [3]) (by kernel_rfl) (by simp) ?_
                refine AllReady.cons rfl (fun K hK => ?_) AllReady.nil
                go_simp
                go_at_call 89
                refine (rfText_none b s p3 _ HR.out hs h3).mono ?_
                rintro e w5 ⟨rfl, hG⟩
                have HG := Lib.hid (only_trans_row (only_drew HG0.out) hG)
                unfold thrown
                refine ⟨rfl, ?_⟩
                show QDone w w5 b s thrown (rdQ s kind p)
                rw [H.out]
                exact ⟨rfl, HG.out⟩
              · go_simp
                go_at_call 89
                refine (rfText_none b s p3 _ HR.out hs h3).mono ?_
                rintro e w5 ⟨rfl, hG⟩
                have HG := Lib.hid (only_trans_row (only_drew HG0.out) hG)
                unfold thrown
                refine ⟨rfl, ?_⟩
                show QDone w w5 b s thrown (rdQ s kind p)
                rw [H.out]
                exact ⟨rfl, HG.out⟩
            · have hrd2 := Lib.hid (rdWords_more hrd.out h3)
              have HX := Lib.hid hx
              have HQ := Lib.hid hq
              have HRR := Lib.hid hr
              have HGG := Lib.hid hG
              obtain ⟨c0, c1, c2, c3, c4, c5⟩ := hx.cells
              have hbl' : b < bq := by omega
              clear hx hq hr hG
              go_wp2_with (fail)
              go_region_law (first
                | (go_simp; go_at_call 89; refine (rfText_some b s p3 t p4 _ (show RfAt wr.drew b s p3 from HRR.out) hs h3).mono ?_; rintro e w5 ⟨rfl, hr5, hG5⟩; have ho5 := isF_own (show wr.drew.ownsRow (bq + 1) 9 1 (.slice A k c) k (sv l) from ho.drew) hG5 (by omega); have hx5 := QAt.grown (show QAt wr.drew bq ⟨kind, a, 0, l, 0, 0⟩ A k c from HX.out) hG5 (by omega); have hsz5 : bq + 1 ≤ w5.heap.size := hx5.lt; have hs5 := Lib.hid hG5.size; obtain ⟨e0, e1, e2, e3, e4, e5⟩ := hx5.cells; have hy5 := hx5.below (below_one w5 (.cells #[.string t] 9)) hx5.lt; obtain ⟨y0, y1, y2, y3, y4, y5⟩ := hy5.cells)
                | (refine step_push elStr rfl (.tmp 21) (.tmp 24) rfl ho5 rfl _ rfl rfl (one_str t) (by unfold maxLen; omega) (by omega) hsz5 ?_; intro A6 c6 w6 ho6 p6; have hx6 : QAt w6 bq ⟨kind, a, 0, l, 0, 0⟩ A k c := (p6.heap hx5.lt (fun x hx => by have := (own_lt ho5 x hx).1; omega)).trans hx5; obtain ⟨f0, f1, f2, f3, f4, f5⟩ := hx6.cells; have hfz := hx6.frozen 3))
              all_goals
                have hgr6 := Lib.hid p6.larger
                have hx7 := Lib.hid (hx6.set3 (l ++ [t]) A6 (k + 1) c6)
                have hq6 : QAt w6 o noQ none 0 0 := (p6.heap (Nat.lt_of_lt_of_le HQ.out.lt hs5.out) (fun x hx => by have := (own_lt ho5 x hx).1; omega)).trans (QAt.grown (show QAt wr.drew o noQ none 0 0 from HQ.out) hG5 (by omega))
                have hr6 : RfAt w6 b s p4 := (p6.heap hr5.lt (fun x hx => by have := (own_lt ho5 x hx).1; omega)).trans hr5
                have hG6 : w.grownBy w6 (some b) := p6.only (only_trans_row (only_drew HGG.out) hG5) (fun x hx => by have := (own_lt ho5 x hx).1; have := HO.out; omega)
                have hq7 := Lib.hid (hq6.grown (only_setCellS (only_refl w6 (some bq)) 3 (.slice A6 (k + 1) c6)) (by omega))
                have hr7 := Lib.hid (hr6.grown (only_setCellS (only_refl w6 (some bq)) 3 (.slice A6 (k + 1) c6)) (by omega))
                have hG7 := Lib.hid (only_setCell' (k := bq) (o := 3) hG6 (by rw [HO.out]; omega) (.slice A6 (k + 1) c6))
                have ho7 := Lib.hid (isF_own ho6 (only_setCellS (only_refl w6 (some bq)) 3 (.slice A6 (k + 1) c6)) (by omega))
                clear hx6 hq6 hr6 hG6 ho6 p6 f0 f1 f2 f3 f4 f5 y0 y1 y2 y3 y4 y5 e0 e1 e2 e3 e4 e5 c0 c1 c2 c3 c4 c5 hx5 hy5 hr5 hG5 ho5 ho
                go_wp2_with (fail)
                go_roundw
                case rel =>
                  refine ⟨k + 1, l ++ [t], p4, A6, c6, by omega, by go_num, by show _ = _; rw [List.length_append, hll.out]; rfl, hrd2.out, hr7.out, hx7.out, hq7.out, ?_, hG7.out⟩
                  rw [sv_append]
                  exact ho7.out
                case measure => simp [intOf] <;> omega
          · obtain rfl : k = n := by omega
            have HX := Lib.hid hx
            have HQ := Lib.hid hq
            have HRR := Lib.hid hr
            have HGG := Lib.hid hG
            have HOO := Lib.hid ho
            clear hx hq hr hG ho
            rcases h3 : rdAt s p3 with _ | ⟨r, p4⟩
            · have H : Hid (rdQ s kind p = none) := by
                show _ = _
                simp only [rdQ, H1.out, H2.out, if_neg (show ¬ kind ≤ 2 by omega), if_pos hn8, hrd.out, h3]
              go_wp2_with (fail)
              refine (rfNumber_none b s p3 _ HRR.out hs h3).mono ?_
              rintro e w4 ⟨rfl, hG⟩
              have HG := Lib.hid (only_trans_row HGG.out hG)
              unfold thrown
              refine ⟨rfl, ?_⟩
              show QDone w w4 b s thrown (rdQ s kind p)
              rw [H.out]
              exact ⟨rfl, HG.out⟩
            · go_wp2_with (fail)
              refine (rfNumber_some b s p3 r p4 _ HRR.out hs h3).mono ?_
              rintro e w4 ⟨rfl, hr4, hG⟩
              have H3 := Lib.hid h3
              have hx4 := HX.out.grown hG (by omega)
              have hq4 := HQ.out.grown hG (by omega)
              have ho4 := isF_own HOO.out hG (by omega)
              have hG4 := only_trans_row HGG.out hG
              obtain ⟨c0, c1, c2, c3, c4, c5⟩ := hx4.cells
              have hf4 := hx4.frozen 4
              have hx5 := Lib.hid (hx4.set4 r)
              have hq5 := Lib.hid (hq4.grown (only_setCellS (only_refl w4 (some bq)) 4 (.int .i64 r)) (by omega))
              have hr5 := Lib.hid (hr4.grown (only_setCellS (only_refl w4 (some bq)) 4 (.int .i64 r)) (by omega))
              have hG5 := Lib.hid (only_setCell' (k := bq) (o := 4) hG4 (by rw [HO.out]; omega) (.int .i64 r))
              have ho5 := Lib.hid (isF_own ho4 (only_setCellS (only_refl w4 (some bq)) 4 (.int .i64 r)) (by omega))
              clear hx4 hq4 ho4 hG4 hr4 hG HX HQ HRR HGG HOO h3
              rcases h6 : rdAt s p4 with _ | ⟨m, p5⟩
              · have H : Hid (rdQ s kind p = none) := by
                  show _ = _
                  simp only [rdQ, H1.out, H2.out, if_neg (show ¬ kind ≤ 2 by omega), if_pos hn8, hrd.out, H3.out, h6]
                go_wp2_with (fail)
                refine (rfNumber_none b s p4 _ hr5.out hs h6).mono ?_
                rintro e w6 ⟨rfl, hG⟩
                have HG := Lib.hid (only_trans_row hG5.out hG)
                unfold thrown
                refine ⟨rfl, ?_⟩
                show QDone w w6 b s thrown (rdQ s kind p)
                rw [H.out]
                exact ⟨rfl, HG.out⟩
              · have H : Hid (rdQ s kind p = some (⟨kind, a, 0, l, r, m⟩, p5)) := by
                  show _ = _
                  simp only [rdQ, H1.out, H2.out, if_neg (show ¬ kind ≤ 2 by omega), if_pos hn8, hrd.out, H3.out, h6]
                go_wp2_with (fail)
                refine (rfNumber_some b s p4 m p5 _ hr5.out hs h6).mono ?_
                rintro e w6 ⟨rfl, hr6, hG⟩
                have hx6 := Lib.hid (hx5.out.grown hG (by omega))
                have hq6 := Lib.hid (hq5.out.grown hG (by omega))
                have ho6 := Lib.hid (isF_own ho5.out hG (by omega))
                have hG6 := Lib.hid (only_trans_row hG5.out hG)
                have hr6 := Lib.hid hr6
                clear c0 c1 c2 c3 c4 c5 hx5 hq5 ho5 hG5 hr5 hG h6 hf4
                obtain ⟨c0, c1, c2, c3, c4, c5⟩ := hx6.out.cells
                obtain ⟨d0, d1, d2, d3, d4, d5⟩ := hq6.out.cells
                have g0 := hq6.out.frozen 0
                have g1 := hq6.out.frozen 1
                have g2 := hq6.out.frozen 2
                have g3 := hq6.out.frozen 3
                have g4 := hq6.out.frozen 4
                have g5 := hq6.out.frozen 5
                have hf5 := hx6.out.frozen 5
                go_wp2_with (fail)
                have hG7 := only_setCell' (k := bq) (o := 5) hG6.out (by rw [HO.out]; omega) (.int .i64 m)
                have hq7 := (hq6.out.grown (only_setCellS (only_refl w6 (some bq)) 5 (.int .i64 m)) (by omega))
                have hr7 := (hr6.out.grown (only_setCellS (only_refl w6 (some bq)) 5 (.int .i64 m)) (by omega))
                have ho7 := isF_own ho6.out (only_setCellS (only_refl w6 (some bq)) 5 (.int .i64 m)) (by omega)
                refine (show bodyPost _ _ _ Exit.ret _ (putQ (w6.setCell ⟨bq, 5, none⟩ (.int .i64 m)) o ⟨kind, a, 0, l, r, m⟩ A k c) from ?_)
                have hQ8 := putQ_at hq7 ⟨kind, a, 0, l, r, m⟩ A k c
                have hR8 := hr7.grown (putQ_grown _ o ⟨kind, a, 0, l, r, m⟩ A k c) (by omega)
                have ho8 := own_more (base := w.heap.size) (isF_own ho7 (putQ_grown _ o ⟨kind, a, 0, l, r, m⟩ A k c) (by omega)) (by rw [HO.out]; omega)
                have hG8 := putQ_only hG7 (Nat.le_of_eq HO.out) ⟨kind, a, 0, l, r, m⟩ A k c
                generalize putQ (w6.setCell ⟨bq, 5, none⟩ (.int .i64 m)) o ⟨kind, a, 0, l, r, m⟩ A k c = w8 at hQ8 hR8 hG8 ho8 ⊢
                have hlk := hll.out
                subst hlk
                exact query_end (o := o) (c := c) (A := A) (q := ⟨kind, a, 0, l, r, m⟩) rfl rfl hQ8 H.out hR8 ho8 hG8
end Go.Proofs.Ytmnjlhifjjainaa
