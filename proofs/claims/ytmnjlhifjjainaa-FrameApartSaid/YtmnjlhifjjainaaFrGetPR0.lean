/-
  GetReply, the reference: a code of 0.
-/
import Derived.Test.YtmnjlhifjjainaaFrGetPR
namespace Go.Proofs.Ytmnjlhifjjainaa
open Go.RowKit

set_option maxRecDepth 100000 in
set_option maxHeartbeats 2000000 in
theorem refGetP_zero (s : ByteArray) (w : World) (hs : s.size ≤ 1000000) (hkd : (cN s (cN s (0, false)).2).1 = 0) :
    Calls Try.prog 22 #[.string s] w fun e w' => GotRep w w' s e := by
  have hQ0 : PAt ((w.alloc (.cells #[.int .i64 0, .int .i64 0, .bool false, .int .i64 0, .slice none 0 0] 40)).alloc (.cells #[.string s, .int .i64 0, .bool false] 84)) w.heap.size noP none 0 0 := (PAt.new w noP none 0 0).below (below_one _ _) (PAt.new w noP none 0 0).lt
  have HC : Hid (CutAt ((w.alloc (.cells #[.int .i64 0, .int .i64 0, .bool false, .int .i64 0, .slice none 0 0] 40)).alloc (.cells #[.string s, .int .i64 0, .bool false] 84)) (w.heap.size + 1) s ((0 : Int), false).1 ((0 : Int), false).2) := by
    have : CutAt ((w.alloc (.cells #[.int .i64 0, .int .i64 0, .bool false, .int .i64 0, .slice none 0 0] 40)).alloc (.cells #[.string s, .int .i64 0, .bool false] 84)) (w.alloc (.cells #[.int .i64 0, .int .i64 0, .bool false, .int .i64 0, .slice none 0 0] 40)).heap.size s 0 false := Array.getElem?_push_size
    rw [World.size_alloc] at this
    exact this
  have hB0 : Below w.heap.size w ((w.alloc (.cells #[.int .i64 0, .int .i64 0, .bool false, .int .i64 0, .slice none 0 0] 40)).alloc (.cells #[.string s, .int .i64 0, .bool false] 84)) := below_two _ _ _
  go_enter Try.func22, Try.ntmps22
  go_wp2_with (fail)
  refine (cutN_c (w.heap.size + 1) s (0, false) _ HC.out hs).mono ?_
  rintro e wN ⟨i, st1, hi, rfl, hCN, hGN⟩
  have hQ1 := hQ0.grown hGN (by omega)
  have hB1 := hB0.trans (only_below hGN (by omega) hB0.size)
  clear hQ0 hB0 HC hGN
  have HC := Lib.hid hCN
  clear hCN
  go_wp2_with (fail)
  refine (cutN_c (w.heap.size + 1) s st1 _ HC.out hs).mono ?_
  rintro e wM ⟨k, st2, hk, rfl, hCM, hGM⟩
  have hQ2 := hQ1.grown hGM (by omega)
  have hB2 := hB1.trans (only_below hGM (by omega) hB1.size)
  clear hQ1 hB1 HC hGM
  have hbl := hCM.lt
  have HX := Lib.hid (PAt.new wM ⟨i, k, false, 0, []⟩ none 0 0)
  have HQ := Lib.hid (hQ2.below (below_one wM (.cells #[.int .i64 i, .int .i64 k, .bool false, .int .i64 0, .slice none 0 0] 40)) hQ2.lt)
  have HC := Lib.hid (hCM.below (below_one wM (.cells #[.int .i64 i, .int .i64 k, .bool false, .int .i64 0, .slice none 0 0] 40)))
  have HB := Lib.hid (hB2.alloc hB2.size (.cells #[.int .i64 i, .int .i64 k, .bool false, .int .i64 0, .slice none 0 0] 40))
  have HO : Hid ((wM.alloc (.cells #[.int .i64 i, .int .i64 k, .bool false, .int .i64 0, .slice none 0 0] 40)).ownsRow (wM.heap.size + 1) 88 2 (.slice none 0 0) 0 (hv [])) := own_nil
  clear hQ2 hCM hB2
  have hkv : (cN s (cN s (0, false)).2).1 = k := by rw [hi.out]; simp only [hk.out]
  rw [hkv] at hkd
  have e0 : (k == 0) = true := by simpa using hkd
  have HK := Lib.hid hkd
  clear hkd hkv
  go_wp2_with (fail)
  refine (cutN_c (w.heap.size + 1) s st2 _ HC.out hs).mono ?_
  rintro e wN ⟨f, st3, hf, rfl, hCN, hGN⟩
  have hXN := HX.out.grown hGN (by omega)
  have hQN := HQ.out.grown hGN (by omega)
  have hON := isF_own HO.out hGN (by omega)
  have hBN := HB.out.trans (only_below hGN (by omega) HB.out.size)
  clear HX HQ HO HB HC hGN
  have HX := Lib.hid hXN
  have HQ := Lib.hid hQN
  have HC := Lib.hid hCN
  have HO := Lib.hid hON
  have HB := Lib.hid hBN
  clear hXN hQN hON hBN hCN
  obtain ⟨fb, hfb⟩ : ∃ fb, decide (f = 1) = fb := ⟨_, rfl⟩
  have HFB := Lib.hid hfb
  have hfe : (f == 1) = fb := by rw [← hfb]; rfl
  clear hfb
  obtain ⟨c0, c1, c2, c3, c4⟩ := HX.out.cells
  have hf := HX.out.frozen 2
  have HX2 := Lib.hid (HX.out.set2 fb)
  have HQ2 := Lib.hid (HQ.out.grown (only_setCellS (only_refl wN (some wM.heap.size)) 2 (.bool fb)) (by omega))
  have HC2 := Lib.hid (HC.out.grown (only_setCellS (only_refl wN (some wM.heap.size)) 2 (.bool fb)) (by omega))
  have HO2 := Lib.hid (isF_own HO.out (only_setCellS (only_refl wN (some wM.heap.size)) 2 (.bool fb)) (by omega))
  have HB2 := Lib.hid (HB.out.setCell (p := ⟨wM.heap.size, 2, none⟩) (by show _ ≤ wM.heap.size; omega) (.bool fb))
  clear HX HQ HO HB HC
  have HX := HX2
  have HQ := HQ2
  have HC := HC2
  have HO := HO2
  have HB := HB2
  clear HX2 HQ2 HC2 HO2 HB2
  go_wp2_with (fail)
  refine (cutN_c (w.heap.size + 1) s st3 _ HC.out hs).mono ?_
  rintro e wN ⟨d, st4, hd, rfl, hCN, hGN⟩
  have hXN := HX.out.grown hGN (by omega)
  have hQN := HQ.out.grown hGN (by omega)
  have hON := isF_own HO.out hGN (by omega)
  have hBN := HB.out.trans (only_below hGN (by omega) HB.out.size)
  try clear c0 c1 c2 c3 c4 hf
  obtain ⟨c0, c1, c2, c3, c4⟩ := hXN.cells
  have hf := hXN.frozen 3
  have HX2 := Lib.hid (hXN.set3 d)
  have HQ2 := Lib.hid (hQN.grown (only_setCellS (only_refl wN (some wM.heap.size)) 3 (.int .i64 d)) (by omega))
  have HC2 := Lib.hid (hCN.grown (only_setCellS (only_refl wN (some wM.heap.size)) 3 (.int .i64 d)) (by omega))
  have HO2 := Lib.hid (isF_own hON (only_setCellS (only_refl wN (some wM.heap.size)) 3 (.int .i64 d)) (by omega))
  have HB2 := Lib.hid (hBN.setCell (p := ⟨wM.heap.size, 3, none⟩) (by show _ ≤ wM.heap.size; omega) (.int .i64 d))
  clear hXN hQN hON hBN hCN hGN HX HQ HO HB HC
  have HX := HX2
  have HQ := HQ2
  have HC := HC2
  have HO := HO2
  have HB := HB2
  clear HX2 HQ2 HC2 HO2 HB2
  go_wp2_with (fail)
  refine (cutN_c (w.heap.size + 1) s st4 _ HC.out hs).mono ?_
  rintro e wN ⟨n, st5, hn, rfl, hCN, hGN⟩
  have hXN := HX.out.grown hGN (by omega)
  have hQN := HQ.out.grown hGN (by omega)
  have hON := isF_own HO.out hGN (by omega)
  have hBN := HB.out.trans (only_below hGN (by omega) HB.out.size)
  clear HX HQ HO HB HC hGN
  have HX := Lib.hid hXN
  have HQ := Lib.hid hQN
  have HC := Lib.hid hCN
  have HO := Lib.hid hON
  have HB := Lib.hid hBN
  clear hXN hQN hON hBN hCN
  obtain ⟨m, hm⟩ : ∃ m, min n.toNat 101 = m := ⟨_, rfl⟩
  have HMIN := Lib.hid hm
  have hm1 : ∀ j : Nat, j < m → (j : Int) < n ∧ (j : Int) < 101 := fun j hj => by omega
  have hm2 : m ≤ 101 := by omega
  have hm3 : ¬ (m : Int) < n ∨ ((m : Int) < n ∧ ¬ (m : Int) < 101) := by omega
  clear hm
  have HM1 := Lib.hid hm1
  have HM3 := Lib.hid hm3
  clear hm1 hm3 c0 c1 c2 c3 c4 hf hfe
  go_wp2_with (fail)
  go_loopw [10] (fun iv wr => ∃ (j : Nat) (l : List Hit) (st : Int × Bool) (A : Option Addr) (c : Nat), j ≤ m ∧ iv = .int .i64 j ∧ Hid (l.length = j) ∧ Hid (cHs s j st5 = (l, st)) ∧ Hid (PAt wr wM.heap.size ⟨i, k, fb, d, l⟩ A j c) ∧ Hid (PAt wr w.heap.size noP none 0 0) ∧ Hid (CutAt wr (w.heap.size + 1) s st.1 st.2) ∧ Hid (wr.ownsRow (wM.heap.size + 1) 88 2 (.slice A j c) j (hv l)) ∧ Hid (Below w.heap.size w wr)) (fun iv _ => m - (intOf iv).toNat)
  case atStart => exact ⟨0, [], st5, none, 0, Nat.zero_le _, rfl, rfl, rfl, HX, HQ, HC, own_nil, HB⟩
  case round =>
    clear HX HQ HC HO HB
    obtain ⟨j, l, st, A, c, hj, rfl, hll, hws, HX, HQ, HC, HO, HB⟩ := hrel
    by_cases hjm : j < m
    · obtain ⟨l1, l2⟩ := HM1.out j hjm
      go_wp2_with (fail)
      refine (cutN_c (w.heap.size + 1) s st _ HC.out hs).mono ?_
      rintro e wN ⟨v, st7, hv, rfl, hCN, hGN⟩
      have hXN := HX.out.grown hGN (by omega)
      have hQN := HQ.out.grown hGN (by omega)
      have hON := isF_own HO.out hGN (by omega)
      have hBN := HB.out.trans (only_below hGN (by omega) HB.out.size)
      clear HX HQ HO HB HC hGN
      have HX := Lib.hid hXN
      have HQ := Lib.hid hQN
      have HC := Lib.hid hCN
      have HO := Lib.hid hON
      have HB := Lib.hid hBN
      clear hXN hQN hON hBN hCN
      go_wp2_with (fail)
      refine (cutN_c (w.heap.size + 1) s st7 _ HC.out hs).mono ?_
      rintro e wP ⟨y, st8, hy, rfl, hCN, hGN⟩
      have hXN := HX.out.grown hGN (by omega)
      have hQN := HQ.out.grown hGN (by omega)
      have hON := isF_own HO.out hGN (by omega)
      have hBN := HB.out.trans (only_below hGN (by omega) HB.out.size)
      clear HX HQ HO HB HC hGN
      have HX := Lib.hid hXN
      have HQ := Lib.hid hQN
      have HC := Lib.hid hCN
      have HO := Lib.hid hON
      have HB := Lib.hid hBN
      clear hXN hQN hON hBN hCN
      have hws2 : Hid (cHs s (j + 1) st5 = (l ++ [⟨v, y⟩], st8)) := by
        show _ = _
        simp only [cHs, hws.out, hv.out, hy.out]
      obtain ⟨c0, c1, c2, c3, c4⟩ := HX.out.cells
      have ho := HO.out
      have hsz : wM.heap.size + 1 ≤ wP.heap.size := HX.out.lt
      have HSZ := Lib.hid hsz
      go_wp2_with (at_builtin; go_must (refine wpList_push elHit rfl _ _ rfl ho rfl _ rfl rfl (hc_one ⟨v, y⟩) (by unfold maxLen; omega) (by omega) hsz ?_; intro A4 c4' w4 ho4 p4; have hx4 : PAt w4 wM.heap.size ⟨i, k, fb, d, l⟩ A j c := (p4.heap HX.out.lt (fun x hx => by have := (own_lt ho x hx).1; omega)).trans HX.out; obtain ⟨f0, f1, f2, f3, f4⟩ := hx4.cells; have hfz := hx4.frozen 4))
      have hq4 : PAt w4 w.heap.size noP none 0 0 := (p4.heap HQ.out.lt (fun x hx => by have := (own_lt ho x hx).1; have := HB.out.size; omega)).trans HQ.out
      have hc4 : CutAt w4 (w.heap.size + 1) s st8.1 st8.2 := (p4.heap HC.out.lt (fun x hx => by have := (own_lt ho x hx).1; omega)).trans HC.out
      have hB4 := p4.below ho HB.out (by omega) HB.out.size
      have HX2 := Lib.hid (hx4.set4 (l ++ [⟨v, y⟩]) A4 (j + 1) c4')
      have HQ2 := Lib.hid (hq4.grown (only_setCellS (only_refl w4 (some wM.heap.size)) 4 (.slice A4 (j + 1) c4')) (by omega))
      have HC2 := Lib.hid (hc4.grown (only_setCellS (only_refl w4 (some wM.heap.size)) 4 (.slice A4 (j + 1) c4')) (by omega))
      have HO2 := Lib.hid (isF_own ho4 (only_setCellS (only_refl w4 (some wM.heap.size)) 4 (.slice A4 (j + 1) c4')) (by omega))
      have HB2 := Lib.hid (hB4.setCell (p := ⟨wM.heap.size, 4, none⟩) (by show _ ≤ wM.heap.size; omega) (.slice A4 (j + 1) c4'))
      clear hx4 hq4 hc4 hB4 ho4 p4 ho HX HQ HC HO HB c0 c1 c2 c3 c4 f0 f1 f2 f3 f4
      go_wp2_with (fail)
      go_roundw
      case rel =>
        refine ⟨j + 1, l ++ [⟨v, y⟩], st8, A4, c4', by omega, by go_num, by show _ = _; rw [List.length_append, hll.out]; rfl, hws2, HX2, HQ2, HC2, ?_, HB2⟩
        show World.ownsRow _ _ _ _ _ _ _
        rw [hv_append]
        exact HO2.out
      case measure => simp [intOf] <;> omega
    · obtain rfl : j = m := by omega
      have hor := HM3.out
      clear hjm
      have HM := mirP_zero hi.out hk.out HK.out hf.out hd.out hn.out HMIN.out hws.out
      rw [HFB.out] at HM
      have HM := Lib.hid HM
      have hlen : Hid ((⟨i, k, fb, d, l⟩ : Rep).hits.length = j) := hll
      have hmax : Hid (j ≤ maxLen) := by show _ ≤ _; unfold maxLen; omega
      generalize st = px at *
      rcases hor with hr1 | ⟨hr1, hr2⟩
      all_goals
        try clear c0 c1 c2 c3 c4 hf
        obtain ⟨c0, c1, c2, c3, c4⟩ := HX.out.cells
        go_wp2_with (fail)
        refine (refPutReply_c ⟨i, k, fb, d, l⟩ A j c _ (own_reads HO.out) hmax.out).mono ?_
        rintro e w9 ⟨rfl, hB9⟩
        have HX9 := Lib.hid (HX.out.below hB9 HX.out.lt)
        have HQ9 := Lib.hid (HQ.out.below hB9 HQ.out.lt)
        have hC9 := HC.out.below hB9
        have HO9 := Lib.hid (own_below HO.out hB9)
        have HB9 := Lib.hid (HB.out.trans (hB9.mono HB.out.size))
        clear hB9 c0 c1 c2 c3 c4
        obtain ⟨c0, c1, c2, c3, c4⟩ := HX9.out.cells
        obtain ⟨u0, u1, u2⟩ := hC9.cells
        obtain ⟨d0, d1, d2, d3, d4⟩ := HQ9.out.cells
        have g0 := HQ9.out.frozen 0
        have g1 := HQ9.out.frozen 1
        have g2 := HQ9.out.frozen 2
        have g3 := HQ9.out.frozen 3
        have g4 := HQ9.out.frozen 4
        clear hC9
        obtain ⟨px, bad⟩ := px
        rcases bad with _ | _
        rotate_left
        · have HN := Lib.hid (gotP_not HM.out (.inl rfl))
          go_wp2_with (fail)
          refine (show bodyPost _ _ _ Exit.ret _ (putP w9 w.heap.size noP none 0 0) from ?_)
          have h1 := putP_at HQ9.out noP none 0 0
          have h2 := putP_below HB9.out (Nat.le_refl _) noP none 0 0
          generalize putP w9 w.heap.size noP none 0 0 = W at h1 h2 ⊢
          obtain ⟨k1, k2⟩ := HN.out
          rw [← k1] at h1
          refine gotP_end (o := w.heap.size) (A := none) (c := 0) rfl rfl (by rw [k2]; rfl) rfl (by rw [k1] at h1 ⊢; exact h1) (by rw [k1]; exact own_nil) h2
        by_cases hm : mayRep ⟨i, k, fb, d, l⟩
        rotate_left
        · have HN := Lib.hid (gotP_not HM.out (.inr (.inl hm)))
          have her : repErr ⟨i, k, fb, d, l⟩ = 1 := if_neg hm
          rw [her]
          clear hm her
          go_wp2_with (fail)
          refine (show bodyPost _ _ _ Exit.ret _ (putP w9 w.heap.size noP none 0 0) from ?_)
          have h1 := putP_at HQ9.out noP none 0 0
          have h2 := putP_below HB9.out (Nat.le_refl _) noP none 0 0
          generalize putP w9 w.heap.size noP none 0 0 = W at h1 h2 ⊢
          obtain ⟨k1, k2⟩ := HN.out
          rw [← k1] at h1
          refine gotP_end (o := w.heap.size) (A := none) (c := 0) rfl rfl (by rw [k2]; rfl) rfl (by rw [k1] at h1 ⊢; exact h1) (by rw [k1]; exact own_nil) h2
        have her : repErr ⟨i, k, fb, d, l⟩ = 0 := if_pos hm
        rw [her]
        by_cases ht : repS ⟨i, k, fb, d, l⟩ = s
        · have HN := Lib.hid (gotP_yes HM.out hm ht)
          rw [ht]
          have hts : (s.toList == s.toList) = true := by simp
          have htn : (s.toList != s.toList) = false := by simp
          clear hm her ht
          go_wp2_with (fail)
          refine (show bodyPost _ _ _ Exit.ret _ (putP w9 w.heap.size ⟨i, k, fb, d, l⟩ A j c) from ?_)
          have h1 := putP_at HQ9.out ⟨i, k, fb, d, l⟩ A j c
          have h2 := putP_below HB9.out (Nat.le_refl _) ⟨i, k, fb, d, l⟩ A j c
          have h3 := own_more (base := w.heap.size) (isF_own (own_more (base := w.heap.size + 1) HO9.out (by omega)) (putP_grown w9 w.heap.size ⟨i, k, fb, d, l⟩ A j c) (by omega)) (Nat.le_succ _)
          generalize putP w9 w.heap.size ⟨i, k, fb, d, l⟩ A j c = W at h1 h2 h3 ⊢
          obtain ⟨k1, k2⟩ := HN.out
          have hlk : (gotRep s).hits.length = j := by rw [k1]; exact hlen.out
          refine gotP_end (o := w.heap.size) (A := A) (c := c) rfl rfl (by rw [k2]; rfl) rfl (by rw [hlk, k1]; exact h1) (by rw [hlk, k1]; exact h3) h2
        · have HN := Lib.hid (gotP_not HM.out (.inr (.inr ht)))
          obtain ⟨tx, htx⟩ : ∃ tx, tx = repS ⟨i, k, fb, d, l⟩ := ⟨_, rfl⟩
          rw [← htx] at ht ⊢
          have hts : (tx.toList == s.toList) = false := by rw [bytes_beq]; exact decide_eq_false ht
          have htn : (tx.toList != s.toList) = true := by unfold bne; rw [hts]; rfl
          clear hm her ht htx
          go_wp2_with (fail)
          refine (show bodyPost _ _ _ Exit.ret _ (putP w9 w.heap.size noP none 0 0) from ?_)
          have h1 := putP_at HQ9.out noP none 0 0
          have h2 := putP_below HB9.out (Nat.le_refl _) noP none 0 0
          generalize putP w9 w.heap.size noP none 0 0 = W at h1 h2 ⊢
          obtain ⟨k1, k2⟩ := HN.out
          rw [← k1] at h1
          refine gotP_end (o := w.heap.size) (A := none) (c := 0) rfl rfl (by rw [k2]; rfl) rfl (by rw [k1] at h1 ⊢; exact h1) (by rw [k1]; exact own_nil) h2
theorem refGetReply_c (s : ByteArray) (w : World) (hs : s.size ≤ 1000000) :
    Calls Try.prog 22 #[.string s] w fun e w' => GotRep w w' s e := by
  by_cases h : (cN s (cN s (0, false)).2).1 = 0
  · exact refGetP_zero s w hs h
  · exact refGetP_bad s w hs h
end Go.Proofs.Ytmnjlhifjjainaa
