/-
  GetRequest, the reference: keywords.
-/
import Derived.Test.YtmnjlhifjjainaaFrGetR
namespace Go.Proofs.Ytmnjlhifjjainaa
open Go.RowKit

set_option maxRecDepth 100000 in
set_option maxHeartbeats 2000000 in
theorem refGet_three (s : ByteArray) (w : World) (hs : s.size ≤ 1000000) (hkd : (cN s (cN s (0, false)).2).1 = 3) :
    Calls Try.prog 16 #[.string s] w fun e w' => GotReq w w' s e := by
  have hQ0 : RAt ((w.alloc (.cells #[.int .i64 0, .int .i64 0, .int .i64 0, .int .i64 0, .int .i64 0, .slice none 0 0, .int .i64 0, .int .i64 0] 26)).alloc (.cells #[.string s, .int .i64 0, .bool false] 84)) w.heap.size noR none 0 0 := (RAt.new w noR none 0 0).below (below_one _ _) (RAt.new w noR none 0 0).lt
  have HC : Hid (CutAt ((w.alloc (.cells #[.int .i64 0, .int .i64 0, .int .i64 0, .int .i64 0, .int .i64 0, .slice none 0 0, .int .i64 0, .int .i64 0] 26)).alloc (.cells #[.string s, .int .i64 0, .bool false] 84)) (w.heap.size + 1) s ((0 : Int), false).1 ((0 : Int), false).2) := by
    have : CutAt ((w.alloc (.cells #[.int .i64 0, .int .i64 0, .int .i64 0, .int .i64 0, .int .i64 0, .slice none 0 0, .int .i64 0, .int .i64 0] 26)).alloc (.cells #[.string s, .int .i64 0, .bool false] 84)) (w.alloc (.cells #[.int .i64 0, .int .i64 0, .int .i64 0, .int .i64 0, .int .i64 0, .slice none 0 0, .int .i64 0, .int .i64 0] 26)).heap.size s 0 false := Array.getElem?_push_size
    rw [World.size_alloc] at this
    exact this
  have hB0 : Below w.heap.size w ((w.alloc (.cells #[.int .i64 0, .int .i64 0, .int .i64 0, .int .i64 0, .int .i64 0, .slice none 0 0, .int .i64 0, .int .i64 0] 26)).alloc (.cells #[.string s, .int .i64 0, .bool false] 84)) := below_two _ _ _
  go_enter Try.func16, Try.ntmps16
  go_wp2_with (fail)
  refine (cutN_c (w.heap.size + 1) s (0, false) _ HC.out hs).mono ?_
  rintro e wN ⟨i, st1, hi, rfl, hCN, hGN⟩
  have hQ1 := hQ0.grown hGN (by omega)
  have hB1 := hB0.trans (only_below hGN (by omega) hB0.size)
  clear hQ0 hB0 HC hGN
  have HC := Lib.hid hCN
  clear hCN
  go_wp2_with (fail)
  refine (cutN_c (w.heap.size + 1) s st1 _ HC.out hs).mono ?_
  rintro e wM ⟨k, st2, hk, rfl, hCM, hGM⟩
  have hQ2 := hQ1.grown hGM (by omega)
  have hB2 := hB1.trans (only_below hGM (by omega) hB1.size)
  clear hQ1 hB1 HC hGM
  have hbl := hCM.lt
  have HM0 : Hid (mir s = (⟨i, k, (mirQ s k st2).1⟩, (mirQ s k st2).2)) := by
    show _ = _
    unfold mir
    rw [hi.out]
    simp only [hk.out]
  have HQ2' := Lib.hid hQ2
  have HCM' := Lib.hid hCM
  have HB2' := Lib.hid hB2
  clear hQ2 hCM hB2
  have hkv : (cN s (cN s (0, false)).2).1 = k := by rw [hi.out]; simp only [hk.out]
  rw [hkv] at hkd
  have hk3 : k = 3 := hkd
  clear hkd
  · have d1 : 1 ≤ k := by omega
    have d2 : k ≤ 3 := by omega
    have e1 : (k == 1) = false := by rw [beq_eq_false_iff_ne]; omega
    have e2 : (k == 2) = false := by rw [beq_eq_false_iff_ne]; omega
    have e3 : (k == 3) = true := by simpa using hk3
    have HK3 := Lib.hid hk3
    clear hk3
    have HX := Lib.hid (RAt.new wM ⟨i, k, ⟨k, 0, 0, [], 0, 0⟩⟩ none 0 0)
    have HQ := Lib.hid (HQ2'.out.below (below_one wM (.cells #[.int .i64 i, .int .i64 k, .int .i64 k, .int .i64 0, .int .i64 0, .slice none 0 0, .int .i64 0, .int .i64 0] 26)) HQ2'.out.lt)
    have HC := Lib.hid (HCM'.out.below (below_one wM (.cells #[.int .i64 i, .int .i64 k, .int .i64 k, .int .i64 0, .int .i64 0, .slice none 0 0, .int .i64 0, .int .i64 0] 26)))
    have HB := Lib.hid (HB2'.out.alloc HB2'.out.size (.cells #[.int .i64 i, .int .i64 k, .int .i64 k, .int .i64 0, .int .i64 0, .slice none 0 0, .int .i64 0, .int .i64 0] 26))
    have HO : Hid ((wM.alloc (.cells #[.int .i64 i, .int .i64 k, .int .i64 k, .int .i64 0, .int .i64 0, .slice none 0 0, .int .i64 0, .int .i64 0] 26)).ownsRow (wM.heap.size + 1) 9 1 (.slice none 0 0) 0 (sv [])) := own_nil
    clear HQ2' HCM' HB2'
    go_wp2_with (fail)
    refine (cutN_c (w.heap.size + 1) s st2 _ HC.out hs).mono ?_
    rintro e wN ⟨a, st3, ha, rfl, hCN, hGN⟩
    have hXN := HX.out.grown hGN (by omega)
    have hQN := HQ.out.grown hGN (by omega)
    have hON := isF_own HO.out hGN (by omega)
    have hBN := HB.out.trans (only_below hGN (by omega) HB.out.size)
    try clear c0 c1 c2 c3 c4 c5 c6 c7 hf
    obtain ⟨c0, c1, c2, c3, c4, c5, c6, c7⟩ := hXN.cells
    have hf := hXN.frozen 3
    have HX2 := Lib.hid (hXN.set3 a)
    have HQ2 := Lib.hid (hQN.grown (only_setCellS (only_refl wN (some wM.heap.size)) 3 (.int .i64 a)) (by omega))
    have HC2 := Lib.hid (hCN.grown (only_setCellS (only_refl wN (some wM.heap.size)) 3 (.int .i64 a)) (by omega))
    have HO2 := Lib.hid (isF_own hON (only_setCellS (only_refl wN (some wM.heap.size)) 3 (.int .i64 a)) (by omega))
    have HB2 := Lib.hid (hBN.setCell (p := ⟨wM.heap.size, 3, none⟩) (by show _ ≤ wM.heap.size; omega) (.int .i64 a))
    clear hXN hQN hON hBN hCN hGN HX HQ HO HB HC
    have HX := HX2
    have HQ := HQ2
    have HC := HC2
    have HO := HO2
    have HB := HB2
    clear HX2 HQ2 HC2 HO2 HB2
    go_wp2_with (fail)
    refine (cutN_c (w.heap.size + 1) s st3 _ HC.out hs).mono ?_
    rintro e wN ⟨n, st4, hn, rfl, hCN, hGN⟩
    have hXN := HX.out.grown hGN (by omega)
    have hQN := HQ.out.grown hGN (by omega)
    have hON := isF_own HO.out hGN (by omega)
    have hBN := HB.out.trans (only_below hGN (by omega) HB.out.size)
    clear HX HQ HO HB HC hGN
    have HX := Lib.hid hXN
    have HQ := Lib.hid hQN
    have HC := Lib.hid hCN
    have HO := Lib.hid hON
    have HB := Lib.hid hBN
    clear hXN hQN hON hBN hCN
    obtain ⟨m, hm⟩ : ∃ m, min n.toNat 8 = m := ⟨_, rfl⟩
    have HMIN := Lib.hid hm
    have hm1 : ∀ j : Nat, j < m → (j : Int) < n ∧ (j : Int) < 8 := fun j hj => by omega
    have hm2 : m ≤ 8 := by omega
    have hm3 : ¬ (m : Int) < n ∨ ((m : Int) < n ∧ ¬ (m : Int) < 8) := by omega
    clear hm
    have HM1 := Lib.hid hm1
    have HM3 := Lib.hid hm3
    clear hm1 hm3 c0 c1 c2 c3 c4 c5 c6 c7 hf
    go_wp2_with (fail)
    go_loopw [9] (fun iv wr => ∃ (j : Nat) (l : List ByteArray) (st : Int × Bool) (A : Option Addr) (c : Nat), j ≤ m ∧ iv = .int .i64 j ∧ Hid (l.length = j) ∧ Hid (cWs s j st4 = (l, st)) ∧ Hid (bounded l) ∧ Hid (RAt wr wM.heap.size ⟨i, k, ⟨k, a, 0, l, 0, 0⟩⟩ A j c) ∧ Hid (RAt wr w.heap.size noR none 0 0) ∧ Hid (CutAt wr (w.heap.size + 1) s st.1 st.2) ∧ Hid (wr.ownsRow (wM.heap.size + 1) 9 1 (.slice A j c) j (sv l)) ∧ Hid (Below w.heap.size w wr)) (fun iv _ => m - (intOf iv).toNat)
    case atStart => exact ⟨0, [], st4, none, 0, Nat.zero_le _, rfl, rfl, rfl, fun x hx => by simp at hx, HX, HQ, HC, own_nil, HB⟩
    case round =>
      clear HX HQ HC HO HB
      obtain ⟨j, l, st, A, c, hj, rfl, hll, hws, hbl2, HX, HQ, HC, HO, HB⟩ := hrel
      by_cases hjm : j < m
      · obtain ⟨l1, l2⟩ := HM1.out j hjm
        go_wp2_with (fail)
        refine (cutT_c (w.heap.size + 1) s st _ HC.out hs).mono ?_
        rintro e wN ⟨t, st', ht, rfl, hCN, hGN⟩
        have hws2 : Hid (cWs s (j + 1) st4 = (l ++ [t], st')) := by
          show _ = _
          simp only [cWs, hws.out, ht.out]
        have hXN := HX.out.grown hGN (by omega)
        have hQN := HQ.out.grown hGN (by omega)
        have hON := isF_own HO.out hGN (by omega)
        have hBN := HB.out.trans (only_below hGN (by omega) HB.out.size)
        clear HX HQ HO HB HC hGN
        have HX := Lib.hid hXN
        have HQ := Lib.hid hQN
        have HC := Lib.hid hCN
        have HO := Lib.hid hON
        have HB := Lib.hid hBN
        clear hXN hQN hON hBN hCN
        obtain ⟨c0, c1, c2, c3, c4, c5, c6, c7⟩ := HX.out.cells
        have ho := HO.out
        have hsz : wM.heap.size + 1 ≤ wN.heap.size := HX.out.lt
        have HSZ := Lib.hid hsz
        go_wp2_with (at_builtin; go_must (refine wpList_push elStr rfl _ _ rfl ho rfl _ rfl rfl (one_str t) (by unfold maxLen; omega) (by omega) hsz ?_; intro A4 c4' w4 ho4 p4; have hx4 : RAt w4 wM.heap.size ⟨i, k, ⟨k, a, 0, l, 0, 0⟩⟩ A j c := (p4.heap HX.out.lt (fun x hx => by have := (own_lt ho x hx).1; omega)).trans HX.out; obtain ⟨f0, f1, f2, f3, f4, f5, f6, f7⟩ := hx4.cells; have hfz := hx4.frozen 5))
        have hq4 : RAt w4 w.heap.size noR none 0 0 := (p4.heap HQ.out.lt (fun x hx => by have := (own_lt ho x hx).1; have := HB.out.size; omega)).trans HQ.out
        have hc4 : CutAt w4 (w.heap.size + 1) s st'.1 st'.2 := (p4.heap HC.out.lt (fun x hx => by have := (own_lt ho x hx).1; omega)).trans HC.out
        have hB4 := p4.below ho HB.out (by omega) HB.out.size
        have HX2 := Lib.hid (hx4.set5 (l ++ [t]) A4 (j + 1) c4')
        have HQ2 := Lib.hid (hq4.grown (only_setCellS (only_refl w4 (some wM.heap.size)) 5 (.slice A4 (j + 1) c4')) (by omega))
        have HC2 := Lib.hid (hc4.grown (only_setCellS (only_refl w4 (some wM.heap.size)) 5 (.slice A4 (j + 1) c4')) (by omega))
        have HO2 := Lib.hid (isF_own ho4 (only_setCellS (only_refl w4 (some wM.heap.size)) 5 (.slice A4 (j + 1) c4')) (by omega))
        have HB2 := Lib.hid (hB4.setCell (p := ⟨wM.heap.size, 5, none⟩) (by show _ ≤ wM.heap.size; omega) (.slice A4 (j + 1) c4'))
        clear hx4 hq4 hc4 hB4 ho4 p4 ho HX HQ HC HO HB c0 c1 c2 c3 c4 c5 c6 c7 f0 f1 f2 f3 f4 f5 f6 f7
        go_wp2_with (fail)
        go_roundw
        case rel =>
          refine ⟨j + 1, l ++ [t], st', A4, c4', by omega, by go_num, by show _ = _; rw [List.length_append, hll.out]; rfl, hws2, ?_, HX2, HQ2, HC2, ?_, HB2⟩
          · intro x hx
            rcases List.mem_append.1 hx with hx | hx
            · exact hbl2.out x hx
            · simp at hx; subst hx; exact cT_bound ht.out
          · show World.ownsRow _ _ _ _ _ _ _
            rw [sv_append]
            exact HO2.out
        case measure => simp [intOf] <;> omega
      · obtain rfl : j = m := by omega
        have hor := HM3.out
        clear hjm
        rcases hor with hr1 | ⟨hr1, hr2⟩
        all_goals
          go_wp2_with (fail)
          refine (cutN_c (w.heap.size + 1) s st _ HC.out hs).mono ?_
          rintro e wN ⟨r, st5, hr, rfl, hCN, hGN⟩
          have hXN := HX.out.grown hGN (by omega)
          have hQN := HQ.out.grown hGN (by omega)
          have hON := isF_own HO.out hGN (by omega)
          have hBN := HB.out.trans (only_below hGN (by omega) HB.out.size)
          try clear c0 c1 c2 c3 c4 c5 c6 c7 hf
          obtain ⟨c0, c1, c2, c3, c4, c5, c6, c7⟩ := hXN.cells
          have hf := hXN.frozen 6
          have HX2 := Lib.hid (hXN.set6 r)
          have HQ2 := Lib.hid (hQN.grown (only_setCellS (only_refl wN (some wM.heap.size)) 6 (.int .i64 r)) (by omega))
          have HC2 := Lib.hid (hCN.grown (only_setCellS (only_refl wN (some wM.heap.size)) 6 (.int .i64 r)) (by omega))
          have HO2 := Lib.hid (isF_own hON (only_setCellS (only_refl wN (some wM.heap.size)) 6 (.int .i64 r)) (by omega))
          have HB2 := Lib.hid (hBN.setCell (p := ⟨wM.heap.size, 6, none⟩) (by show _ ≤ wM.heap.size; omega) (.int .i64 r))
          clear hXN hQN hON hBN hCN hGN HX HQ HO HB HC
          have HX := HX2
          have HQ := HQ2
          have HC := HC2
          have HO := HO2
          have HB := HB2
          clear HX2 HQ2 HC2 HO2 HB2
          go_wp2_with (fail)
          refine (cutN_c (w.heap.size + 1) s st5 _ HC.out hs).mono ?_
          rintro e wN ⟨mm, st6, hmm, rfl, hCN, hGN⟩
          have hXN := HX.out.grown hGN (by omega)
          have hQN := HQ.out.grown hGN (by omega)
          have hON := isF_own HO.out hGN (by omega)
          have hBN := HB.out.trans (only_below hGN (by omega) HB.out.size)
          try clear c0 c1 c2 c3 c4 c5 c6 c7 hf
          obtain ⟨c0, c1, c2, c3, c4, c5, c6, c7⟩ := hXN.cells
          have hf := hXN.frozen 7
          have HX2 := Lib.hid (hXN.set7 mm)
          have HQ2 := Lib.hid (hQN.grown (only_setCellS (only_refl wN (some wM.heap.size)) 7 (.int .i64 mm)) (by omega))
          have HC2 := Lib.hid (hCN.grown (only_setCellS (only_refl wN (some wM.heap.size)) 7 (.int .i64 mm)) (by omega))
          have HO2 := Lib.hid (isF_own hON (only_setCellS (only_refl wN (some wM.heap.size)) 7 (.int .i64 mm)) (by omega))
          have HB2 := Lib.hid (hBN.setCell (p := ⟨wM.heap.size, 7, none⟩) (by show _ ≤ wM.heap.size; omega) (.int .i64 mm))
          clear hXN hQN hON hBN hCN hGN HX HQ HO HB HC
          have HX := HX2
          have HQ := HQ2
          have HC := HC2
          have HO := HO2
          have HB := HB2
          clear HX2 HQ2 HC2 HO2 HB2
          have HM : Hid (mir s = (⟨i, k, ⟨k, a, 0, l, r, mm⟩⟩, st6)) := by
            show _ = _
            rw [HM0.out, HK3.out, mirQ_three ha.out hn.out HMIN.out hws.out hr.out hmm.out]
          have hlen : Hid ((⟨i, k, ⟨k, a, 0, l, r, mm⟩⟩ : Req).q.words.length = j) := hll
          have hbd : Hid (bounded (⟨i, k, ⟨k, a, 0, l, r, mm⟩⟩ : Req).q.words) := hbl2
          have hmax : Hid (j ≤ maxLen) := by show _ ≤ _; unfold maxLen; omega
          clear HM0
          generalize st6 = px at *
          obtain ⟨c0, c1, c2, c3, c4, c5, c6, c7⟩ := HX.out.cells
          go_wp2_with (fail)
          refine (refPutRequest_c ⟨i, k, ⟨k, a, 0, l, r, mm⟩⟩ A j c _ (own_reads HO.out) hmax.out hbd).mono ?_
          rintro e w9 ⟨rfl, hB9⟩
          have HX9 := Lib.hid (HX.out.below hB9 HX.out.lt)
          have HQ9 := Lib.hid (HQ.out.below hB9 HQ.out.lt)
          have hC9 := HC.out.below hB9
          have HO9 := Lib.hid (own_below HO.out hB9)
          have HB9 := Lib.hid (HB.out.trans (hB9.mono HB.out.size))
          clear hB9 c0 c1 c2 c3 c4 c5 c6 c7
          obtain ⟨c0, c1, c2, c3, c4, c5, c6, c7⟩ := HX9.out.cells
          obtain ⟨u0, u1, u2⟩ := hC9.cells
          obtain ⟨d0, d1, d2, d3, d4, d5, d6, d7⟩ := HQ9.out.cells
          have g0 := HQ9.out.frozen 0
          have g1 := HQ9.out.frozen 1
          have g2 := HQ9.out.frozen 2
          have g3 := HQ9.out.frozen 3
          have g4 := HQ9.out.frozen 4
          have g5 := HQ9.out.frozen 5
          have g6 := HQ9.out.frozen 6
          have g7 := HQ9.out.frozen 7
          clear hC9
          obtain ⟨px, bad⟩ := px
          rcases bad with _ | _
          rotate_left
          · have HN := Lib.hid (got_not HM.out (.inl rfl))
            go_wp2_with (fail)
            refine (show bodyPost _ _ _ Exit.ret _ (putR w9 w.heap.size noR none 0 0) from ?_)
            have h1 := putR_at HQ9.out noR none 0 0
            have h2 := putR_below HB9.out (Nat.le_refl _) noR none 0 0
            generalize putR w9 w.heap.size noR none 0 0 = W at h1 h2 ⊢
            obtain ⟨k1, k2⟩ := HN.out
            rw [← k1] at h1
            refine got_end (o := w.heap.size) (A := none) (c := 0) rfl rfl (by rw [k2]; rfl) rfl (by rw [k1] at h1 ⊢; exact h1) (by rw [k1]; exact own_nil) h2
          by_cases hm : mayReq ⟨i, k, ⟨k, a, 0, l, r, mm⟩⟩
          rotate_left
          · have HN := Lib.hid (got_not HM.out (.inr (.inl hm)))
            have her : reqErr ⟨i, k, ⟨k, a, 0, l, r, mm⟩⟩ = 1 := if_neg hm
            rw [her]
            clear hm her
            go_wp2_with (fail)
            refine (show bodyPost _ _ _ Exit.ret _ (putR w9 w.heap.size noR none 0 0) from ?_)
            have h1 := putR_at HQ9.out noR none 0 0
            have h2 := putR_below HB9.out (Nat.le_refl _) noR none 0 0
            generalize putR w9 w.heap.size noR none 0 0 = W at h1 h2 ⊢
            obtain ⟨k1, k2⟩ := HN.out
            rw [← k1] at h1
            refine got_end (o := w.heap.size) (A := none) (c := 0) rfl rfl (by rw [k2]; rfl) rfl (by rw [k1] at h1 ⊢; exact h1) (by rw [k1]; exact own_nil) h2
          have her : reqErr ⟨i, k, ⟨k, a, 0, l, r, mm⟩⟩ = 0 := if_pos hm
          rw [her]
          by_cases ht : reqS ⟨i, k, ⟨k, a, 0, l, r, mm⟩⟩ = s
          · have HN := Lib.hid (got_yes HM.out hm ht)
            rw [ht]
            have hts : (s.toList == s.toList) = true := by simp
            have htn : (s.toList != s.toList) = false := by simp
            clear hm her ht
            go_wp2_with (fail)
            refine (show bodyPost _ _ _ Exit.ret _ (putR w9 w.heap.size ⟨i, k, ⟨k, a, 0, l, r, mm⟩⟩ A j c) from ?_)
            have h1 := putR_at HQ9.out ⟨i, k, ⟨k, a, 0, l, r, mm⟩⟩ A j c
            have h2 := putR_below HB9.out (Nat.le_refl _) ⟨i, k, ⟨k, a, 0, l, r, mm⟩⟩ A j c
            have h3 := own_more (base := w.heap.size) (isF_own (own_more (base := w.heap.size + 1) HO9.out (by omega)) (putR_grown w9 w.heap.size ⟨i, k, ⟨k, a, 0, l, r, mm⟩⟩ A j c) (by omega)) (Nat.le_succ _)
            generalize putR w9 w.heap.size ⟨i, k, ⟨k, a, 0, l, r, mm⟩⟩ A j c = W at h1 h2 h3 ⊢
            obtain ⟨k1, k2⟩ := HN.out
            have hlk : (gotReq s).q.words.length = j := by rw [k1]; exact hlen.out
            refine got_end (o := w.heap.size) (A := A) (c := c) rfl rfl (by rw [k2]; rfl) rfl (by rw [hlk, k1]; exact h1) (by rw [hlk, k1]; exact h3) h2
          · have HN := Lib.hid (got_not HM.out (.inr (.inr ht)))
            obtain ⟨tx, htx⟩ : ∃ tx, tx = reqS ⟨i, k, ⟨k, a, 0, l, r, mm⟩⟩ := ⟨_, rfl⟩
            rw [← htx] at ht ⊢
            have hts : (tx.toList == s.toList) = false := by rw [bytes_beq]; exact decide_eq_false ht
            have htn : (tx.toList != s.toList) = true := by unfold bne; rw [hts]; rfl
            clear hm her ht htx
            go_wp2_with (fail)
            refine (show bodyPost _ _ _ Exit.ret _ (putR w9 w.heap.size noR none 0 0) from ?_)
            have h1 := putR_at HQ9.out noR none 0 0
            have h2 := putR_below HB9.out (Nat.le_refl _) noR none 0 0
            generalize putR w9 w.heap.size noR none 0 0 = W at h1 h2 ⊢
            obtain ⟨k1, k2⟩ := HN.out
            rw [← k1] at h1
            refine got_end (o := w.heap.size) (A := none) (c := 0) rfl rfl (by rw [k2]; rfl) rfl (by rw [k1] at h1 ⊢; exact h1) (by rw [k1]; exact own_nil) h2
end Go.Proofs.Ytmnjlhifjjainaa
