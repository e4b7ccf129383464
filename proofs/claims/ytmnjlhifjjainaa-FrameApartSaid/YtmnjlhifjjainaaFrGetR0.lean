/-
  GetRequest, the reference: another kind.
-/
import Derived.Test.YtmnjlhifjjainaaFrGetR
namespace Go.Proofs.Ytmnjlhifjjainaa
open Go.RowKit

set_option maxRecDepth 100000 in
set_option maxHeartbeats 2000000 in
theorem refGet_else (s : ByteArray) (w : World) (hs : s.size ≤ 1000000) (hkd : ¬ (cN s (cN s (0, false)).2).1 = 3 ∧ ¬ ((cN s (cN s (0, false)).2).1 = 1 ∨ (cN s (cN s (0, false)).2).1 = 2)) :
    Calls Try.prog 16 #[.string s] w fun e w' => GotReq w w' s e := by
  have hQ0 : RAt ((w.alloc (.cells #[.int .i64 0, .int .i64 0, .int .i64 0, .int .i64 0, .int .i64 0, .slice none 0 0, .int .i64 0, .int .i64 0] 26)).alloc (.cells #[.string s, .int .i64 0, .bool false] 84)) w.heap.size noR none 0 0 := (RAt.new w noR none 0 0).below (below_one _ _) (RAt.new w noR none 0 0).lt
  have HC : Hid (CutAt ((w.alloc (.cells #[.int .i64 0, .int .i64 0, .int .i64 0, .int .i64 0, .int .i64 0, .slice none 0 0, .int .i64 0, .int .i64 0] 26)).alloc (.cells #[.string s, .int .i64 0, .bool false] 84)) (w.heap.size + 1) s ((0 : Int), false).1 ((0 : Int), false).2) := by
    have : CutAt ((w.alloc (.cells #[.int .i64 0, .int .i64 0, .int .i64 0, .int .i64 0, .int .i64 0, .slice none 0 0, .int .i64 0, .int .i64 0] 26)).alloc (.cells #[.string s, .int .i64 0, .bool false] 84)) (w.alloc (.cells #[.int .i64 0, .int .i64 0, .int .i64 0, .int .i64 0, .int .i64 0, .slice none 0 0, .int .i64 0, .int .i64 0] 26)).heap.size s 0 false := Array.getElem?_push_size
    rw [World.size_alloc] at this
    exact this
  have hB0 : Below w.heap.size w ((w.alloc (.cells #[.int .i64 0, .int .i64 0, .int .i64 0, .int .i64 0, .int .i64 0, .slice none 0 0, .int .i64 0, .int .i64 0] 26)).alloc (.cells #[.string s, .int .i64 0, .bool false] 84)) := below_two _ _ _
  go_enter Try.func16, Try.ntmps16
  go_wp2_with (fail)
  refine (cutN_c (w.heap.size + 1) s (0, false) _ HC.out hs).mono ?_
  rintro e wN ⟨i, st1, hi, rfl, hCN, hGN⟩
  have hQ1 := hQ0.grown hGN (by omega)
  have hB1 := hB0.trans (only_below hGN (by omega) hB0.size)
  clear hQ0 hB0 HC hGN
  have HC := Lib.hid hCN
  clear hCN
  go_wp2_with (fail)
  refine (cutN_c (w.heap.size + 1) s st1 _ HC.out hs).mono ?_
  rintro e wM ⟨k, st2, hk, rfl, hCM, hGM⟩
  have hQ2 := hQ1.grown hGM (by omega)
  have hB2 := hB1.trans (only_below hGM (by omega) hB1.size)
  clear hQ1 hB1 HC hGM
  have hbl := hCM.lt
  have HM0 : Hid (mir s = (⟨i, k, (mirQ s k st2).1⟩, (mirQ s k st2).2)) := by
    show _ = _
    unfold mir
    rw [hi.out]
    simp only [hk.out]
  have HQ2' := Lib.hid hQ2
  have HCM' := Lib.hid hCM
  have HB2' := Lib.hid hB2
  clear hQ2 hCM hB2
  have hkv : (cN s (cN s (0, false)).2).1 = k := by rw [hi.out]; simp only [hk.out]
  rw [hkv] at hkd
  obtain ⟨hk3, hk12⟩ := hkd
  ·
    · have HX := Lib.hid (RAt.new wM ⟨i, k, noQ⟩ none 0 0)
      have HQ := Lib.hid (HQ2'.out.below (below_one wM (.cells #[.int .i64 i, .int .i64 k, .int .i64 0, .int .i64 0, .int .i64 0, .slice none 0 0, .int .i64 0, .int .i64 0] 26)) HQ2'.out.lt)
      have HC := Lib.hid (HCM'.out.below (below_one wM (.cells #[.int .i64 i, .int .i64 k, .int .i64 0, .int .i64 0, .int .i64 0, .slice none 0 0, .int .i64 0, .int .i64 0] 26)))
      have HB := Lib.hid (HB2'.out.alloc HB2'.out.size (.cells #[.int .i64 i, .int .i64 k, .int .i64 0, .int .i64 0, .int .i64 0, .slice none 0 0, .int .i64 0, .int .i64 0] 26))
      have HO : Hid ((wM.alloc (.cells #[.int .i64 i, .int .i64 k, .int .i64 0, .int .i64 0, .int .i64 0, .slice none 0 0, .int .i64 0, .int .i64 0] 26)).ownsRow (wM.heap.size + 1) 9 1 (.slice none 0 0) 0 (sv [])) := own_nil
      clear HQ2' HCM' HB2'
      have HM : Hid (mir s = (⟨i, k, noQ⟩, st2)) := by
        show _ = _
        rw [HM0.out]
        unfold mirQ
        rw [if_neg hk3, if_neg hk12]
      have e1 : (k == 1) = false := by rw [beq_eq_false_iff_ne]; omega
      have e2 : (k == 2) = false := by rw [beq_eq_false_iff_ne]; omega
      have e3 : (k == 3) = false := by rw [beq_eq_false_iff_ne]; omega
      have hlen : Hid ((⟨i, k, noQ⟩ : Req).q.words.length = 0) := rfl
      have hbd : Hid (bounded (⟨i, k, noQ⟩ : Req).q.words) := fun x hx => by simp [noQ] at hx
      have hmax : Hid (0 ≤ maxLen) := Nat.zero_le _
      clear HM0
      have hor : k < 1 ∨ (1 ≤ k ∧ 3 < k) := by omega
      generalize st2 = px at *
      rcases hor with ho1 | ⟨ho1, ho2⟩
      · clear hk3 hk12
        obtain ⟨c0, c1, c2, c3, c4, c5, c6, c7⟩ := HX.out.cells
        go_wp2_with (fail)
        refine (refPutRequest_c ⟨i, k, noQ⟩ none 0 0 _ (own_reads HO.out) hmax.out hbd).mono ?_
        rintro e w9 ⟨rfl, hB9⟩
        have HX9 := Lib.hid (HX.out.below hB9 HX.out.lt)
        have HQ9 := Lib.hid (HQ.out.below hB9 HQ.out.lt)
        have hC9 := HC.out.below hB9
        have HO9 := Lib.hid (own_below HO.out hB9)
        have HB9 := Lib.hid (HB.out.trans (hB9.mono HB.out.size))
        clear hB9 c0 c1 c2 c3 c4 c5 c6 c7
        obtain ⟨c0, c1, c2, c3, c4, c5, c6, c7⟩ := HX9.out.cells
        obtain ⟨u0, u1, u2⟩ := hC9.cells
        obtain ⟨d0, d1, d2, d3, d4, d5, d6, d7⟩ := HQ9.out.cells
        have g0 := HQ9.out.frozen 0
        have g1 := HQ9.out.frozen 1
        have g2 := HQ9.out.frozen 2
        have g3 := HQ9.out.frozen 3
        have g4 := HQ9.out.frozen 4
        have g5 := HQ9.out.frozen 5
        have g6 := HQ9.out.frozen 6
        have g7 := HQ9.out.frozen 7
        clear hC9
        obtain ⟨px, bad⟩ := px
        rcases bad with _ | _
        rotate_left
        · have HN := Lib.hid (got_not HM.out (.inl rfl))
          go_wp2_with (fail)
          refine (show bodyPost _ _ _ Exit.ret _ (putR w9 w.heap.size noR none 0 0) from ?_)
          have h1 := putR_at HQ9.out noR none 0 0
          have h2 := putR_below HB9.out (Nat.le_refl _) noR none 0 0
          generalize putR w9 w.heap.size noR none 0 0 = W at h1 h2 ⊢
          obtain ⟨k1, k2⟩ := HN.out
          rw [← k1] at h1
          refine got_end (o := w.heap.size) (A := none) (c := 0) rfl rfl (by rw [k2]; rfl) rfl (by rw [k1] at h1 ⊢; exact h1) (by rw [k1]; exact own_nil) h2
        by_cases hm : mayReq ⟨i, k, noQ⟩
        rotate_left
        · have HN := Lib.hid (got_not HM.out (.inr (.inl hm)))
          have her : reqErr ⟨i, k, noQ⟩ = 1 := if_neg hm
          rw [her]
          clear hm her
          go_wp2_with (fail)
          refine (show bodyPost _ _ _ Exit.ret _ (putR w9 w.heap.size noR none 0 0) from ?_)
          have h1 := putR_at HQ9.out noR none 0 0
          have h2 := putR_below HB9.out (Nat.le_refl _) noR none 0 0
          generalize putR w9 w.heap.size noR none 0 0 = W at h1 h2 ⊢
          obtain ⟨k1, k2⟩ := HN.out
          rw [← k1] at h1
          refine got_end (o := w.heap.size) (A := none) (c := 0) rfl rfl (by rw [k2]; rfl) rfl (by rw [k1] at h1 ⊢; exact h1) (by rw [k1]; exact own_nil) h2
        have her : reqErr ⟨i, k, noQ⟩ = 0 := if_pos hm
        rw [her]
        by_cases ht : reqS ⟨i, k, noQ⟩ = s
        · have HN := Lib.hid (got_yes HM.out hm ht)
          rw [ht]
          have hts : (s.toList == s.toList) = true := by simp
          have htn : (s.toList != s.toList) = false := by simp
          clear hm her ht
          go_wp2_with (fail)
          refine (show bodyPost _ _ _ Exit.ret _ (putR w9 w.heap.size ⟨i, k, noQ⟩ none 0 0) from ?_)
          have h1 := putR_at HQ9.out ⟨i, k, noQ⟩ none 0 0
          have h2 := putR_below HB9.out (Nat.le_refl _) ⟨i, k, noQ⟩ none 0 0
          have h3 := own_more (base := w.heap.size) (isF_own (own_more (base := w.heap.size + 1) HO9.out (by omega)) (putR_grown w9 w.heap.size ⟨i, k, noQ⟩ none 0 0) (by omega)) (Nat.le_succ _)
          generalize putR w9 w.heap.size ⟨i, k, noQ⟩ none 0 0 = W at h1 h2 h3 ⊢
          obtain ⟨k1, k2⟩ := HN.out
          have hlk : (gotReq s).q.words.length = 0 := by rw [k1]; exact hlen.out
          refine got_end (o := w.heap.size) (A := none) (c := 0) rfl rfl (by rw [k2]; rfl) rfl (by rw [hlk, k1]; exact h1) (by rw [hlk, k1]; exact h3) h2
        · have HN := Lib.hid (got_not HM.out (.inr (.inr ht)))
          obtain ⟨tx, htx⟩ : ∃ tx, tx = reqS ⟨i, k, noQ⟩ := ⟨_, rfl⟩
          rw [← htx] at ht ⊢
          have hts : (tx.toList == s.toList) = false := by rw [bytes_beq]; exact decide_eq_false ht
          have htn : (tx.toList != s.toList) = true := by unfold bne; rw [hts]; rfl
          clear hm her ht htx
          go_wp2_with (fail)
          refine (show bodyPost _ _ _ Exit.ret _ (putR w9 w.heap.size noR none 0 0) from ?_)
          have h1 := putR_at HQ9.out noR none 0 0
          have h2 := putR_below HB9.out (Nat.le_refl _) noR none 0 0
          generalize putR w9 w.heap.size noR none 0 0 = W at h1 h2 ⊢
          obtain ⟨k1, k2⟩ := HN.out
          rw [← k1] at h1
          refine got_end (o := w.heap.size) (A := none) (c := 0) rfl rfl (by rw [k2]; rfl) rfl (by rw [k1] at h1 ⊢; exact h1) (by rw [k1]; exact own_nil) h2
      · clear hk3 hk12
        have ho3 : ¬ k ≤ 3 := by omega
        obtain ⟨c0, c1, c2, c3, c4, c5, c6, c7⟩ := HX.out.cells
        go_wp2_with (fail)
        refine (refPutRequest_c ⟨i, k, noQ⟩ none 0 0 _ (own_reads HO.out) hmax.out hbd).mono ?_
        rintro e w9 ⟨rfl, hB9⟩
        have HX9 := Lib.hid (HX.out.below hB9 HX.out.lt)
        have HQ9 := Lib.hid (HQ.out.below hB9 HQ.out.lt)
        have hC9 := HC.out.below hB9
        have HO9 := Lib.hid (own_below HO.out hB9)
        have HB9 := Lib.hid (HB.out.trans (hB9.mono HB.out.size))
        clear hB9 c0 c1 c2 c3 c4 c5 c6 c7
        obtain ⟨c0, c1, c2, c3, c4, c5, c6, c7⟩ := HX9.out.cells
        obtain ⟨u0, u1, u2⟩ := hC9.cells
        obtain ⟨d0, d1, d2, d3, d4, d5, d6, d7⟩ := HQ9.out.cells
        have g0 := HQ9.out.frozen 0
        have g1 := HQ9.out.frozen 1
        have g2 := HQ9.out.frozen 2
        have g3 := HQ9.out.frozen 3
        have g4 := HQ9.out.frozen 4
        have g5 := HQ9.out.frozen 5
        have g6 := HQ9.out.frozen 6
        have g7 := HQ9.out.frozen 7
        clear hC9
        obtain ⟨px, bad⟩ := px
        rcases bad with _ | _
        rotate_left
        · have HN := Lib.hid (got_not HM.out (.inl rfl))
          go_wp2_with (fail)
          refine (show bodyPost _ _ _ Exit.ret _ (putR w9 w.heap.size noR none 0 0) from ?_)
          have h1 := putR_at HQ9.out noR none 0 0
          have h2 := putR_below HB9.out (Nat.le_refl _) noR none 0 0
          generalize putR w9 w.heap.size noR none 0 0 = W at h1 h2 ⊢
          obtain ⟨k1, k2⟩ := HN.out
          rw [← k1] at h1
          refine got_end (o := w.heap.size) (A := none) (c := 0) rfl rfl (by rw [k2]; rfl) rfl (by rw [k1] at h1 ⊢; exact h1) (by rw [k1]; exact own_nil) h2
        by_cases hm : mayReq ⟨i, k, noQ⟩
        rotate_left
        · have HN := Lib.hid (got_not HM.out (.inr (.inl hm)))
          have her : reqErr ⟨i, k, noQ⟩ = 1 := if_neg hm
          rw [her]
          clear hm her
          go_wp2_with (fail)
          refine (show bodyPost _ _ _ Exit.ret _ (putR w9 w.heap.size noR none 0 0) from ?_)
          have h1 := putR_at HQ9.out noR none 0 0
          have h2 := putR_below HB9.out (Nat.le_refl _) noR none 0 0
          generalize putR w9 w.heap.size noR none 0 0 = W at h1 h2 ⊢
          obtain ⟨k1, k2⟩ := HN.out
          rw [← k1] at h1
          refine got_end (o := w.heap.size) (A := none) (c := 0) rfl rfl (by rw [k2]; rfl) rfl (by rw [k1] at h1 ⊢; exact h1) (by rw [k1]; exact own_nil) h2
        have her : reqErr ⟨i, k, noQ⟩ = 0 := if_pos hm
        rw [her]
        by_cases ht : reqS ⟨i, k, noQ⟩ = s
        · have HN := Lib.hid (got_yes HM.out hm ht)
          rw [ht]
          have hts : (s.toList == s.toList) = true := by simp
          have htn : (s.toList != s.toList) = false := by simp
          clear hm her ht
          go_wp2_with (fail)
          refine (show bodyPost _ _ _ Exit.ret _ (putR w9 w.heap.size ⟨i, k, noQ⟩ none 0 0) from ?_)
          have h1 := putR_at HQ9.out ⟨i, k, noQ⟩ none 0 0
          have h2 := putR_below HB9.out (Nat.le_refl _) ⟨i, k, noQ⟩ none 0 0
          have h3 := own_more (base := w.heap.size) (isF_own (own_more (base := w.heap.size + 1) HO9.out (by omega)) (putR_grown w9 w.heap.size ⟨i, k, noQ⟩ none 0 0) (by omega)) (Nat.le_succ _)
          generalize putR w9 w.heap.size ⟨i, k, noQ⟩ none 0 0 = W at h1 h2 h3 ⊢
          obtain ⟨k1, k2⟩ := HN.out
          have hlk : (gotReq s).q.words.length = 0 := by rw [k1]; exact hlen.out
          refine got_end (o := w.heap.size) (A := none) (c := 0) rfl rfl (by rw [k2]; rfl) rfl (by rw [hlk, k1]; exact h1) (by rw [hlk, k1]; exact h3) h2
        · have HN := Lib.hid (got_not HM.out (.inr (.inr ht)))
          obtain ⟨tx, htx⟩ : ∃ tx, tx = reqS ⟨i, k, noQ⟩ := ⟨_, rfl⟩
          rw [← htx] at ht ⊢
          have hts : (tx.toList == s.toList) = false := by rw [bytes_beq]; exact decide_eq_false ht
          have htn : (tx.toList != s.toList) = true := by unfold bne; rw [hts]; rfl
          clear hm her ht htx
          go_wp2_with (fail)
          refine (show bodyPost _ _ _ Exit.ret _ (putR w9 w.heap.size noR none 0 0) from ?_)
          have h1 := putR_at HQ9.out noR none 0 0
          have h2 := putR_below HB9.out (Nat.le_refl _) noR none 0 0
          generalize putR w9 w.heap.size noR none 0 0 = W at h1 h2 ⊢
          obtain ⟨k1, k2⟩ := HN.out
          rw [← k1] at h1
          refine got_end (o := w.heap.size) (A := none) (c := 0) rfl rfl (by rw [k2]; rfl) rfl (by rw [k1] at h1 ⊢; exact h1) (by rw [k1]; exact own_nil) h2
end Go.Proofs.Ytmnjlhifjjainaa
