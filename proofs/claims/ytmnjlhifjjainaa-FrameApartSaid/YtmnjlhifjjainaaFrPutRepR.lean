/-
  A reply put: the reference.
-/
import Derived.Test.YtmnjlhifjjainaaFrPutRep
namespace Go.Proofs.Ytmnjlhifjjainaa
open Go.RowKit

set_option maxRecDepth 100000 in
set_option maxHeartbeats 1000000 in
theorem refPutReply_c (x : Rep) (A : Option Addr) (n c : Nat) (w : World) (h1 : Reads w w.heap.size 2 A n (hv x.hits)) (hn : n ≤ maxLen) :
    Calls Try.prog 20 #[.agg #[.int .i64 x.id, .int .i64 x.code, .bool x.found, .int .i64 x.d, .slice A n c]] w fun e w' => e = .returned (.tuple #[.string (repS x), .int .i64 (repErr x)]) ∧ Below w.heap.size w w' := by
  have HR := Lib.hid h1
  have HL := Lib.hid h1.hit_len
  clear h1
  have HN := Lib.hid hn
  have hrb := Lib.hid (PAt.new w x A n c)
  have hBq := below_one w (.cells #[.int .i64 x.id, .int .i64 x.code, .bool x.found, .int .i64 x.d, .slice A n c] 40)
  by_cases hm : mayRep x
  · have e1 : repS x = ⟨(repB x).toArray⟩ := if_pos hm
    have e2 : repErr x = 0 := if_pos hm
    rw [e1, e2]
    clear e1 e2
    have hn1 : n ≤ 100 := by have := hm.2.2.2.1; have := HL.out; omega
    go_enter Try.func20, Try.ntmps20
    go_wp2_with (fail)
    refine (reply_c x A n c _ ((HR.out.below hBq).more (by simp)) HN.out).mono ?_
    rintro e w2 ⟨rfl, hB2⟩
    rw [decide_eq_true hm]
    clear hm
    have hBB := hBq.trans (hB2.mono hBq.size)
    have hR2 := hrb.out.below hB2 (by simp)
    obtain ⟨xi, xc, xf, xd, xh⟩ := x
    simp only at HL HR hR2 ⊢
    obtain ⟨c0, c1, c2, c3, c4⟩ := hR2.cells
    try simp only at c0 c1 c2 c3
    have HR2 := Lib.hid hR2
    have HB2 := Lib.hid hBB
    clear hR2 hBB hB2 hBq hrb
    go_wp2_with (fail)
    refine (numbers_c w2.heap.size 2 [xi, xc] _ rfl (row_new w2 [xi, xc]) (by omega)).mono ?_
    rintro e w3 ⟨rfl, hB3⟩
    have hBA := below_one w2 (.cells #[.int .i64 xi, .int .i64 xc] 3)
    have hBB := hBA.trans (hB3.mono hBA.size)
    have HP3 := Lib.hid (HR2.out.below hBB HR2.out.lt)
    have HB3 := Lib.hid (HB2.out.trans (hBB.mono HB2.out.size))
    have hl1 : (ByteArray.mk (layB [xi, xc]).toArray).size ≤ 15 := by rw [lay_size]; have := layB_len [xi, xc]; simp at this; omega
    have HF1 : Hid ((ByteArray.mk (layB [xi, xc]).toArray).data.toList = layB [xi, xc]) := rfl
    generalize ByteArray.mk (layB [xi, xc]).toArray = s1 at hl1 HF1
    clear c0 c1 c2 c3 c4 hBA hB3 hBB HR2 HB2
    obtain ⟨c0, c1, c2, c3, c4⟩ := HP3.out.cells
    try simp only at c0 c1 c2 c3
    by_cases hc : xc = 0
    · subst hc
      rcases xf with _ | _
      · have HF := Lib.hid (repB_ok (x := ⟨xi, 0, false, xd, xh⟩) (n := n) (f := 0) rfl HL.out rfl)
        try simp only at HF
        go_wp2_with (fail)
        refine (numbers_c w3.heap.size 3 [0, xd, (n : Int)] _ rfl (row_new w3 [0, xd, (n : Int)]) (by omega)).mono ?_
        rintro e w4 ⟨rfl, hB4⟩
        have hBA := below_one w3 (.cells #[.int .i64 0, .int .i64 xd, .int .i64 (n : Int)] 3)
        have hBB := hBA.trans (hB4.mono hBA.size)
        have HB4 := Lib.hid (HB3.out.trans (hBB.mono HB3.out.size))
        have HP4 := Lib.hid (HP3.out.below hBB HP3.out.lt)
        have hl2 : (ByteArray.mk (layB [0, xd, (n : Int)]).toArray).size ≤ 15 := by rw [lay_size]; have := layB_len [0, xd, (n : Int)]; simp at this; omega
        have HF2 : Hid ((ByteArray.mk (layB [0, xd, (n : Int)]).toArray).data.toList = layB [0, xd, (n : Int)]) := rfl
        generalize ByteArray.mk (layB [0, xd, (n : Int)]).toArray = s2 at hl2 HF2
        have hov : ¬ 9223372036854775807 < s1.size + s2.size := by omega
        clear c0 c1 c2 c3 c4 hBA hB4 hBB HB3 HP3
        obtain ⟨c0, c1, c2, c3, c4⟩ := HP4.out.cells
        try simp only at c0 c1 c2 c3
        go_wp2_with (fail)
        have HF3 : Hid ((s1 ++ s2).data.toList = layB [xi, 0] ++ layB [0, xd, (n : Int)]) := by
          show _ = _
          rw [app_list, HF1.out, HF2.out]
        have hl3 : (s1 ++ s2).size ≤ 30 := by rw [app_size]; omega
        generalize s1 ++ s2 = s3 at hl3 HF3
        go_loopw [4, 6] (fun o i wr => ∃ (k : Nat) (t : ByteArray), k ≤ n ∧ i = .int .i64 k ∧ o = .string t ∧ t.size ≤ 30 + 10 * k ∧ Hid (t.data.toList = layB [xi, 0] ++ layB [0, xd, (n : Int)] ++ hitsB (xh.take k)) ∧ Hid (PAt wr w.heap.size ⟨xi, 0, false, xd, xh⟩ A n c) ∧ Below w.heap.size w wr) (fun o i _ => n - (intOf i).toNat)
        case atStart => exact ⟨0, s3, Nat.zero_le _, rfl, rfl, by omega, by show _ = _; rw [HF3.out]; simp [hitsB], HP4, HB4.out⟩
        case round =>
          clear HP4 HB4 c0 c1 c2 c3 c4
          obtain ⟨k, t, hk, rfl, rfl, htl, hT, HP, hB⟩ := hrel
          obtain ⟨c0, c1, c2, c3, c4⟩ := HP.out.cells
          try simp only at c0 c1 c2 c3
          by_cases hltk : k < n
          · obtain ⟨a1, o1, y, hA, hx, hc1, hc2⟩ := (HR.out.below hB).hit_at hltk
            subst hA
            obtain ⟨yv, yd⟩ := y
            simp only at hc1 hc2
            go_wp2_with (fail)
            have hB5 := below_two wr (.cells #[.int .i64 yv, .int .i64 yd] 88) (.cells #[.int .i64 yv, .int .i64 yd] 3)
            refine (numbers_c (wr.heap.size + 1) 2 [yv, yd] _ rfl (row_new1 wr (.cells #[.int .i64 yv, .int .i64 yd] 88) [yv, yd]) (by omega)).mono ?_
            rintro e w5 ⟨rfl, hB6⟩
            have hB7 := hB5.trans (hB6.mono hB5.size)
            have HP5 := Lib.hid (HP.out.below hB7 HP.out.lt)
            have HB5 := Lib.hid (hB.trans (hB7.mono hB.size))
            have hl5 : (ByteArray.mk (layB [yv, yd]).toArray).size ≤ 10 := by rw [lay_size]; exact lay2 _ _
            have HF5 : Hid ((ByteArray.mk (layB [yv, yd]).toArray).data.toList = layB [yv, yd]) := rfl
            generalize ByteArray.mk (layB [yv, yd]).toArray = s5 at hl5 HF5
            have hov : ¬ 9223372036854775807 < t.size + s5.size := by omega
            clear hB5 hB6 hB7 hB HP hc1 hc2 c0 c1 c2 c3 c4
            go_wp2_with (fail)
            go_roundw
            case rel =>
              refine ⟨k + 1, _, by omega, by go_num, rfl, by rw [app_size]; omega, ?_, HP5, HB5.out⟩
              show _ = _
              rw [app_list, hT.out, HF5.out, List.take_add_one, hx.out, Option.toList_some, hitsB_snoc, ← List.append_assoc]
              rfl
            case measure => simp [intOf] <;> omega
          · obtain rfl : k = n := by omega
            have hT := hT.out
            rw [List.take_of_length_le (by rw [HL.out]; exact Nat.le_refl _), HF.out] at hT
            have HT := Lib.hid hT
            clear hT
            go_wp2_with (fail)
            go_ret2
            have hE : t = ⟨(repB ⟨xi, 0, false, xd, xh⟩).toArray⟩ := bytes_ext (by rw [HT.out])
            rw [hE]
            exact ⟨rfl, hB⟩
      · have HF := Lib.hid (repB_ok (x := ⟨xi, 0, true, xd, xh⟩) (n := n) (f := 1) rfl HL.out rfl)
        try simp only at HF
        go_wp2_with (fail)
        refine (numbers_c w3.heap.size 3 [1, xd, (n : Int)] _ rfl (row_new w3 [1, xd, (n : Int)]) (by omega)).mono ?_
        rintro e w4 ⟨rfl, hB4⟩
        have hBA := below_one w3 (.cells #[.int .i64 1, .int .i64 xd, .int .i64 (n : Int)] 3)
        have hBB := hBA.trans (hB4.mono hBA.size)
        have HB4 := Lib.hid (HB3.out.trans (hBB.mono HB3.out.size))
        have HP4 := Lib.hid (HP3.out.below hBB HP3.out.lt)
        have hl2 : (ByteArray.mk (layB [1, xd, (n : Int)]).toArray).size ≤ 15 := by rw [lay_size]; have := layB_len [1, xd, (n : Int)]; simp at this; omega
        have HF2 : Hid ((ByteArray.mk (layB [1, xd, (n : Int)]).toArray).data.toList = layB [1, xd, (n : Int)]) := rfl
        generalize ByteArray.mk (layB [1, xd, (n : Int)]).toArray = s2 at hl2 HF2
        have hov : ¬ 9223372036854775807 < s1.size + s2.size := by omega
        clear c0 c1 c2 c3 c4 hBA hB4 hBB HB3 HP3
        obtain ⟨c0, c1, c2, c3, c4⟩ := HP4.out.cells
        try simp only at c0 c1 c2 c3
        go_wp2_with (fail)
        have HF3 : Hid ((s1 ++ s2).data.toList = layB [xi, 0] ++ layB [1, xd, (n : Int)]) := by
          show _ = _
          rw [app_list, HF1.out, HF2.out]
        have hl3 : (s1 ++ s2).size ≤ 30 := by rw [app_size]; omega
        generalize s1 ++ s2 = s3 at hl3 HF3
        go_loopw [4, 6] (fun o i wr => ∃ (k : Nat) (t : ByteArray), k ≤ n ∧ i = .int .i64 k ∧ o = .string t ∧ t.size ≤ 30 + 10 * k ∧ Hid (t.data.toList = layB [xi, 0] ++ layB [1, xd, (n : Int)] ++ hitsB (xh.take k)) ∧ Hid (PAt wr w.heap.size ⟨xi, 0, true, xd, xh⟩ A n c) ∧ Below w.heap.size w wr) (fun o i _ => n - (intOf i).toNat)
        case atStart => exact ⟨0, s3, Nat.zero_le _, rfl, rfl, by omega, by show _ = _; rw [HF3.out]; simp [hitsB], HP4, HB4.out⟩
        case round =>
          clear HP4 HB4 c0 c1 c2 c3 c4
          obtain ⟨k, t, hk, rfl, rfl, htl, hT, HP, hB⟩ := hrel
          obtain ⟨c0, c1, c2, c3, c4⟩ := HP.out.cells
          try simp only at c0 c1 c2 c3
          by_cases hltk : k < n
          · obtain ⟨a1, o1, y, hA, hx, hc1, hc2⟩ := (HR.out.below hB).hit_at hltk
            subst hA
            obtain ⟨yv, yd⟩ := y
            simp only at hc1 hc2
            go_wp2_with (fail)
            have hB5 := below_two wr (.cells #[.int .i64 yv, .int .i64 yd] 88) (.cells #[.int .i64 yv, .int .i64 yd] 3)
            refine (numbers_c (wr.heap.size + 1) 2 [yv, yd] _ rfl (row_new1 wr (.cells #[.int .i64 yv, .int .i64 yd] 88) [yv, yd]) (by omega)).mono ?_
            rintro e w5 ⟨rfl, hB6⟩
            have hB7 := hB5.trans (hB6.mono hB5.size)
            have HP5 := Lib.hid (HP.out.below hB7 HP.out.lt)
            have HB5 := Lib.hid (hB.trans (hB7.mono hB.size))
            have hl5 : (ByteArray.mk (layB [yv, yd]).toArray).size ≤ 10 := by rw [lay_size]; exact lay2 _ _
            have HF5 : Hid ((ByteArray.mk (layB [yv, yd]).toArray).data.toList = layB [yv, yd]) := rfl
            generalize ByteArray.mk (layB [yv, yd]).toArray = s5 at hl5 HF5
            have hov : ¬ 9223372036854775807 < t.size + s5.size := by omega
            clear hB5 hB6 hB7 hB HP hc1 hc2 c0 c1 c2 c3 c4
            go_wp2_with (fail)
            go_roundw
            case rel =>
              refine ⟨k + 1, _, by omega, by go_num, rfl, by rw [app_size]; omega, ?_, HP5, HB5.out⟩
              show _ = _
              rw [app_list, hT.out, HF5.out, List.take_add_one, hx.out, Option.toList_some, hitsB_snoc, ← List.append_assoc]
              rfl
            case measure => simp [intOf] <;> omega
          · obtain rfl : k = n := by omega
            have hT := hT.out
            rw [List.take_of_length_le (by rw [HL.out]; exact Nat.le_refl _), HF.out] at hT
            have HT := Lib.hid hT
            clear hT
            go_wp2_with (fail)
            go_ret2
            have hE : t = ⟨(repB ⟨xi, 0, true, xd, xh⟩).toArray⟩ := bytes_ext (by rw [HT.out])
            rw [hE]
            exact ⟨rfl, hB⟩
    · have HF := Lib.hid (repB_bad (x := ⟨xi, xc, xf, xd, xh⟩) hc)
      try simp only at HF
      have hcb : (xc != 0) = true := by simpa using hc
      clear hc
      go_wp2_with (fail)
      go_ret2
      have hE : s1 = ⟨(repB ⟨xi, xc, xf, xd, xh⟩).toArray⟩ := bytes_ext (by rw [HF1.out, HF.out])
      rw [hE]
      exact ⟨rfl, HB3.out⟩
  · have e1 : repS x = ⟨#[]⟩ := if_neg hm
    have e2 : repErr x = 1 := if_neg hm
    rw [e1, e2]
    clear e1 e2
    go_enter Try.func20, Try.ntmps20
    go_wp2_with (fail)
    refine (reply_c x A n c _ ((HR.out.below hBq).more (by simp)) HN.out).mono ?_
    rintro e w2 ⟨rfl, hB2⟩
    rw [decide_eq_false hm]
    clear hm
    go_wp2_with (fail)
    go_ret2
    exact ⟨rfl, hBq.trans (hB2.mono hBq.size)⟩
end Go.Proofs.Ytmnjlhifjjainaa
