/-
  A request put: the reference.
-/
import Derived.Test.YtmnjlhifjjainaaFrPutReq
namespace Go.Proofs.Ytmnjlhifjjainaa
open Go.RowKit

set_option maxRecDepth 100000 in
set_option maxHeartbeats 2000000 in
theorem refPutRequest_c (x : Req) (A : Option Addr) (n c : Nat) (w : World) (h1 : Reads w w.heap.size 1 A n (sv x.q.words)) (hn : n ≤ maxLen) (hb : Hid (bounded x.q.words)) :
    Calls Try.prog 14 #[.agg #[.int .i64 x.id, .int .i64 x.kind, .int .i64 x.q.kind, .int .i64 x.q.src, .int .i64 x.q.dst, .slice A n c, .int .i64 x.q.radius, .int .i64 x.q.most]] w fun e w' => e = .returned (.tuple #[.string (reqS x), .int .i64 (reqErr x)]) ∧ Below w.heap.size w w' := by
  have HR := Lib.hid h1
  have HL := Lib.hid h1.str_len
  clear h1
  have HN := Lib.hid hn
  have hrb := Lib.hid (RAt.new w x A n c)
  have hBq := below_one w (.cells #[.int .i64 x.id, .int .i64 x.kind, .int .i64 x.q.kind, .int .i64 x.q.src, .int .i64 x.q.dst, .slice A n c, .int .i64 x.q.radius, .int .i64 x.q.most] 26)
  by_cases hm : mayReq x
  · have e1 : reqS x = ⟨(reqB x).toArray⟩ := if_pos hm
    have e2 : reqErr x = 0 := if_pos hm
    rw [e1, e2]
    clear e1 e2
    have HK := Lib.hid (req_kinds hm)
    go_enter Try.func14, Try.ntmps14
    go_wp2_with (fail)
    refine (request_c x A n c _ ((HR.out.below hBq).more (by simp)) HN.out hb).mono ?_
    rintro e w2 ⟨rfl, hB2⟩
    rw [decide_eq_true hm]
    clear hm
    have hBB := hBq.trans (hB2.mono hBq.size)
    have hR2 := hrb.out.below hB2 (by simp)
    have hlt := hR2.lt
    obtain ⟨c0, c1, c2, c3, c4, c5, c6, c7⟩ := hR2.cells
    have HR2 := Lib.hid hR2
    have HB2 := Lib.hid hBB
    clear hR2 hBB hB2 hBq
    go_wp2_with (fail)
    refine (numbers_c (w2.heap.size + 1) 2 [x.id, x.kind] _ rfl (row_new1 w2 _ [x.id, x.kind]) (by omega)).mono ?_
    rintro e w3 ⟨rfl, hB3⟩
    have hBA : Below w2.heap.size w2 ((w2.alloc (.cells #[.int .i64 x.q.kind, .int .i64 x.q.src, .int .i64 x.q.dst, .slice A n c, .int .i64 x.q.radius, .int .i64 x.q.most] 24)).alloc (.cells #[.int .i64 x.id, .int .i64 x.kind] 3)) := below_two _ _ _
    have hBB := hBA.trans (hB3.mono hBA.size)
    have HR3 := Lib.hid (HR2.out.below hBB hlt)
    have HQ3 := Lib.hid ((((QAt.new w2 x.q A n c).below (B := w2.heap.size + 1) ((Below.refl _ _).alloc (by simp) _) (by omega))).below hB3 (by simp; omega))
    have HB3 := Lib.hid (HB2.out.trans (hBB.mono (Nat.le_of_lt hlt)))
    have hl1 : (ByteArray.mk (layB [x.id, x.kind]).toArray).size ≤ 10 := by rw [lay_size]; exact lay2 _ _
    have HF1 : Hid ((ByteArray.mk (layB [x.id, x.kind]).toArray).data.toList = layB [x.id, x.kind]) := rfl
    generalize ByteArray.mk (layB [x.id, x.kind]).toArray = s1 at hl1 HF1
    clear c0 c1 c2 c3 c4 c5 c6 c7 hBA hB3 hBB HR2 HB2
    obtain ⟨c0, c1, c2, c3, c4, c5, c6, c7⟩ := HR3.out.cells
    obtain ⟨q0, q1, q2, q3, q4, q5⟩ := HQ3.out.cells
    generalize w2.heap.size = b at *
    rcases HK.out with ⟨hk1, hk2⟩ | ⟨hk3, hk8⟩ | hk4
    · have HF := Lib.hid (reqB_low (x := x) (by omega))
      have hk3 : x.kind < 3 := by omega
      go_wp2_with (fail)
      refine (numbers_c w3.heap.size 2 [x.q.src, x.q.dst] _ rfl (row_new w3 [x.q.src, x.q.dst]) (by omega)).mono ?_
      rintro e w4 ⟨rfl, hB4⟩
      have hBA := below_one w3 (.cells #[.int .i64 x.q.src, .int .i64 x.q.dst] 3)
      have hBB := HB3.out.trans ((hBA.trans (hB4.mono hBA.size)).mono HB3.out.size)
      have hl2 : (ByteArray.mk (layB [x.q.src, x.q.dst]).toArray).size ≤ 10 := by rw [lay_size]; exact lay2 _ _
      have HF2 : Hid ((ByteArray.mk (layB [x.q.src, x.q.dst]).toArray).data.toList = layB [x.q.src, x.q.dst]) := rfl
      generalize ByteArray.mk (layB [x.q.src, x.q.dst]).toArray = s2 at hl2 HF2
      have hov : ¬ 9223372036854775807 < s1.size + s2.size := by omega
      clear c0 c1 c2 c3 c4 c5 c6 c7 q0 q1 q2 q3 q4 q5 hBA hB4
      go_wp2_with (fail)
      go_ret2
      have hE : s1 ++ s2 = ⟨(reqB x).toArray⟩ := bytes_ext (by rw [app_list, HF1.out, HF2.out, HF.out])
      rw [hE]
      exact ⟨rfl, hBB⟩
    · have HF := Lib.hid (reqB_three (x := x) hk3 HL.out)
      have hk2 : ¬ x.kind < 3 := by omega
      have hk4 : (x.kind == 4) = false := by rw [beq_eq_false_iff_ne]; omega
      have hn8 : n ≤ 8 := by have := HL.out; omega
      clear hk3 hk8
      go_wp2_with (fail)
      refine (numbers_c w3.heap.size 2 [x.q.src, (n : Int)] _ rfl (row_new w3 [x.q.src, (n : Int)]) (by omega)).mono ?_
      rintro e w4 ⟨rfl, hB4⟩
      have hBA := below_one w3 (.cells #[.int .i64 x.q.src, .int .i64 (n : Int)] 3)
      have hBB := hBA.trans (hB4.mono hBA.size)
      have HB4 := Lib.hid (HB3.out.trans (hBB.mono HB3.out.size))
      have HQ4 := Lib.hid (HQ3.out.below hBB HQ3.out.lt)
      have hl2 : (ByteArray.mk (layB [x.q.src, (n : Int)]).toArray).size ≤ 10 := by rw [lay_size]; exact lay2 _ _
      have HF2 : Hid ((ByteArray.mk (layB [x.q.src, (n : Int)]).toArray).data.toList = layB [x.q.src, (n : Int)]) := rfl
      generalize ByteArray.mk (layB [x.q.src, (n : Int)]).toArray = s2 at hl2 HF2
      have hov : ¬ 9223372036854775807 < s1.size + s2.size := by omega
      clear c0 c1 c2 c3 c4 c5 c6 c7 q0 q1 q2 q3 q4 q5 hBA hB4 hBB HQ3 HB3 HR3
      go_wp2_with (fail)
      have HF3 : Hid ((s1 ++ s2).data.toList = layB [x.id, x.kind] ++ layB [x.q.src, (n : Int)]) := by
        show _ = _
        rw [app_list, HF1.out, HF2.out]
      have hl3 : (s1 ++ s2).size ≤ 20 := by rw [app_size]; omega
      generalize s1 ++ s2 = s3 at hl3 HF3
      go_loopw [5, 6] (fun o i wr => ∃ (k : Nat) (t : ByteArray), k ≤ n ∧ i = .int .i64 k ∧ o = .string t ∧ t.size ≤ 20 + 4005 * k ∧ Hid (t.data.toList = layB [x.id, x.kind] ++ layB [x.q.src, (n : Int)] ++ wordsB (x.q.words.take k)) ∧ QAt wr b x.q A n c ∧ Below w.heap.size w wr) (fun o i _ => n - (intOf i).toNat)
      case atStart => exact ⟨0, s3, Nat.zero_le _, rfl, rfl, by omega, by show _ = _; rw [HF3.out]; simp [wordsB], HQ4.out, HB4.out⟩
      case round =>
        clear HQ4 HB4
        obtain ⟨k, t, hk, rfl, rfl, htl, hT, hqr, hB⟩ := hrel
        obtain ⟨q0, q1, q2, q3, q4, q5⟩ := hqr.cells
        have HQ := Lib.hid hqr
        clear hqr
        by_cases hltk : k < n
        · obtain ⟨a1, o1, x', hA, hx, hc1⟩ := (HR.out.below hB).str_at hltk
          subst hA
          go_wp2_with (fail)
          refine (refTextT x' _).mono ?_
          rintro e w5 ⟨rfl, hB5⟩
          have HQ5 := Lib.hid (HQ.out.below hB5 HQ.out.lt)
          have HB5 := Lib.hid (hB.trans (hB5.mono hB.size))
          have hl5 := textStr_len x'
          have hov : ¬ 9223372036854775807 < t.size + (textStr x').size := by omega
          clear hB5 hB HQ hc1 q0 q1 q2 q3 q4 q5
          unfold textV
          go_wp2_with (fail)
          go_roundw
          case rel =>
            refine ⟨k + 1, _, by omega, by go_num, rfl, by rw [app_size]; omega, ?_, HQ5.out, HB5.out⟩
            show _ = _
            rw [app_list, hT.out, List.take_add_one, hx.out, Option.toList_some, wordsB_snoc, ← List.append_assoc]
          case measure => simp [intOf] <;> omega
        · obtain rfl : k = n := by omega
          have hT := hT.out
          rw [List.take_of_length_le (by rw [HL.out]; exact Nat.le_refl _)] at hT
          have HT := Lib.hid hT
          clear hT
          go_wp2_with (fail)
          refine (numbers_c wr.heap.size 2 [x.q.radius, x.q.most] _ rfl (row_new wr [x.q.radius, x.q.most]) (by omega)).mono ?_
          rintro e w4 ⟨rfl, hB4⟩
          have hBA := below_one wr (.cells #[.int .i64 x.q.radius, .int .i64 x.q.most] 3)
          have hBB := hB.trans ((hBA.trans (hB4.mono hBA.size)).mono hB.size)
          have hl5 : (ByteArray.mk (layB [x.q.radius, x.q.most]).toArray).size ≤ 10 := by rw [lay_size]; exact lay2 _ _
          have HF5 : Hid ((ByteArray.mk (layB [x.q.radius, x.q.most]).toArray).data.toList = layB [x.q.radius, x.q.most]) := rfl
          generalize ByteArray.mk (layB [x.q.radius, x.q.most]).toArray = s5 at hl5 HF5
          have hov : ¬ 9223372036854775807 < t.size + s5.size := by omega
          clear q0 q1 q2 q3 q4 q5 hBA hB4 hB
          go_wp2_with (fail)
          go_ret2
          have hE : t ++ s5 = ⟨(reqB x).toArray⟩ := bytes_ext (by rw [app_list, HT.out, HF5.out, HF.out])
          rw [hE]
          exact ⟨rfl, hBB⟩
    · have HF := Lib.hid (reqB_four hk4)
      have hk2 : ¬ x.kind < 3 := by omega
      have hk3 : (x.kind == 4) = true := by simpa using hk4
      clear hk4
      go_wp2_with (fail)
      go_ret2
      have hE : s1 = ⟨(reqB x).toArray⟩ := bytes_ext (by rw [HF1.out, HF.out])
      rw [hE]
      exact ⟨rfl, HB3.out⟩
  · have e1 : reqS x = ⟨#[]⟩ := if_neg hm
    have e2 : reqErr x = 1 := if_neg hm
    rw [e1, e2]
    clear e1 e2
    go_enter Try.func14, Try.ntmps14
    go_wp2_with (fail)
    refine (request_c x A n c _ ((HR.out.below hBq).more (by simp)) HN.out hb).mono ?_
    rintro e w2 ⟨rfl, hB2⟩
    rw [decide_eq_false hm]
    clear hm
    go_wp2_with (fail)
    go_ret2
    exact ⟨rfl, hBq.trans (hB2.mono hBq.size)⟩
end Go.Proofs.Ytmnjlhifjjainaa
