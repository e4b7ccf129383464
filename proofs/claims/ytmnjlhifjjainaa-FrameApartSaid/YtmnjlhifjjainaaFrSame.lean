/-
  Are two the same: texts, queries, requests.
-/
import Derived.Test.YtmnjlhifjjainaaFrMay
namespace Go.Proofs.Ytmnjlhifjjainaa
open Go.RowKit

theorem bytes_beq {a b : ByteArray} : (a.toList == b.toList) = decide (a = b) := by
  rw [Bool.eq_iff_iff, beq_iff_eq, decide_eq_true_iff, Go.ByteArray.toList_eq, Go.ByteArray.toList_eq]
  exact ⟨fun h => bytes_ext h, fun h => by rw [h]⟩
set_option maxRecDepth 100000 in
set_option maxHeartbeats 2000000 in
theorem texts_c (A1 A2 : Option Addr) (n1 n2 c1 c2 : Nat) (xs ys : List ByteArray) (w : World) (h1 : Reads w w.heap.size 1 A1 n1 (sv xs)) (h2 : Reads w w.heap.size 1 A2 n2 (sv ys)) (hn1 : n1 ≤ maxLen) (hn2 : n2 ≤ maxLen) :
    Calls Try.prog 67 #[.slice A1 n1 c1, .slice A2 n2 c2] w fun e w' => e = .returned (.bool (decide (xs = ys))) ∧ Below w.heap.size w w' := by
  have l1 := h1.str_len
  have l2 := h2.str_len
  unfold maxLen at hn1 hn2
  by_cases hn : n1 = n2
  · subst hn
    go_enter Try.func67, Try.ntmps67
    go_wp2
    go_loopw [5] (fun i wr => ∃ k : Nat, k ≤ n1 ∧ i = .int .i64 k ∧ Hid (xs.take k = ys.take k) ∧ Below w.heap.size w wr) (fun i _ => n1 - (intOf i).toNat)
    case atStart => exact ⟨0, Nat.zero_le _, rfl, rfl, Below.refl _ _⟩
    case round =>
      obtain ⟨k, hk, rfl, ht, hB⟩ := hrel
      by_cases hlt : k < n1
      · obtain ⟨a1, o1, x, rfl, hx, hc1⟩ := (h1.below hB).str_at hlt
        obtain ⟨a2, o2, y, rfl, hy, hc2⟩ := (h2.below hB).str_at hlt
        clear h1 h2
        have L1 := Lib.hid l1
        have L2 := Lib.hid l2
        clear l1 l2
        have hxy : (x.toList == y.toList) = decide (x = y) := bytes_beq
        by_cases he : x = y
        · rw [decide_eq_true he] at hxy
          have HE := Lib.hid he
          have HT : Hid (xs.take (k + 1) = ys.take (k + 1)) := by
            show _ = _
            rw [List.take_add_one, List.take_add_one, ht.out, hx.out, hy.out, he]
          clear he
          go_wp2
          go_quiet (fail)
          go_wp2
          go_roundw
          case rel => exact ⟨k + 1, by omega, by go_num, HT.out, below_drewN hB _⟩
          case measure => simp [intOf]; omega
        · rw [decide_eq_false he] at hxy
          have hf : Hid (¬ xs = ys) := fun e => he (by
            have e1 := hx.out
            rw [e, hy.out] at e1
            injection e1 with e1; exact e1.symm)
          clear he
          go_wp2
          go_quiet (fail)
          go_wp2
          go_ret
          exact ⟨ret_bool (decide_eq_false hf.out).symm, below_drewN hB _⟩
      · obtain rfl : k = n1 := by omega
        have hf : Hid (xs = ys) := by
          have := ht.out
          rw [List.take_of_length_le (by omega), List.take_of_length_le (by omega)] at this
          exact this
        clear l1 l2
        go_wp2
        go_ret
        exact ⟨ret_bool (decide_eq_true hf.out).symm, hB⟩
  · have hf : Hid (¬ xs = ys) := fun e => hn (by rw [← l1, ← l2, e])
    clear l1 l2
    go_enter Try.func67, Try.ntmps67
    go_wp2
    go_ret
    exact ⟨ret_bool (decide_eq_false hf.out).symm, Below.refl _ _⟩

set_option maxRecDepth 100000 in
set_option maxHeartbeats 4000000 in
theorem sameQuery_c (x y : Qry) (A1 A2 : Option Addr) (n1 n2 c1 c2 : Nat) (w : World) (h1 : Reads w w.heap.size 1 A1 n1 (sv x.words)) (h2 : Reads w w.heap.size 1 A2 n2 (sv y.words)) (hn1 : n1 ≤ maxLen) (hn2 : n2 ≤ maxLen) :
    Calls Try.prog 51 #[.agg #[.int .i64 x.kind, .int .i64 x.src, .int .i64 x.dst, .slice A1 n1 c1, .int .i64 x.radius, .int .i64 x.most], .agg #[.int .i64 y.kind, .int .i64 y.src, .int .i64 y.dst, .slice A2 n2 c2, .int .i64 y.radius, .int .i64 y.most]] w
      fun e w' => e = .returned (.bool (decide (x = y))) ∧ Below w.heap.size w w' := by
  have HI := Lib.hid (Qry.eq_iff x y)
  have HR1 := Lib.hid h1
  have HR2 := Lib.hid h2
  have HN1 := Lib.hid hn1
  have HN2 := Lib.hid hn2
  clear h1 h2 hn1 hn2
  have hqa := QAt.new w x A1 n1 c1
  have hqb := Lib.hid (QAt.below hqa ((Below.refl _ _).alloc (Nat.le_refl _) (.cells #[.int .i64 y.kind, .int .i64 y.src, .int .i64 y.dst, .slice A2 n2 c2, .int .i64 y.radius, .int .i64 y.most] 24)) hqa.lt)
  clear hqa
  have hqc := (QAt.new (w.alloc (.cells #[.int .i64 x.kind, .int .i64 x.src, .int .i64 x.dst, .slice A1 n1 c1, .int .i64 x.radius, .int .i64 x.most] 24)) y A2 n2 c2)
  rw [show (w.alloc (.cells #[.int .i64 x.kind, .int .i64 x.src, .int .i64 x.dst, .slice A1 n1 c1, .int .i64 x.radius, .int .i64 x.most] 24)).heap.size = w.heap.size + 1 by simp] at hqc
  have hqc := Lib.hid hqc
  have hBq : Below w.heap.size w ((w.alloc (.cells #[.int .i64 x.kind, .int .i64 x.src, .int .i64 x.dst, .slice A1 n1 c1, .int .i64 x.radius, .int .i64 x.most] 24)).alloc (.cells #[.int .i64 y.kind, .int .i64 y.src, .int .i64 y.dst, .slice A2 n2 c2, .int .i64 y.radius, .int .i64 y.most] 24)) := ((Below.refl _ _).alloc (Nat.le_refl _) _).alloc (by simp) _
  obtain ⟨b0, hb0⟩ : ∃ b, (x.kind == y.kind) = b := ⟨_, rfl⟩
  obtain ⟨b1, hb1⟩ : ∃ b, (x.src == y.src) = b := ⟨_, rfl⟩
  obtain ⟨b2, hb2⟩ : ∃ b, (x.dst == y.dst) = b := ⟨_, rfl⟩
  obtain ⟨b3, hb3⟩ : ∃ b, decide (x.words = y.words) = b := ⟨_, rfl⟩
  obtain ⟨b4, hb4⟩ : ∃ b, (x.radius == y.radius) = b := ⟨_, rfl⟩
  obtain ⟨b5, hb5⟩ : ∃ b, (x.most == y.most) = b := ⟨_, rfl⟩
  have H : Hid (decide (x = y) = (b0 && b1 && b2 && b3 && b4 && b5)) := by
    show _ = _
    rw [← hb0, ← hb1, ← hb2, ← hb3, ← hb4, ← hb5, Bool.eq_iff_iff, decide_eq_true_iff, HI.out]
    simp [and_assoc]
  have H3 := Lib.hid hb3
  clear hb3
  by_cases hh : b0 = true ∧ b1 = true ∧ b2 = true
  · obtain ⟨rfl, rfl, rfl⟩ := hh
    go_enter Try.func51, Try.ntmps51
    go_wp2_with (fail)
    refine (texts_c A1 A2 n1 n2 c1 c2 x.words y.words _ ((HR1.out.below hBq).more (by simp; omega)) ((HR2.out.below hBq).more (by simp; omega)) HN1.out HN2.out).mono ?_
    rintro e w2 ⟨rfl, hB2⟩
    rw [H3.out]
    have hBB := hBq.trans (hB2.mono hBq.size)
    obtain ⟨c0, c1, c2, c3, c4, c5⟩ := (hqb.out.below hB2 (by simp; omega)).cells
    obtain ⟨d0, d1, d2, d3, d4, d5⟩ := (hqc.out.below hB2 (by simp)).cells
    rcases b3 with _ | _
    · go_wp2_with (fail)
      go_ret
      exact ⟨ret_bool (by rw [H.out]; rfl), hBB⟩
    · rcases b4 with _ | _
      · go_wp2_with (fail)
        go_ret
        exact ⟨ret_bool (by rw [H.out]; rfl), hBB⟩
      · go_wp2_with (fail)
        go_ret
        exact ⟨ret_bool (by rw [H.out]; first | rfl | simp [hb5]), hBB⟩
  · have HF : Hid (decide (x = y) = false) := by
      show _ = _
      rw [H.out]
      revert hh
      cases b0 <;> cases b1 <;> cases b2 <;> simp
    clear H
    rcases b0 with _ | _
    · go_enter Try.func51, Try.ntmps51
      go_wp2_with (fail)
      go_ret
      exact ⟨ret_bool HF.out.symm, hBq⟩
    · rcases b1 with _ | _
      · go_enter Try.func51, Try.ntmps51
        go_wp2_with (fail)
        go_ret
        exact ⟨ret_bool HF.out.symm, hBq⟩
      · rcases b2 with _ | _
        · go_enter Try.func51, Try.ntmps51
          go_wp2_with (fail)
          go_ret
          exact ⟨ret_bool HF.out.symm, hBq⟩
        · exact absurd ⟨rfl, rfl, rfl⟩ hh
end Go.Proofs.Ytmnjlhifjjainaa
