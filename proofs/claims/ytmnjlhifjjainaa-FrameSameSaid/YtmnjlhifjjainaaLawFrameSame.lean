/-
  FrameSame: the walk.
-/
import Derived.Test.YtmnjlhifjjainaaFrLawP
namespace Go.Proofs.Ytmnjlhifjjainaa
open Go.RowKit

set_option maxRecDepth 100000 in
set_option maxHeartbeats 400000 in
theorem frameSame_c (s : ByteArray) (w : World) :
    Calls Try.prog 6 #[.string s] w fun e w' => e = .returned (.bool true) ∧ Below w.heap.size w w' := by
  by_cases hs : 500 < (s.size : Int)
  · go_enter Try.func6, Try.ntmps6
    go_wp2_with (fail)
    go_ret
    exact ⟨rfl, Below.refl _ _⟩
  have hs1 : s.size ≤ 1000000 := by omega
  have HS1 := Lib.hid (show (s ++ ⟨#[0]⟩ : ByteArray).size ≤ 1000000 by rw [app_size]; show s.size + 1 ≤ _; omega)
  have hov : ¬ 9223372036854775807 < s.size + 1 := by omega
  have HF1 := Lib.hid (same_req (s := s))
  have HF2 := Lib.hid (same_rep (s := s))
  obtain ⟨s0, hs0⟩ : ∃ s0 : ByteArray, s ++ ⟨#[0]⟩ = s0 := ⟨_, rfl⟩
  have HS0 := Lib.hid hs0
  rw [hs0] at HS1 HF1 HF2
  clear hs0
  have HBD := Lib.hid (got_bounded s)
  have hBB0 : Hid (Below w.heap.size w w) := Below.refl _ _
  go_enter Try.func6, Try.ntmps6
  go_wp2_with (fail)
  refine (getRequest_c s _ hs1).mono ?_
  rintro e w1 ⟨A3, c3, rfl, ho3, hB_1⟩
  have hBB1 := Lib.hid (hBB0.out.trans (hB_1.mono hBB0.out.size))
  clear hBB0 hB_1
  have hO3 := Lib.hid ho3
  clear ho3
  have hlen := Lib.hid (own_cap hO3.out)
  obtain ⟨gx, hgx⟩ : ∃ gx, gotReq s = gx := ⟨_, rfl⟩
  have Hgx := Lib.hid hgx
  rw [hgx] at HF1
  rw [hgx] at HBD
  rw [hgx] at hO3
  rw [hgx] at hlen
  rw [hgx] at ⊢
  clear hgx
  obtain ⟨ge, hge⟩ : ∃ ge, gotErr s = ge := ⟨_, rfl⟩
  have Hge := Lib.hid hge
  rw [hge] at HF1
  rw [hge] at ⊢
  clear hge
  have hY2 := Lib.hid (RAt.new w1 gx A3 gx.q.words.length c3)
  have hBB2 := Lib.hid (hBB1.out.alloc hBB1.out.size (.cells #[.int .i64 gx.id, .int .i64 gx.kind, .int .i64 gx.q.kind, .int .i64 gx.q.src, .int .i64 gx.q.dst, .slice A3 gx.q.words.length c3, .int .i64 gx.q.radius, .int .i64 gx.q.most] 26))
  have hO2 := Lib.hid (hO3.out.alloc (.cells #[.int .i64 gx.id, .int .i64 gx.kind, .int .i64 gx.q.kind, .int .i64 gx.q.src, .int .i64 gx.q.dst, .slice A3 gx.q.words.length c3, .int .i64 gx.q.radius, .int .i64 gx.q.most] 26))
  clear hBB1 hO3
  have hrd := Lib.hid (own_reads hO2.out)
  go_wp2_with (fail)
  refine (putRequest_c gx A3 gx.q.words.length c3 _ hrd.out (Nat.le_trans hlen.out.1 hlen.out.2) HBD.out).mono ?_
  rintro e w3 ⟨rfl, hB_3⟩
  have hBB3 := Lib.hid (hBB2.out.trans (hB_3.mono hBB2.out.size))
  have hO3 := Lib.hid (own_below hO2.out hB_3)
  have hY3 := Lib.hid (hY2.out.below hB_3 hY2.out.lt)
  clear hBB2 hO2 hY2 hB_3
  obtain ⟨t, ht⟩ : ∃ t, reqS gx = t := ⟨_, rfl⟩
  have Ht := Lib.hid ht
  rw [ht] at HF1
  rw [ht] at ⊢
  clear ht
  obtain ⟨er, her⟩ : ∃ er, reqErr gx = er := ⟨_, rfl⟩
  have Her := Lib.hid her
  rw [her] at HF1
  rw [her] at ⊢
  clear her
  by_cases hg1 : ge = 0
  · obtain ⟨q1, q2, q3⟩ := HF1.out hg1
    have HI1 := Lib.hid q3
    clear q3
    subst hg1 q1
    rw [q2]
    clear q2
    have hts : (s.toList == s.toList) = true := by simp
    have htn : (s.toList != s.toList) = false := by simp
    go_wp2_with (fail)
    refine (getReply_c s _ hs1).mono ?_
    rintro e w4 ⟨A5, c5, rfl, ho5, hB_4⟩
    have hBB4 := Lib.hid (hBB3.out.trans (hB_4.mono hBB3.out.size))
    have hO4 := Lib.hid (own_below hO3.out hB_4)
    have hY4 := Lib.hid (hY3.out.below hB_4 hY3.out.lt)
    clear hBB3 hO3 hY3 hB_4
    have hQ5 := Lib.hid ho5
    clear ho5
    have hlen2 := Lib.hid (own_cap hQ5.out)
    obtain ⟨gy, hgy⟩ : ∃ gy, gotRep s = gy := ⟨_, rfl⟩
    have Hgy := Lib.hid hgy
    rw [hgy] at HF2
    rw [hgy] at hQ5
    rw [hgy] at hlen2
    rw [hgy] at ⊢
    clear hgy
    obtain ⟨ge2, hge2⟩ : ∃ ge2, gotErrP s = ge2 := ⟨_, rfl⟩
    have Hge2 := Lib.hid hge2
    rw [hge2] at HF2
    rw [hge2] at ⊢
    clear hge2
    have hZ5 := Lib.hid (PAt.new w4 gy A5 gy.hits.length c5)
    have hBB5 := Lib.hid (hBB4.out.alloc hBB4.out.size (.cells #[.int .i64 gy.id, .int .i64 gy.code, .bool gy.found, .int .i64 gy.d, .slice A5 gy.hits.length c5] 40))
    have hO5 := Lib.hid (hO4.out.alloc (.cells #[.int .i64 gy.id, .int .i64 gy.code, .bool gy.found, .int .i64 gy.d, .slice A5 gy.hits.length c5] 40))
    have hY5 := Lib.hid (hY4.out.below (below_one _ (.cells #[.int .i64 gy.id, .int .i64 gy.code, .bool gy.found, .int .i64 gy.d, .slice A5 gy.hits.length c5] 40)) hY4.out.lt)
    have hQ51 := Lib.hid (hQ5.out.alloc (.cells #[.int .i64 gy.id, .int .i64 gy.code, .bool gy.found, .int .i64 gy.d, .slice A5 gy.hits.length c5] 40))
    clear hBB4 hO4 hY4 hQ5
    have hrd2 := Lib.hid (own_reads hQ51.out)
    go_wp2_with (fail)
    refine (putReply_c gy A5 gy.hits.length c5 _ hrd2.out (Nat.le_trans hlen2.out.1 hlen2.out.2)).mono ?_
    rintro e w6 ⟨rfl, hB_6⟩
    have hBB6 := Lib.hid (hBB5.out.trans (hB_6.mono hBB5.out.size))
    have hO6 := Lib.hid (own_below hO5.out hB_6)
    have hY6 := Lib.hid (hY5.out.below hB_6 hY5.out.lt)
    have hQ6 := Lib.hid (own_below hQ51.out hB_6)
    have hZ6 := Lib.hid (hZ5.out.below hB_6 hZ5.out.lt)
    clear hBB5 hO5 hY5 hQ51 hZ5 hB_6
    obtain ⟨t2, ht2⟩ : ∃ t2, repS gy = t2 := ⟨_, rfl⟩
    have Ht2 := Lib.hid ht2
    rw [ht2] at HF2
    rw [ht2] at ⊢
    clear ht2
    obtain ⟨er2, her2⟩ : ∃ er2, repErr gy = er2 := ⟨_, rfl⟩
    have Her2 := Lib.hid her2
    rw [her2] at HF2
    rw [her2] at ⊢
    clear her2
    by_cases hg2 : ge2 = 0
    · obtain ⟨q1, q2, q3⟩ := HF2.out hg2
      have HI2 := Lib.hid q3
      clear q3
      subst hg2 q1
      rw [q2]
      clear q2
      have hts2 : (s.toList == s.toList) = true := by simp
      have htn2 : (s.toList != s.toList) = false := by simp
      go_wp2_with (fail)
      rw [HS0.out]
      refine (getRequest_c s0 _ HS1.out).mono ?_
      rintro e w7 ⟨A7, c7, rfl, ho7, hB_7⟩
      have hBB7 := Lib.hid (hBB6.out.trans (hB_7.mono hBB6.out.size))
      have hO7 := Lib.hid (own_below hO6.out hB_7)
      have hY7 := Lib.hid (hY6.out.below hB_7 hY6.out.lt)
      have hQ7 := Lib.hid (own_below hQ6.out hB_7)
      have hZ7 := Lib.hid (hZ6.out.below hB_7 hZ6.out.lt)
      clear hBB6 hO6 hY6 hQ6 hZ6 hB_7
      clear ho7
      rw [HI1.out]
      obtain ⟨gz, hgz⟩ : ∃ gz, gotReq s0 = gz := ⟨_, rfl⟩
      have Hgz := Lib.hid hgz
      rw [hgz] at ⊢
      clear hgz
      have hV8 := Lib.hid (RAt.new w7 gz A7 gz.q.words.length c7)
      have hBB8 := Lib.hid (hBB7.out.alloc hBB7.out.size (.cells #[.int .i64 gz.id, .int .i64 gz.kind, .int .i64 gz.q.kind, .int .i64 gz.q.src, .int .i64 gz.q.dst, .slice A7 gz.q.words.length c7, .int .i64 gz.q.radius, .int .i64 gz.q.most] 26))
      have hO8 := Lib.hid (hO7.out.alloc (.cells #[.int .i64 gz.id, .int .i64 gz.kind, .int .i64 gz.q.kind, .int .i64 gz.q.src, .int .i64 gz.q.dst, .slice A7 gz.q.words.length c7, .int .i64 gz.q.radius, .int .i64 gz.q.most] 26))
      have hY8 := Lib.hid (hY7.out.below (below_one _ (.cells #[.int .i64 gz.id, .int .i64 gz.kind, .int .i64 gz.q.kind, .int .i64 gz.q.src, .int .i64 gz.q.dst, .slice A7 gz.q.words.length c7, .int .i64 gz.q.radius, .int .i64 gz.q.most] 26)) hY7.out.lt)
      have hQ8 := Lib.hid (hQ7.out.alloc (.cells #[.int .i64 gz.id, .int .i64 gz.kind, .int .i64 gz.q.kind, .int .i64 gz.q.src, .int .i64 gz.q.dst, .slice A7 gz.q.words.length c7, .int .i64 gz.q.radius, .int .i64 gz.q.most] 26))
      have hZ8 := Lib.hid (hZ7.out.below (below_one _ (.cells #[.int .i64 gz.id, .int .i64 gz.kind, .int .i64 gz.q.kind, .int .i64 gz.q.src, .int .i64 gz.q.dst, .slice A7 gz.q.words.length c7, .int .i64 gz.q.radius, .int .i64 gz.q.most] 26)) hZ7.out.lt)
      clear hBB7 hO7 hY7 hQ7 hZ7
      go_wp2_with (fail)
      rw [HS0.out]
      refine (getReply_c s0 _ HS1.out).mono ?_
      rintro e w9 ⟨A8, c8, rfl, ho8, hB_9⟩
      have hBB9 := Lib.hid (hBB8.out.trans (hB_9.mono hBB8.out.size))
      have hO9 := Lib.hid (own_below hO8.out hB_9)
      have hY9 := Lib.hid (hY8.out.below hB_9 hY8.out.lt)
      have hQ9 := Lib.hid (own_below hQ8.out hB_9)
      have hZ9 := Lib.hid (hZ8.out.below hB_9 hZ8.out.lt)
      have hV9 := Lib.hid (hV8.out.below hB_9 hV8.out.lt)
      clear hBB8 hO8 hY8 hQ8 hZ8 hV8 hB_9
      clear ho8
      rw [HI2.out]
      obtain ⟨gz2, hgz2⟩ : ∃ gz2, gotRep s0 = gz2 := ⟨_, rfl⟩
      have Hgz2 := Lib.hid hgz2
      rw [hgz2] at ⊢
      clear hgz2
      have hU10 := Lib.hid (PAt.new w9 gz2 A8 gz2.hits.length c8)
      have hBB10 := Lib.hid (hBB9.out.alloc hBB9.out.size (.cells #[.int .i64 gz2.id, .int .i64 gz2.code, .bool gz2.found, .int .i64 gz2.d, .slice A8 gz2.hits.length c8] 40))
      have hO10 := Lib.hid (hO9.out.alloc (.cells #[.int .i64 gz2.id, .int .i64 gz2.code, .bool gz2.found, .int .i64 gz2.d, .slice A8 gz2.hits.length c8] 40))
      have hY10 := Lib.hid (hY9.out.below (below_one _ (.cells #[.int .i64 gz2.id, .int .i64 gz2.code, .bool gz2.found, .int .i64 gz2.d, .slice A8 gz2.hits.length c8] 40)) hY9.out.lt)
      have hQ10 := Lib.hid (hQ9.out.alloc (.cells #[.int .i64 gz2.id, .int .i64 gz2.code, .bool gz2.found, .int .i64 gz2.d, .slice A8 gz2.hits.length c8] 40))
      have hZ10 := Lib.hid (hZ9.out.below (below_one _ (.cells #[.int .i64 gz2.id, .int .i64 gz2.code, .bool gz2.found, .int .i64 gz2.d, .slice A8 gz2.hits.length c8] 40)) hZ9.out.lt)
      have hV10 := Lib.hid (hV9.out.below (below_one _ (.cells #[.int .i64 gz2.id, .int .i64 gz2.code, .bool gz2.found, .int .i64 gz2.d, .slice A8 gz2.hits.length c8] 40)) hV9.out.lt)
      clear hBB9 hO9 hY9 hQ9 hZ9 hV9
      go_wp2_with (fail)
      refine (framed_c _).mono ?_
      rintro e w11 ⟨rfl, hB_11⟩
      have hBB11 := Lib.hid (hBB10.out.trans (hB_11.mono hBB10.out.size))
      have hO11 := Lib.hid (own_below hO10.out hB_11)
      have hY11 := Lib.hid (hY10.out.below hB_11 hY10.out.lt)
      have hQ11 := Lib.hid (own_below hQ10.out hB_11)
      have hZ11 := Lib.hid (hZ10.out.below hB_11 hZ10.out.lt)
      have hV11 := Lib.hid (hV10.out.below hB_11 hV10.out.lt)
      have hU11 := Lib.hid (hU10.out.below hB_11 hU10.out.lt)
      clear hBB10 hO10 hY10 hQ10 hZ10 hV10 hU10 hB_11
      go_wp2_with (fail)
      go_ret
      exact ⟨rfl, hBB11.out⟩
    · have hg3 : (ge2 == 0) = false := by simpa using hg2
      have hg4 : (ge2 != 0) = true := by simpa using hg2
      clear hg2
      go_wp2_with (fail)
      rw [HS0.out]
      refine (getRequest_c s0 _ HS1.out).mono ?_
      rintro e w7 ⟨A7, c7, rfl, ho7, hB_7⟩
      have hBB7 := Lib.hid (hBB6.out.trans (hB_7.mono hBB6.out.size))
      have hO7 := Lib.hid (own_below hO6.out hB_7)
      have hY7 := Lib.hid (hY6.out.below hB_7 hY6.out.lt)
      have hQ7 := Lib.hid (own_below hQ6.out hB_7)
      have hZ7 := Lib.hid (hZ6.out.below hB_7 hZ6.out.lt)
      clear hBB6 hO6 hY6 hQ6 hZ6 hB_7
      clear ho7
      rw [HI1.out]
      obtain ⟨gz, hgz⟩ : ∃ gz, gotReq s0 = gz := ⟨_, rfl⟩
      have Hgz := Lib.hid hgz
      rw [hgz] at ⊢
      clear hgz
      have hV8 := Lib.hid (RAt.new w7 gz A7 gz.q.words.length c7)
      have hBB8 := Lib.hid (hBB7.out.alloc hBB7.out.size (.cells #[.int .i64 gz.id, .int .i64 gz.kind, .int .i64 gz.q.kind, .int .i64 gz.q.src, .int .i64 gz.q.dst, .slice A7 gz.q.words.length c7, .int .i64 gz.q.radius, .int .i64 gz.q.most] 26))
      have hO8 := Lib.hid (hO7.out.alloc (.cells #[.int .i64 gz.id, .int .i64 gz.kind, .int .i64 gz.q.kind, .int .i64 gz.q.src, .int .i64 gz.q.dst, .slice A7 gz.q.words.length c7, .int .i64 gz.q.radius, .int .i64 gz.q.most] 26))
      have hY8 := Lib.hid (hY7.out.below (below_one _ (.cells #[.int .i64 gz.id, .int .i64 gz.kind, .int .i64 gz.q.kind, .int .i64 gz.q.src, .int .i64 gz.q.dst, .slice A7 gz.q.words.length c7, .int .i64 gz.q.radius, .int .i64 gz.q.most] 26)) hY7.out.lt)
      have hQ8 := Lib.hid (hQ7.out.alloc (.cells #[.int .i64 gz.id, .int .i64 gz.kind, .int .i64 gz.q.kind, .int .i64 gz.q.src, .int .i64 gz.q.dst, .slice A7 gz.q.words.length c7, .int .i64 gz.q.radius, .int .i64 gz.q.most] 26))
      have hZ8 := Lib.hid (hZ7.out.below (below_one _ (.cells #[.int .i64 gz.id, .int .i64 gz.kind, .int .i64 gz.q.kind, .int .i64 gz.q.src, .int .i64 gz.q.dst, .slice A7 gz.q.words.length c7, .int .i64 gz.q.radius, .int .i64 gz.q.most] 26)) hZ7.out.lt)
      clear hBB7 hO7 hY7 hQ7 hZ7
      go_wp2_with (fail)
      rw [HS0.out]
      refine (getReply_c s0 _ HS1.out).mono ?_
      rintro e w9 ⟨A8, c8, rfl, ho8, hB_9⟩
      have hBB9 := Lib.hid (hBB8.out.trans (hB_9.mono hBB8.out.size))
      have hO9 := Lib.hid (own_below hO8.out hB_9)
      have hY9 := Lib.hid (hY8.out.below hB_9 hY8.out.lt)
      have hQ9 := Lib.hid (own_below hQ8.out hB_9)
      have hZ9 := Lib.hid (hZ8.out.below hB_9 hZ8.out.lt)
      have hV9 := Lib.hid (hV8.out.below hB_9 hV8.out.lt)
      clear hBB8 hO8 hY8 hQ8 hZ8 hV8 hB_9
      clear ho8
      obtain ⟨gi2, hgi2⟩ : ∃ gi2, gotErrP s0 = gi2 := ⟨_, rfl⟩
      have Hgi2 := Lib.hid hgi2
      rw [hgi2] at ⊢
      clear hgi2
      obtain ⟨gz2, hgz2⟩ : ∃ gz2, gotRep s0 = gz2 := ⟨_, rfl⟩
      have Hgz2 := Lib.hid hgz2
      rw [hgz2] at ⊢
      clear hgz2
      have hU10 := Lib.hid (PAt.new w9 gz2 A8 gz2.hits.length c8)
      have hBB10 := Lib.hid (hBB9.out.alloc hBB9.out.size (.cells #[.int .i64 gz2.id, .int .i64 gz2.code, .bool gz2.found, .int .i64 gz2.d, .slice A8 gz2.hits.length c8] 40))
      have hO10 := Lib.hid (hO9.out.alloc (.cells #[.int .i64 gz2.id, .int .i64 gz2.code, .bool gz2.found, .int .i64 gz2.d, .slice A8 gz2.hits.length c8] 40))
      have hY10 := Lib.hid (hY9.out.below (below_one _ (.cells #[.int .i64 gz2.id, .int .i64 gz2.code, .bool gz2.found, .int .i64 gz2.d, .slice A8 gz2.hits.length c8] 40)) hY9.out.lt)
      have hQ10 := Lib.hid (hQ9.out.alloc (.cells #[.int .i64 gz2.id, .int .i64 gz2.code, .bool gz2.found, .int .i64 gz2.d, .slice A8 gz2.hits.length c8] 40))
      have hZ10 := Lib.hid (hZ9.out.below (below_one _ (.cells #[.int .i64 gz2.id, .int .i64 gz2.code, .bool gz2.found, .int .i64 gz2.d, .slice A8 gz2.hits.length c8] 40)) hZ9.out.lt)
      have hV10 := Lib.hid (hV9.out.below (below_one _ (.cells #[.int .i64 gz2.id, .int .i64 gz2.code, .bool gz2.found, .int .i64 gz2.d, .slice A8 gz2.hits.length c8] 40)) hV9.out.lt)
      clear hBB9 hO9 hY9 hQ9 hZ9 hV9
      go_wp2_with (fail)
      refine (framed_c _).mono ?_
      rintro e w11 ⟨rfl, hB_11⟩
      have hBB11 := Lib.hid (hBB10.out.trans (hB_11.mono hBB10.out.size))
      have hO11 := Lib.hid (own_below hO10.out hB_11)
      have hY11 := Lib.hid (hY10.out.below hB_11 hY10.out.lt)
      have hQ11 := Lib.hid (own_below hQ10.out hB_11)
      have hZ11 := Lib.hid (hZ10.out.below hB_11 hZ10.out.lt)
      have hV11 := Lib.hid (hV10.out.below hB_11 hV10.out.lt)
      have hU11 := Lib.hid (hU10.out.below hB_11 hU10.out.lt)
      clear hBB10 hO10 hY10 hQ10 hZ10 hV10 hU10 hB_11
      go_wp2_with (fail)
      go_ret
      exact ⟨rfl, hBB11.out⟩
  · have hg3 : (ge == 0) = false := by simpa using hg1
    have hg4 : (ge != 0) = true := by simpa using hg1
    clear hg1
    go_wp2_with (fail)
    refine (getReply_c s _ hs1).mono ?_
    rintro e w4 ⟨A5, c5, rfl, ho5, hB_4⟩
    have hBB4 := Lib.hid (hBB3.out.trans (hB_4.mono hBB3.out.size))
    have hO4 := Lib.hid (own_below hO3.out hB_4)
    have hY4 := Lib.hid (hY3.out.below hB_4 hY3.out.lt)
    clear hBB3 hO3 hY3 hB_4
    have hQ5 := Lib.hid ho5
    clear ho5
    have hlen2 := Lib.hid (own_cap hQ5.out)
    obtain ⟨gy, hgy⟩ : ∃ gy, gotRep s = gy := ⟨_, rfl⟩
    have Hgy := Lib.hid hgy
    rw [hgy] at HF2
    rw [hgy] at hQ5
    rw [hgy] at hlen2
    rw [hgy] at ⊢
    clear hgy
    obtain ⟨ge2, hge2⟩ : ∃ ge2, gotErrP s = ge2 := ⟨_, rfl⟩
    have Hge2 := Lib.hid hge2
    rw [hge2] at HF2
    rw [hge2] at ⊢
    clear hge2
    have hZ5 := Lib.hid (PAt.new w4 gy A5 gy.hits.length c5)
    have hBB5 := Lib.hid (hBB4.out.alloc hBB4.out.size (.cells #[.int .i64 gy.id, .int .i64 gy.code, .bool gy.found, .int .i64 gy.d, .slice A5 gy.hits.length c5] 40))
    have hO5 := Lib.hid (hO4.out.alloc (.cells #[.int .i64 gy.id, .int .i64 gy.code, .bool gy.found, .int .i64 gy.d, .slice A5 gy.hits.length c5] 40))
    have hY5 := Lib.hid (hY4.out.below (below_one _ (.cells #[.int .i64 gy.id, .int .i64 gy.code, .bool gy.found, .int .i64 gy.d, .slice A5 gy.hits.length c5] 40)) hY4.out.lt)
    have hQ51 := Lib.hid (hQ5.out.alloc (.cells #[.int .i64 gy.id, .int .i64 gy.code, .bool gy.found, .int .i64 gy.d, .slice A5 gy.hits.length c5] 40))
    clear hBB4 hO4 hY4 hQ5
    have hrd2 := Lib.hid (own_reads hQ51.out)
    go_wp2_with (fail)
    refine (putReply_c gy A5 gy.hits.length c5 _ hrd2.out (Nat.le_trans hlen2.out.1 hlen2.out.2)).mono ?_
    rintro e w6 ⟨rfl, hB_6⟩
    have hBB6 := Lib.hid (hBB5.out.trans (hB_6.mono hBB5.out.size))
    have hO6 := Lib.hid (own_below hO5.out hB_6)
    have hY6 := Lib.hid (hY5.out.below hB_6 hY5.out.lt)
    have hQ6 := Lib.hid (own_below hQ51.out hB_6)
    have hZ6 := Lib.hid (hZ5.out.below hB_6 hZ5.out.lt)
    clear hBB5 hO5 hY5 hQ51 hZ5 hB_6
    obtain ⟨t2, ht2⟩ : ∃ t2, repS gy = t2 := ⟨_, rfl⟩
    have Ht2 := Lib.hid ht2
    rw [ht2] at HF2
    rw [ht2] at ⊢
    clear ht2
    obtain ⟨er2, her2⟩ : ∃ er2, repErr gy = er2 := ⟨_, rfl⟩
    have Her2 := Lib.hid her2
    rw [her2] at HF2
    rw [her2] at ⊢
    clear her2
    by_cases hg2 : ge2 = 0
    · obtain ⟨q1, q2, q3⟩ := HF2.out hg2
      have HI2 := Lib.hid q3
      clear q3
      subst hg2 q1
      rw [q2]
      clear q2
      have hts2 : (s.toList == s.toList) = true := by simp
      have htn2 : (s.toList != s.toList) = false := by simp
      go_wp2_with (fail)
      rw [HS0.out]
      refine (getRequest_c s0 _ HS1.out).mono ?_
      rintro e w7 ⟨A7, c7, rfl, ho7, hB_7⟩
      have hBB7 := Lib.hid (hBB6.out.trans (hB_7.mono hBB6.out.size))
      have hO7 := Lib.hid (own_below hO6.out hB_7)
      have hY7 := Lib.hid (hY6.out.below hB_7 hY6.out.lt)
      have hQ7 := Lib.hid (own_below hQ6.out hB_7)
      have hZ7 := Lib.hid (hZ6.out.below hB_7 hZ6.out.lt)
      clear hBB6 hO6 hY6 hQ6 hZ6 hB_7
      clear ho7
      obtain ⟨gi, hgi⟩ : ∃ gi, gotErr s0 = gi := ⟨_, rfl⟩
      have Hgi := Lib.hid hgi
      rw [hgi] at ⊢
      clear hgi
      obtain ⟨gz, hgz⟩ : ∃ gz, gotReq s0 = gz := ⟨_, rfl⟩
      have Hgz := Lib.hid hgz
      rw [hgz] at ⊢
      clear hgz
      have hV8 := Lib.hid (RAt.new w7 gz A7 gz.q.words.length c7)
      have hBB8 := Lib.hid (hBB7.out.alloc hBB7.out.size (.cells #[.int .i64 gz.id, .int .i64 gz.kind, .int .i64 gz.q.kind, .int .i64 gz.q.src, .int .i64 gz.q.dst, .slice A7 gz.q.words.length c7, .int .i64 gz.q.radius, .int .i64 gz.q.most] 26))
      have hO8 := Lib.hid (hO7.out.alloc (.cells #[.int .i64 gz.id, .int .i64 gz.kind, .int .i64 gz.q.kind, .int .i64 gz.q.src, .int .i64 gz.q.dst, .slice A7 gz.q.words.length c7, .int .i64 gz.q.radius, .int .i64 gz.q.most] 26))
      have hY8 := Lib.hid (hY7.out.below (below_one _ (.cells #[.int .i64 gz.id, .int .i64 gz.kind, .int .i64 gz.q.kind, .int .i64 gz.q.src, .int .i64 gz.q.dst, .slice A7 gz.q.words.length c7, .int .i64 gz.q.radius, .int .i64 gz.q.most] 26)) hY7.out.lt)
      have hQ8 := Lib.hid (hQ7.out.alloc (.cells #[.int .i64 gz.id, .int .i64 gz.kind, .int .i64 gz.q.kind, .int .i64 gz.q.src, .int .i64 gz.q.dst, .slice A7 gz.q.words.length c7, .int .i64 gz.q.radius, .int .i64 gz.q.most] 26))
      have hZ8 := Lib.hid (hZ7.out.below (below_one _ (.cells #[.int .i64 gz.id, .int .i64 gz.kind, .int .i64 gz.q.kind, .int .i64 gz.q.src, .int .i64 gz.q.dst, .slice A7 gz.q.words.length c7, .int .i64 gz.q.radius, .int .i64 gz.q.most] 26)) hZ7.out.lt)
      clear hBB7 hO7 hY7 hQ7 hZ7
      go_wp2_with (fail)
      rw [HS0.out]
      refine (getReply_c s0 _ HS1.out).mono ?_
      rintro e w9 ⟨A8, c8, rfl, ho8, hB_9⟩
      have hBB9 := Lib.hid (hBB8.out.trans (hB_9.mono hBB8.out.size))
      have hO9 := Lib.hid (own_below hO8.out hB_9)
      have hY9 := Lib.hid (hY8.out.below hB_9 hY8.out.lt)
      have hQ9 := Lib.hid (own_below hQ8.out hB_9)
      have hZ9 := Lib.hid (hZ8.out.below hB_9 hZ8.out.lt)
      have hV9 := Lib.hid (hV8.out.below hB_9 hV8.out.lt)
      clear hBB8 hO8 hY8 hQ8 hZ8 hV8 hB_9
      clear ho8
      rw [HI2.out]
      obtain ⟨gz2, hgz2⟩ : ∃ gz2, gotRep s0 = gz2 := ⟨_, rfl⟩
      have Hgz2 := Lib.hid hgz2
      rw [hgz2] at ⊢
      clear hgz2
      have hU10 := Lib.hid (PAt.new w9 gz2 A8 gz2.hits.length c8)
      have hBB10 := Lib.hid (hBB9.out.alloc hBB9.out.size (.cells #[.int .i64 gz2.id, .int .i64 gz2.code, .bool gz2.found, .int .i64 gz2.d, .slice A8 gz2.hits.length c8] 40))
      have hO10 := Lib.hid (hO9.out.alloc (.cells #[.int .i64 gz2.id, .int .i64 gz2.code, .bool gz2.found, .int .i64 gz2.d, .slice A8 gz2.hits.length c8] 40))
      have hY10 := Lib.hid (hY9.out.below (below_one _ (.cells #[.int .i64 gz2.id, .int .i64 gz2.code, .bool gz2.found, .int .i64 gz2.d, .slice A8 gz2.hits.length c8] 40)) hY9.out.lt)
      have hQ10 := Lib.hid (hQ9.out.alloc (.cells #[.int .i64 gz2.id, .int .i64 gz2.code, .bool gz2.found, .int .i64 gz2.d, .slice A8 gz2.hits.length c8] 40))
      have hZ10 := Lib.hid (hZ9.out.below (below_one _ (.cells #[.int .i64 gz2.id, .int .i64 gz2.code, .bool gz2.found, .int .i64 gz2.d, .slice A8 gz2.hits.length c8] 40)) hZ9.out.lt)
      have hV10 := Lib.hid (hV9.out.below (below_one _ (.cells #[.int .i64 gz2.id, .int .i64 gz2.code, .bool gz2.found, .int .i64 gz2.d, .slice A8 gz2.hits.length c8] 40)) hV9.out.lt)
      clear hBB9 hO9 hY9 hQ9 hZ9 hV9
      go_wp2_with (fail)
      refine (framed_c _).mono ?_
      rintro e w11 ⟨rfl, hB_11⟩
      have hBB11 := Lib.hid (hBB10.out.trans (hB_11.mono hBB10.out.size))
      have hO11 := Lib.hid (own_below hO10.out hB_11)
      have hY11 := Lib.hid (hY10.out.below hB_11 hY10.out.lt)
      have hQ11 := Lib.hid (own_below hQ10.out hB_11)
      have hZ11 := Lib.hid (hZ10.out.below hB_11 hZ10.out.lt)
      have hV11 := Lib.hid (hV10.out.below hB_11 hV10.out.lt)
      have hU11 := Lib.hid (hU10.out.below hB_11 hU10.out.lt)
      clear hBB10 hO10 hY10 hQ10 hZ10 hV10 hU10 hB_11
      go_wp2_with (fail)
      go_ret
      exact ⟨rfl, hBB11.out⟩
    · have hg3 : (ge2 == 0) = false := by simpa using hg2
      have hg4 : (ge2 != 0) = true := by simpa using hg2
      clear hg2
      go_wp2_with (fail)
      rw [HS0.out]
      refine (getRequest_c s0 _ HS1.out).mono ?_
      rintro e w7 ⟨A7, c7, rfl, ho7, hB_7⟩
      have hBB7 := Lib.hid (hBB6.out.trans (hB_7.mono hBB6.out.size))
      have hO7 := Lib.hid (own_below hO6.out hB_7)
      have hY7 := Lib.hid (hY6.out.below hB_7 hY6.out.lt)
      have hQ7 := Lib.hid (own_below hQ6.out hB_7)
      have hZ7 := Lib.hid (hZ6.out.below hB_7 hZ6.out.lt)
      clear hBB6 hO6 hY6 hQ6 hZ6 hB_7
      clear ho7
      obtain ⟨gi, hgi⟩ : ∃ gi, gotErr s0 = gi := ⟨_, rfl⟩
      have Hgi := Lib.hid hgi
      rw [hgi] at ⊢
      clear hgi
      obtain ⟨gz, hgz⟩ : ∃ gz, gotReq s0 = gz := ⟨_, rfl⟩
      have Hgz := Lib.hid hgz
      rw [hgz] at ⊢
      clear hgz
      have hV8 := Lib.hid (RAt.new w7 gz A7 gz.q.words.length c7)
      have hBB8 := Lib.hid (hBB7.out.alloc hBB7.out.size (.cells #[.int .i64 gz.id, .int .i64 gz.kind, .int .i64 gz.q.kind, .int .i64 gz.q.src, .int .i64 gz.q.dst, .slice A7 gz.q.words.length c7, .int .i64 gz.q.radius, .int .i64 gz.q.most] 26))
      have hO8 := Lib.hid (hO7.out.alloc (.cells #[.int .i64 gz.id, .int .i64 gz.kind, .int .i64 gz.q.kind, .int .i64 gz.q.src, .int .i64 gz.q.dst, .slice A7 gz.q.words.length c7, .int .i64 gz.q.radius, .int .i64 gz.q.most] 26))
      have hY8 := Lib.hid (hY7.out.below (below_one _ (.cells #[.int .i64 gz.id, .int .i64 gz.kind, .int .i64 gz.q.kind, .int .i64 gz.q.src, .int .i64 gz.q.dst, .slice A7 gz.q.words.length c7, .int .i64 gz.q.radius, .int .i64 gz.q.most] 26)) hY7.out.lt)
      have hQ8 := Lib.hid (hQ7.out.alloc (.cells #[.int .i64 gz.id, .int .i64 gz.kind, .int .i64 gz.q.kind, .int .i64 gz.q.src, .int .i64 gz.q.dst, .slice A7 gz.q.words.length c7, .int .i64 gz.q.radius, .int .i64 gz.q.most] 26))
      have hZ8 := Lib.hid (hZ7.out.below (below_one _ (.cells #[.int .i64 gz.id, .int .i64 gz.kind, .int .i64 gz.q.kind, .int .i64 gz.q.src, .int .i64 gz.q.dst, .slice A7 gz.q.words.length c7, .int .i64 gz.q.radius, .int .i64 gz.q.most] 26)) hZ7.out.lt)
      clear hBB7 hO7 hY7 hQ7 hZ7
      go_wp2_with (fail)
      rw [HS0.out]
      refine (getReply_c s0 _ HS1.out).mono ?_
      rintro e w9 ⟨A8, c8, rfl, ho8, hB_9⟩
      have hBB9 := Lib.hid (hBB8.out.trans (hB_9.mono hBB8.out.size))
      have hO9 := Lib.hid (own_below hO8.out hB_9)
      have hY9 := Lib.hid (hY8.out.below hB_9 hY8.out.lt)
      have hQ9 := Lib.hid (own_below hQ8.out hB_9)
      have hZ9 := Lib.hid (hZ8.out.below hB_9 hZ8.out.lt)
      have hV9 := Lib.hid (hV8.out.below hB_9 hV8.out.lt)
      clear hBB8 hO8 hY8 hQ8 hZ8 hV8 hB_9
      clear ho8
      obtain ⟨gi2, hgi2⟩ : ∃ gi2, gotErrP s0 = gi2 := ⟨_, rfl⟩
      have Hgi2 := Lib.hid hgi2
      rw [hgi2] at ⊢
      clear hgi2
      obtain ⟨gz2, hgz2⟩ : ∃ gz2, gotRep s0 = gz2 := ⟨_, rfl⟩
      have Hgz2 := Lib.hid hgz2
      rw [hgz2] at ⊢
      clear hgz2
      have hU10 := Lib.hid (PAt.new w9 gz2 A8 gz2.hits.length c8)
      have hBB10 := Lib.hid (hBB9.out.alloc hBB9.out.size (.cells #[.int .i64 gz2.id, .int .i64 gz2.code, .bool gz2.found, .int .i64 gz2.d, .slice A8 gz2.hits.length c8] 40))
      have hO10 := Lib.hid (hO9.out.alloc (.cells #[.int .i64 gz2.id, .int .i64 gz2.code, .bool gz2.found, .int .i64 gz2.d, .slice A8 gz2.hits.length c8] 40))
      have hY10 := Lib.hid (hY9.out.below (below_one _ (.cells #[.int .i64 gz2.id, .int .i64 gz2.code, .bool gz2.found, .int .i64 gz2.d, .slice A8 gz2.hits.length c8] 40)) hY9.out.lt)
      have hQ10 := Lib.hid (hQ9.out.alloc (.cells #[.int .i64 gz2.id, .int .i64 gz2.code, .bool gz2.found, .int .i64 gz2.d, .slice A8 gz2.hits.length c8] 40))
      have hZ10 := Lib.hid (hZ9.out.below (below_one _ (.cells #[.int .i64 gz2.id, .int .i64 gz2.code, .bool gz2.found, .int .i64 gz2.d, .slice A8 gz2.hits.length c8] 40)) hZ9.out.lt)
      have hV10 := Lib.hid (hV9.out.below (below_one _ (.cells #[.int .i64 gz2.id, .int .i64 gz2.code, .bool gz2.found, .int .i64 gz2.d, .slice A8 gz2.hits.length c8] 40)) hV9.out.lt)
      clear hBB9 hO9 hY9 hQ9 hZ9 hV9
      go_wp2_with (fail)
      refine (framed_c _).mono ?_
      rintro e w11 ⟨rfl, hB_11⟩
      have hBB11 := Lib.hid (hBB10.out.trans (hB_11.mono hBB10.out.size))
      have hO11 := Lib.hid (own_below hO10.out hB_11)
      have hY11 := Lib.hid (hY10.out.below hB_11 hY10.out.lt)
      have hQ11 := Lib.hid (own_below hQ10.out hB_11)
      have hZ11 := Lib.hid (hZ10.out.below hB_11 hZ10.out.lt)
      have hV11 := Lib.hid (hV10.out.below hB_11 hV10.out.lt)
      have hU11 := Lib.hid (hU10.out.below hB_11 hU10.out.lt)
      clear hBB10 hO10 hY10 hQ10 hZ10 hV10 hU10 hB_11
      go_wp2_with (fail)
      go_ret
      exact ⟨rfl, hBB11.out⟩
end Go.Proofs.Ytmnjlhifjjainaa
