/-
  FrameBack: the walk.
-/
import Derived.Test.YtmnjlhifjjainaaFrLawP
namespace Go.Proofs.Ytmnjlhifjjainaa
open Go.RowKit

set_option maxRecDepth 100000 in
set_option maxHeartbeats 1000000 in
theorem frameBack_c (x : Req) (A : Option Addr) (n c : Nat) (y : Rep) (A2 : Option Addr) (n2 c2 : Nat) (w : World) (hr : Reads w w.heap.size 1 A n (sv x.q.words)) (hn : n ≤ maxLen) (hr2 : Reads w w.heap.size 2 A2 n2 (hv y.hits)) (hn2 : n2 ≤ maxLen) :
    Calls Try.prog 5 #[.agg #[.int .i64 x.id, .int .i64 x.kind, .int .i64 x.q.kind, .int .i64 x.q.src, .int .i64 x.q.dst, .slice A n c, .int .i64 x.q.radius, .int .i64 x.q.most], .agg #[.int .i64 y.id, .int .i64 y.code, .bool y.found, .int .i64 y.d, .slice A2 n2 c2]] w fun e w' => e = .returned (.bool true) ∧ Below w.heap.size w w' := by
  have HR := Lib.hid hr
  have HN := Lib.hid hn
  have HR2 := Lib.hid hr2
  have HN2 := Lib.hid hn2
  clear hr hn hr2 hn2
  have hX0 := Lib.hid ((RAt.new w x A n c).below (below_one _ (.cells #[.int .i64 y.id, .int .i64 y.code, .bool y.found, .int .i64 y.d, .slice A2 n2 c2] 40)) (RAt.new w x A n c).lt)
  have hP0 := PAt.new (w.alloc (.cells #[.int .i64 x.id, .int .i64 x.kind, .int .i64 x.q.kind, .int .i64 x.q.src, .int .i64 x.q.dst, .slice A n c, .int .i64 x.q.radius, .int .i64 x.q.most] 26)) y A2 n2 c2
  rw [World.size_alloc] at hP0
  have hP0 := Lib.hid hP0
  have hBB0 := Lib.hid (below_two w (.cells #[.int .i64 x.id, .int .i64 x.kind, .int .i64 x.q.kind, .int .i64 x.q.src, .int .i64 x.q.dst, .slice A n c, .int .i64 x.q.radius, .int .i64 x.q.most] 26) (.cells #[.int .i64 y.id, .int .i64 y.code, .bool y.found, .int .i64 y.d, .slice A2 n2 c2] 40))
  have HF1 := Lib.hid (back_req (x := x))
  have HF2 := Lib.hid (back_rep (x := y))
  have HZ1 := Lib.hid (reqS_size x)
  have HZ2 := Lib.hid (repS_size y)
  go_enter Try.func5, Try.ntmps5
  go_wp2_with (fail)
  refine (big_c x.q A n c _ ((HR.out.below hBB0.out).more hBB0.out.size) HN.out).mono ?_
  rintro e w1 ⟨bg, rfl, hsm, hB_1⟩
  have hX1 := Lib.hid (hX0.out.below hB_1 hX0.out.lt)
  have hP1 := Lib.hid (hP0.out.below hB_1 hP0.out.lt)
  have hBB1 := Lib.hid (hBB0.out.trans (hB_1.mono hBB0.out.size))
  clear hX0 hP0 hBB0 hB_1
  rcases bg with _ | _
  rotate_left
  · go_wp2_with (fail)
    go_ret
    exact ⟨rfl, hBB1.out⟩
  have HS := Lib.hid (hsm rfl)
  clear hsm
  obtain ⟨v0, v1, v2, v3, v4⟩ := hP1.out.cells
  obtain ⟨u0, u1, u2, u3, u4, u5, u6, u7⟩ := hX1.out.cells
  by_cases hn1 : 150 < (n2 : Int)
  · go_wp2_with (fail)
    go_ret
    exact ⟨rfl, hBB1.out⟩
  go_wp2_with (fail)
  refine (putRequest_c x A n c _ ((HR.out.below hBB1.out).more hBB1.out.size) HN.out (small_bounded HS.out)).mono ?_
  rintro e w2 ⟨rfl, hB_2⟩
  have hX2 := Lib.hid (hX1.out.below hB_2 hX1.out.lt)
  have hP2 := Lib.hid (hP1.out.below hB_2 hP1.out.lt)
  have hBB2 := Lib.hid (hBB1.out.trans (hB_2.mono hBB1.out.size))
  clear hX1 hP1 hBB1 hB_2
  clear v0 v1 v2 v3 v4 u0 u1 u2 u3 u4 u5 u6 u7
  obtain ⟨t, ht⟩ : ∃ t, reqS x = t := ⟨_, rfl⟩
  have Ht := Lib.hid ht
  rw [ht] at HF1
  rw [ht] at HZ1
  rw [ht] at ⊢
  clear ht
  obtain ⟨er, her⟩ : ∃ er, reqErr x = er := ⟨_, rfl⟩
  have Her := Lib.hid her
  rw [her] at HF1
  rw [her] at ⊢
  clear her
  go_wp2_with (fail)
  refine (getRequest_c t _ (by have := HZ1.out; omega)).mono ?_
  rintro e w3 ⟨A3, c3, rfl, ho3, hB_3⟩
  have hX3 := Lib.hid (hX2.out.below hB_3 hX2.out.lt)
  have hP3 := Lib.hid (hP2.out.below hB_3 hP2.out.lt)
  have hBB3 := Lib.hid (hBB2.out.trans (hB_3.mono hBB2.out.size))
  clear hX2 hP2 hBB2 hB_3
  have hO3 := Lib.hid ho3
  clear ho3
  have hlen := Lib.hid (own_cap hO3.out)
  obtain ⟨gx, hgx⟩ : ∃ gx, gotReq t = gx := ⟨_, rfl⟩
  have Hgx := Lib.hid hgx
  rw [hgx] at HF1
  rw [hgx] at hO3
  rw [hgx] at hlen
  rw [hgx] at ⊢
  clear hgx
  obtain ⟨gf, hgf⟩ : ∃ gf, gotErr t = gf := ⟨_, rfl⟩
  have Hgf := Lib.hid hgf
  rw [hgf] at HF1
  rw [hgf] at ⊢
  clear hgf
  have hY4 := Lib.hid (RAt.new w3 gx A3 gx.q.words.length c3)
  have hX4 := Lib.hid (hX3.out.below (below_one _ (.cells #[.int .i64 gx.id, .int .i64 gx.kind, .int .i64 gx.q.kind, .int .i64 gx.q.src, .int .i64 gx.q.dst, .slice A3 gx.q.words.length c3, .int .i64 gx.q.radius, .int .i64 gx.q.most] 26)) hX3.out.lt)
  have hP4 := Lib.hid (hP3.out.below (below_one _ (.cells #[.int .i64 gx.id, .int .i64 gx.kind, .int .i64 gx.q.kind, .int .i64 gx.q.src, .int .i64 gx.q.dst, .slice A3 gx.q.words.length c3, .int .i64 gx.q.radius, .int .i64 gx.q.most] 26)) hP3.out.lt)
  have hBB4 := Lib.hid (hBB3.out.alloc hBB3.out.size (.cells #[.int .i64 gx.id, .int .i64 gx.kind, .int .i64 gx.q.kind, .int .i64 gx.q.src, .int .i64 gx.q.dst, .slice A3 gx.q.words.length c3, .int .i64 gx.q.radius, .int .i64 gx.q.most] 26))
  have hO4 := Lib.hid (hO3.out.alloc (.cells #[.int .i64 gx.id, .int .i64 gx.kind, .int .i64 gx.q.kind, .int .i64 gx.q.src, .int .i64 gx.q.dst, .slice A3 gx.q.words.length c3, .int .i64 gx.q.radius, .int .i64 gx.q.most] 26))
  clear hX3 hP3 hBB3 hO3
  go_wp2_with (fail)
  refine (id_c t _ (by have := HZ1.out; omega)).mono ?_
  rintro e w5 ⟨rfl, hB_5⟩
  have hX5 := Lib.hid (hX4.out.below hB_5 hX4.out.lt)
  have hP5 := Lib.hid (hP4.out.below hB_5 hP4.out.lt)
  have hBB5 := Lib.hid (hBB4.out.trans (hB_5.mono hBB4.out.size))
  have hO5 := Lib.hid (own_below hO4.out hB_5)
  have hY5 := Lib.hid (hY4.out.below hB_5 hY4.out.lt)
  clear hX4 hP4 hBB4 hO4 hY4 hB_5
  obtain ⟨ia, hia⟩ : ∃ ia, anNum (rdAt t 0) = ia := ⟨_, rfl⟩
  have Hia := Lib.hid hia
  rw [hia] at HF1
  rw [hia] at ⊢
  clear hia
  obtain ⟨ib, hib⟩ : ∃ ib, (rdAt t 0).isSome = ib := ⟨_, rfl⟩
  have Hib := Lib.hid hib
  rw [hib] at HF1
  rw [hib] at ⊢
  clear hib
  by_cases he0 : er = 0
  · obtain ⟨q1, q2, q3, q4⟩ := HF1.out he0
    subst he0 q1 q2 q3 q4
    obtain ⟨u0, u1, u2, u3, u4, u5, u6, u7⟩ := hX5.out.cells
    obtain ⟨v0, v1, v2, v3, v4, v5, v6, v7⟩ := hY5.out.cells
    go_wp2_with (fail)
    refine (sameRequest_c _ _ A3 A _ n c3 c _ (own_reads hO5.out) ((HR.out.below hBB5.out).more hBB5.out.size) (Nat.le_trans hlen.out.1 hlen.out.2) HN.out).mono ?_
    rintro e w6 ⟨rfl, hB_6⟩
    have hX6 := Lib.hid (hX5.out.below hB_6 hX5.out.lt)
    have hP6 := Lib.hid (hP5.out.below hB_6 hP5.out.lt)
    have hBB6 := Lib.hid (hBB5.out.trans (hB_6.mono hBB5.out.size))
    have hO6 := Lib.hid (own_below hO5.out hB_6)
    have hY6 := Lib.hid (hY5.out.below hB_6 hY5.out.lt)
    clear hX5 hP5 hBB5 hO5 hY5 hB_6
    rw [decide_eq_true rfl]
    clear u0 u1 u2 u3 u4 u5 u6 u7 v0 v1 v2 v3 v4 v5 v6 v7
    obtain ⟨u0, u1, u2, u3, u4, u5, u6, u7⟩ := hX6.out.cells
    obtain ⟨p0, p1, p2, p3, p4⟩ := hP6.out.cells
    go_wp2_with (fail)
    refine (putReply_c y A2 n2 c2 _ ((HR2.out.below hBB6.out).more hBB6.out.size) HN2.out).mono ?_
    rintro e w7 ⟨rfl, hB_7⟩
    have hX7 := Lib.hid (hX6.out.below hB_7 hX6.out.lt)
    have hP7 := Lib.hid (hP6.out.below hB_7 hP6.out.lt)
    have hBB7 := Lib.hid (hBB6.out.trans (hB_7.mono hBB6.out.size))
    have hO7 := Lib.hid (own_below hO6.out hB_7)
    have hY7 := Lib.hid (hY6.out.below hB_7 hY6.out.lt)
    clear hX6 hP6 hBB6 hO6 hY6 hB_7
    clear p0 p1 p2 p3 p4
    obtain ⟨t2, ht2⟩ : ∃ t2, repS y = t2 := ⟨_, rfl⟩
    have Ht2 := Lib.hid ht2
    rw [ht2] at HF2
    rw [ht2] at HZ2
    rw [ht2] at ⊢
    clear ht2
    obtain ⟨er2, her2⟩ : ∃ er2, repErr y = er2 := ⟨_, rfl⟩
    have Her2 := Lib.hid her2
    rw [her2] at HF2
    rw [her2] at ⊢
    clear her2
    go_wp2_with (fail)
    refine (getReply_c t2 _ (by have := HZ2.out; omega)).mono ?_
    rintro e w8 ⟨A5, c5, rfl, ho5, hB_8⟩
    have hX8 := Lib.hid (hX7.out.below hB_8 hX7.out.lt)
    have hP8 := Lib.hid (hP7.out.below hB_8 hP7.out.lt)
    have hBB8 := Lib.hid (hBB7.out.trans (hB_8.mono hBB7.out.size))
    have hO8 := Lib.hid (own_below hO7.out hB_8)
    have hY8 := Lib.hid (hY7.out.below hB_8 hY7.out.lt)
    clear hX7 hP7 hBB7 hO7 hY7 hB_8
    have hQ5 := Lib.hid ho5
    clear ho5
    have hlen2 := Lib.hid (own_cap hQ5.out)
    obtain ⟨gy, hgy⟩ : ∃ gy, gotRep t2 = gy := ⟨_, rfl⟩
    have Hgy := Lib.hid hgy
    rw [hgy] at HF2
    rw [hgy] at hQ5
    rw [hgy] at hlen2
    rw [hgy] at ⊢
    clear hgy
    obtain ⟨gf2, hgf2⟩ : ∃ gf2, gotErrP t2 = gf2 := ⟨_, rfl⟩
    have Hgf2 := Lib.hid hgf2
    rw [hgf2] at HF2
    rw [hgf2] at ⊢
    clear hgf2
    have hZ9 := Lib.hid (PAt.new w8 gy A5 gy.hits.length c5)
    have hX9 := Lib.hid (hX8.out.below (below_one _ (.cells #[.int .i64 gy.id, .int .i64 gy.code, .bool gy.found, .int .i64 gy.d, .slice A5 gy.hits.length c5] 40)) hX8.out.lt)
    have hP9 := Lib.hid (hP8.out.below (below_one _ (.cells #[.int .i64 gy.id, .int .i64 gy.code, .bool gy.found, .int .i64 gy.d, .slice A5 gy.hits.length c5] 40)) hP8.out.lt)
    have hBB9 := Lib.hid (hBB8.out.alloc hBB8.out.size (.cells #[.int .i64 gy.id, .int .i64 gy.code, .bool gy.found, .int .i64 gy.d, .slice A5 gy.hits.length c5] 40))
    have hO9 := Lib.hid (hO8.out.alloc (.cells #[.int .i64 gy.id, .int .i64 gy.code, .bool gy.found, .int .i64 gy.d, .slice A5 gy.hits.length c5] 40))
    have hY9 := Lib.hid (hY8.out.below (below_one _ (.cells #[.int .i64 gy.id, .int .i64 gy.code, .bool gy.found, .int .i64 gy.d, .slice A5 gy.hits.length c5] 40)) hY8.out.lt)
    have hQ9 := Lib.hid (hQ5.out.alloc (.cells #[.int .i64 gy.id, .int .i64 gy.code, .bool gy.found, .int .i64 gy.d, .slice A5 gy.hits.length c5] 40))
    clear hX8 hP8 hBB8 hO8 hY8 hQ5
    go_wp2_with (fail)
    refine (id_c t2 _ (by have := HZ2.out; omega)).mono ?_
    rintro e w10 ⟨rfl, hB_10⟩
    have hX10 := Lib.hid (hX9.out.below hB_10 hX9.out.lt)
    have hP10 := Lib.hid (hP9.out.below hB_10 hP9.out.lt)
    have hBB10 := Lib.hid (hBB9.out.trans (hB_10.mono hBB9.out.size))
    have hO10 := Lib.hid (own_below hO9.out hB_10)
    have hY10 := Lib.hid (hY9.out.below hB_10 hY9.out.lt)
    have hQ10 := Lib.hid (own_below hQ9.out hB_10)
    have hZ10 := Lib.hid (hZ9.out.below hB_10 hZ9.out.lt)
    clear hX9 hP9 hBB9 hO9 hY9 hQ9 hZ9 hB_10
    obtain ⟨ia2, hia2⟩ : ∃ ia2, anNum (rdAt t2 0) = ia2 := ⟨_, rfl⟩
    have Hia2 := Lib.hid hia2
    rw [hia2] at HF2
    rw [hia2] at ⊢
    clear hia2
    obtain ⟨ib2, hib2⟩ : ∃ ib2, (rdAt t2 0).isSome = ib2 := ⟨_, rfl⟩
    have Hib2 := Lib.hid hib2
    rw [hib2] at HF2
    rw [hib2] at ⊢
    clear hib2
    go_wp2_with (fail)
    refine (framed_c _).mono ?_
    rintro e w11 ⟨rfl, hB_11⟩
    have hX11 := Lib.hid (hX10.out.below hB_11 hX10.out.lt)
    have hP11 := Lib.hid (hP10.out.below hB_11 hP10.out.lt)
    have hBB11 := Lib.hid (hBB10.out.trans (hB_11.mono hBB10.out.size))
    have hO11 := Lib.hid (own_below hO10.out hB_11)
    have hY11 := Lib.hid (hY10.out.below hB_11 hY10.out.lt)
    have hQ11 := Lib.hid (own_below hQ10.out hB_11)
    have hZ11 := Lib.hid (hZ10.out.below hB_11 hZ10.out.lt)
    clear hX10 hP10 hBB10 hO10 hY10 hQ10 hZ10 hB_11
    obtain ⟨p0, p1, p2, p3, p4⟩ := hP11.out.cells
    obtain ⟨z0, z1, z2, z3, z4⟩ := hZ11.out.cells
    by_cases he2 : er2 = 0
    · obtain ⟨q1, q2, q3, q4⟩ := HF2.out he2
      subst he2 q1 q2 q3 q4
      go_wp2_with (fail)
      refine (sameReply_c _ _ A5 A2 _ n2 c5 c2 _ (own_reads hQ11.out) ((HR2.out.below hBB11.out).more hBB11.out.size) (Nat.le_trans hlen2.out.1 hlen2.out.2) HN2.out).mono ?_
      rintro e w12 ⟨rfl, hB_12⟩
      have hX12 := Lib.hid (hX11.out.below hB_12 hX11.out.lt)
      have hP12 := Lib.hid (hP11.out.below hB_12 hP11.out.lt)
      have hBB12 := Lib.hid (hBB11.out.trans (hB_12.mono hBB11.out.size))
      have hO12 := Lib.hid (own_below hO11.out hB_12)
      have hY12 := Lib.hid (hY11.out.below hB_12 hY11.out.lt)
      have hQ12 := Lib.hid (own_below hQ11.out hB_12)
      have hZ12 := Lib.hid (hZ11.out.below hB_12 hZ11.out.lt)
      clear hX11 hP11 hBB11 hO11 hY11 hQ11 hZ11 hB_12
      rw [decide_eq_true rfl]
      clear p0 p1 p2 p3 p4 z0 z1 z2 z3 z4
      obtain ⟨p0, p1, p2, p3, p4⟩ := hP12.out.cells
      go_wp2_with (fail)
      go_ret
      exact ⟨rfl, hBB12.out⟩
    · have he3 : (er2 != 0) = true := by simpa using he2
      clear he2
      go_wp2_with (fail)
      go_ret
      exact ⟨rfl, hBB11.out⟩
  · have he1 : (er == 0) = false := by simpa using he0
    clear he0
    obtain ⟨p0, p1, p2, p3, p4⟩ := hP5.out.cells
    go_wp2_with (fail)
    refine (putReply_c y A2 n2 c2 _ ((HR2.out.below hBB5.out).more hBB5.out.size) HN2.out).mono ?_
    rintro e w6 ⟨rfl, hB_6⟩
    have hX6 := Lib.hid (hX5.out.below hB_6 hX5.out.lt)
    have hP6 := Lib.hid (hP5.out.below hB_6 hP5.out.lt)
    have hBB6 := Lib.hid (hBB5.out.trans (hB_6.mono hBB5.out.size))
    have hO6 := Lib.hid (own_below hO5.out hB_6)
    have hY6 := Lib.hid (hY5.out.below hB_6 hY5.out.lt)
    clear hX5 hP5 hBB5 hO5 hY5 hB_6
    clear p0 p1 p2 p3 p4
    obtain ⟨t2, ht2⟩ : ∃ t2, repS y = t2 := ⟨_, rfl⟩
    have Ht2 := Lib.hid ht2
    rw [ht2] at HF2
    rw [ht2] at HZ2
    rw [ht2] at ⊢
    clear ht2
    obtain ⟨er2, her2⟩ : ∃ er2, repErr y = er2 := ⟨_, rfl⟩
    have Her2 := Lib.hid her2
    rw [her2] at HF2
    rw [her2] at ⊢
    clear her2
    go_wp2_with (fail)
    refine (getReply_c t2 _ (by have := HZ2.out; omega)).mono ?_
    rintro e w7 ⟨A5, c5, rfl, ho5, hB_7⟩
    have hX7 := Lib.hid (hX6.out.below hB_7 hX6.out.lt)
    have hP7 := Lib.hid (hP6.out.below hB_7 hP6.out.lt)
    have hBB7 := Lib.hid (hBB6.out.trans (hB_7.mono hBB6.out.size))
    have hO7 := Lib.hid (own_below hO6.out hB_7)
    have hY7 := Lib.hid (hY6.out.below hB_7 hY6.out.lt)
    clear hX6 hP6 hBB6 hO6 hY6 hB_7
    have hQ5 := Lib.hid ho5
    clear ho5
    have hlen2 := Lib.hid (own_cap hQ5.out)
    obtain ⟨gy, hgy⟩ : ∃ gy, gotRep t2 = gy := ⟨_, rfl⟩
    have Hgy := Lib.hid hgy
    rw [hgy] at HF2
    rw [hgy] at hQ5
    rw [hgy] at hlen2
    rw [hgy] at ⊢
    clear hgy
    obtain ⟨gf2, hgf2⟩ : ∃ gf2, gotErrP t2 = gf2 := ⟨_, rfl⟩
    have Hgf2 := Lib.hid hgf2
    rw [hgf2] at HF2
    rw [hgf2] at ⊢
    clear hgf2
    have hZ8 := Lib.hid (PAt.new w7 gy A5 gy.hits.length c5)
    have hX8 := Lib.hid (hX7.out.below (below_one _ (.cells #[.int .i64 gy.id, .int .i64 gy.code, .bool gy.found, .int .i64 gy.d, .slice A5 gy.hits.length c5] 40)) hX7.out.lt)
    have hP8 := Lib.hid (hP7.out.below (below_one _ (.cells #[.int .i64 gy.id, .int .i64 gy.code, .bool gy.found, .int .i64 gy.d, .slice A5 gy.hits.length c5] 40)) hP7.out.lt)
    have hBB8 := Lib.hid (hBB7.out.alloc hBB7.out.size (.cells #[.int .i64 gy.id, .int .i64 gy.code, .bool gy.found, .int .i64 gy.d, .slice A5 gy.hits.length c5] 40))
    have hO8 := Lib.hid (hO7.out.alloc (.cells #[.int .i64 gy.id, .int .i64 gy.code, .bool gy.found, .int .i64 gy.d, .slice A5 gy.hits.length c5] 40))
    have hY8 := Lib.hid (hY7.out.below (below_one _ (.cells #[.int .i64 gy.id, .int .i64 gy.code, .bool gy.found, .int .i64 gy.d, .slice A5 gy.hits.length c5] 40)) hY7.out.lt)
    have hQ8 := Lib.hid (hQ5.out.alloc (.cells #[.int .i64 gy.id, .int .i64 gy.code, .bool gy.found, .int .i64 gy.d, .slice A5 gy.hits.length c5] 40))
    clear hX7 hP7 hBB7 hO7 hY7 hQ5
    go_wp2_with (fail)
    refine (id_c t2 _ (by have := HZ2.out; omega)).mono ?_
    rintro e w9 ⟨rfl, hB_9⟩
    have hX9 := Lib.hid (hX8.out.below hB_9 hX8.out.lt)
    have hP9 := Lib.hid (hP8.out.below hB_9 hP8.out.lt)
    have hBB9 := Lib.hid (hBB8.out.trans (hB_9.mono hBB8.out.size))
    have hO9 := Lib.hid (own_below hO8.out hB_9)
    have hY9 := Lib.hid (hY8.out.below hB_9 hY8.out.lt)
    have hQ9 := Lib.hid (own_below hQ8.out hB_9)
    have hZ9 := Lib.hid (hZ8.out.below hB_9 hZ8.out.lt)
    clear hX8 hP8 hBB8 hO8 hY8 hQ8 hZ8 hB_9
    obtain ⟨ia2, hia2⟩ : ∃ ia2, anNum (rdAt t2 0) = ia2 := ⟨_, rfl⟩
    have Hia2 := Lib.hid hia2
    rw [hia2] at HF2
    rw [hia2] at ⊢
    clear hia2
    obtain ⟨ib2, hib2⟩ : ∃ ib2, (rdAt t2 0).isSome = ib2 := ⟨_, rfl⟩
    have Hib2 := Lib.hid hib2
    rw [hib2] at HF2
    rw [hib2] at ⊢
    clear hib2
    go_wp2_with (fail)
    refine (framed_c _).mono ?_
    rintro e w10 ⟨rfl, hB_10⟩
    have hX10 := Lib.hid (hX9.out.below hB_10 hX9.out.lt)
    have hP10 := Lib.hid (hP9.out.below hB_10 hP9.out.lt)
    have hBB10 := Lib.hid (hBB9.out.trans (hB_10.mono hBB9.out.size))
    have hO10 := Lib.hid (own_below hO9.out hB_10)
    have hY10 := Lib.hid (hY9.out.below hB_10 hY9.out.lt)
    have hQ10 := Lib.hid (own_below hQ9.out hB_10)
    have hZ10 := Lib.hid (hZ9.out.below hB_10 hZ9.out.lt)
    clear hX9 hP9 hBB9 hO9 hY9 hQ9 hZ9 hB_10
    obtain ⟨p0, p1, p2, p3, p4⟩ := hP10.out.cells
    obtain ⟨z0, z1, z2, z3, z4⟩ := hZ10.out.cells
    by_cases he2 : er2 = 0
    · obtain ⟨q1, q2, q3, q4⟩ := HF2.out he2
      subst he2 q1 q2 q3 q4
      go_wp2_with (fail)
      refine (sameReply_c _ _ A5 A2 _ n2 c5 c2 _ (own_reads hQ10.out) ((HR2.out.below hBB10.out).more hBB10.out.size) (Nat.le_trans hlen2.out.1 hlen2.out.2) HN2.out).mono ?_
      rintro e w11 ⟨rfl, hB_11⟩
      have hX11 := Lib.hid (hX10.out.below hB_11 hX10.out.lt)
      have hP11 := Lib.hid (hP10.out.below hB_11 hP10.out.lt)
      have hBB11 := Lib.hid (hBB10.out.trans (hB_11.mono hBB10.out.size))
      have hO11 := Lib.hid (own_below hO10.out hB_11)
      have hY11 := Lib.hid (hY10.out.below hB_11 hY10.out.lt)
      have hQ11 := Lib.hid (own_below hQ10.out hB_11)
      have hZ11 := Lib.hid (hZ10.out.below hB_11 hZ10.out.lt)
      clear hX10 hP10 hBB10 hO10 hY10 hQ10 hZ10 hB_11
      rw [decide_eq_true rfl]
      clear p0 p1 p2 p3 p4 z0 z1 z2 z3 z4
      obtain ⟨p0, p1, p2, p3, p4⟩ := hP11.out.cells
      go_wp2_with (fail)
      go_ret
      exact ⟨rfl, hBB11.out⟩
    · have he3 : (er2 != 0) = true := by simpa using he2
      clear he2
      go_wp2_with (fail)
      go_ret
      exact ⟨rfl, hBB10.out⟩
end Go.Proofs.Ytmnjlhifjjainaa
