/-
  FrameRequests: the walk.
-/
import Derived.Test.YtmnjlhifjjainaaOpenFrame
namespace Go.Proofs.Ytmnjlhifjjainaa
open Go.RowKit

set_option maxRecDepth 100000 in
set_option maxHeartbeats 1000000 in
theorem frameRequests_c (x : Req) (A : Option Addr) (n c : Nat) (s : ByteArray) (w : World) (hr : Reads w w.heap.size 1 A n (sv x.q.words)) (hn : n ≤ maxLen) :
    Calls Try.prog 3 #[.agg #[.int .i64 x.id, .int .i64 x.kind, .int .i64 x.q.kind, .int .i64 x.q.src, .int .i64 x.q.dst, .slice A n c, .int .i64 x.q.radius, .int .i64 x.q.most], .string s] w fun e w' => e = .returned (.bool true) ∧ Below w.heap.size w w' := by
  have HR := Lib.hid hr
  have HN := Lib.hid hn
  clear hr hn
  have hX0 := Lib.hid (RAt.new w x A n c)
  have hBB0 := Lib.hid (below_one w (.cells #[.int .i64 x.id, .int .i64 x.kind, .int .i64 x.q.kind, .int .i64 x.q.src, .int .i64 x.q.dst, .slice A n c, .int .i64 x.q.radius, .int .i64 x.q.most] 26))
  go_enter Try.func3, Try.ntmps3
  go_wp2_with (fail)
  refine (big_c x.q A n c _ ((HR.out.below hBB0.out).more (by simp)) HN.out).mono ?_
  rintro e w1 ⟨bg, rfl, hsm, hB_1⟩
  have hX1 := Lib.hid (hX0.out.below hB_1 hX0.out.lt)
  have hBB1 := Lib.hid (hBB0.out.trans (hB_1.mono hBB0.out.size))
  clear hX0 hBB0 hB_1
  rcases bg with _ | _
  rotate_left
  · go_wp2_with (fail)
    go_ret
    exact ⟨rfl, hBB1.out⟩
  have HS := Lib.hid (hsm rfl)
  clear hsm
  by_cases hs : 500 < (s.size : Int)
  · go_wp2_with (fail)
    go_ret
    exact ⟨rfl, hBB1.out⟩
  have hs1 : s.size ≤ 1000000 := by omega
  obtain ⟨p0, p1, p2, p3, p4, p5, p6, p7⟩ := hX1.out.cells
  go_wp2_with (fail)
  refine (putRequest_c x A n c _ ((HR.out.below hBB1.out).more hBB1.out.size) HN.out (small_bounded HS.out)).mono ?_
  rintro e w2 ⟨rfl, hB_2⟩
  have hX2 := Lib.hid (hX1.out.below hB_2 hX1.out.lt)
  have hBB2 := Lib.hid (hBB1.out.trans (hB_2.mono hBB1.out.size))
  clear hX1 hBB1 hB_2
  clear p0 p1 p2 p3 p4 p5 p6 p7
  obtain ⟨t1, ht1⟩ : ∃ t1, reqS x = t1 := ⟨_, rfl⟩
  obtain ⟨e1, he1⟩ : ∃ e1, reqErr x = e1 := ⟨_, rfl⟩
  have HT1 := Lib.hid ht1
  have HE1 := Lib.hid he1
  rw [ht1, he1]
  clear ht1 he1
  obtain ⟨p0, p1, p2, p3, p4, p5, p6, p7⟩ := hX2.out.cells
  go_wp2_with (fail)
  refine (refPutRequest_c x A n c _ ((HR.out.below hBB2.out).more hBB2.out.size) HN.out (small_bounded HS.out)).mono ?_
  rintro e w3 ⟨rfl, hB_3⟩
  have hX3 := Lib.hid (hX2.out.below hB_3 hX2.out.lt)
  have hBB3 := Lib.hid (hBB2.out.trans (hB_3.mono hBB2.out.size))
  clear hX2 hBB2 hB_3
  clear p0 p1 p2 p3 p4 p5 p6 p7
  rw [HT1.out, HE1.out]
  go_wp2_with (fail)
  refine (getRequest_c s _ hs1).mono ?_
  rintro e w4 ⟨A3, c3, rfl, ho3, hB_4⟩
  have hX4 := Lib.hid (hX3.out.below hB_4 hX3.out.lt)
  have hBB4 := Lib.hid (hBB3.out.trans (hB_4.mono hBB3.out.size))
  clear hX3 hBB3 hB_4
  have hO3 := Lib.hid ho3
  clear ho3
  have hlen := Lib.hid (own_cap hO3.out)
  obtain ⟨y, hy⟩ : ∃ y, gotReq s = y := ⟨_, rfl⟩
  obtain ⟨ey, hey⟩ : ∃ ey, gotErr s = ey := ⟨_, rfl⟩
  have HY := Lib.hid hy
  have HEY := Lib.hid hey
  rw [hy, hey]
  rw [hy] at hO3 hlen
  clear hy hey
  have hY5 := Lib.hid (RAt.new w4 y A3 y.q.words.length c3)
  have hX5 := Lib.hid (hX4.out.below (below_one _ (.cells #[.int .i64 y.id, .int .i64 y.kind, .int .i64 y.q.kind, .int .i64 y.q.src, .int .i64 y.q.dst, .slice A3 y.q.words.length c3, .int .i64 y.q.radius, .int .i64 y.q.most] 26)) hX4.out.lt)
  have hBB5 := Lib.hid (hBB4.out.alloc hBB4.out.size (.cells #[.int .i64 y.id, .int .i64 y.kind, .int .i64 y.q.kind, .int .i64 y.q.src, .int .i64 y.q.dst, .slice A3 y.q.words.length c3, .int .i64 y.q.radius, .int .i64 y.q.most] 26))
  have hO5 := Lib.hid (hO3.out.alloc (.cells #[.int .i64 y.id, .int .i64 y.kind, .int .i64 y.q.kind, .int .i64 y.q.src, .int .i64 y.q.dst, .slice A3 y.q.words.length c3, .int .i64 y.q.radius, .int .i64 y.q.most] 26))
  clear hX4 hBB4 hO3
  go_wp2_with (fail)
  refine (refGetRequest_c s _ hs1).mono ?_
  rintro e w6 ⟨A4, c4, rfl, ho4, hB_6⟩
  have hX6 := Lib.hid (hX5.out.below hB_6 hX5.out.lt)
  have hBB6 := Lib.hid (hBB5.out.trans (hB_6.mono hBB5.out.size))
  have hO6 := Lib.hid (own_below hO5.out hB_6)
  have hY6 := Lib.hid (hY5.out.below hB_6 hY5.out.lt)
  clear hX5 hBB5 hO5 hY5 hB_6
  rw [HY.out, HEY.out]
  rw [HY.out] at ho4
  have hQ4 := Lib.hid ho4
  clear ho4
  have hZ7 := Lib.hid (RAt.new w6 y A4 y.q.words.length c4)
  have hX7 := Lib.hid (hX6.out.below (below_one _ (.cells #[.int .i64 y.id, .int .i64 y.kind, .int .i64 y.q.kind, .int .i64 y.q.src, .int .i64 y.q.dst, .slice A4 y.q.words.length c4, .int .i64 y.q.radius, .int .i64 y.q.most] 26)) hX6.out.lt)
  have hBB7 := Lib.hid (hBB6.out.alloc hBB6.out.size (.cells #[.int .i64 y.id, .int .i64 y.kind, .int .i64 y.q.kind, .int .i64 y.q.src, .int .i64 y.q.dst, .slice A4 y.q.words.length c4, .int .i64 y.q.radius, .int .i64 y.q.most] 26))
  have hO7 := Lib.hid (hO6.out.alloc (.cells #[.int .i64 y.id, .int .i64 y.kind, .int .i64 y.q.kind, .int .i64 y.q.src, .int .i64 y.q.dst, .slice A4 y.q.words.length c4, .int .i64 y.q.radius, .int .i64 y.q.most] 26))
  have hY7 := Lib.hid (hY6.out.below (below_one _ (.cells #[.int .i64 y.id, .int .i64 y.kind, .int .i64 y.q.kind, .int .i64 y.q.src, .int .i64 y.q.dst, .slice A4 y.q.words.length c4, .int .i64 y.q.radius, .int .i64 y.q.most] 26)) hY6.out.lt)
  have hQ7 := Lib.hid (hQ4.out.alloc (.cells #[.int .i64 y.id, .int .i64 y.kind, .int .i64 y.q.kind, .int .i64 y.q.src, .int .i64 y.q.dst, .slice A4 y.q.words.length c4, .int .i64 y.q.radius, .int .i64 y.q.most] 26))
  clear hX6 hBB6 hO6 hY6 hQ4
  go_wp2_with (fail)
  refine (framed_c _).mono ?_
  rintro e w8 ⟨rfl, hB_8⟩
  have hX8 := Lib.hid (hX7.out.below hB_8 hX7.out.lt)
  have hBB8 := Lib.hid (hBB7.out.trans (hB_8.mono hBB7.out.size))
  have hO8 := Lib.hid (own_below hO7.out hB_8)
  have hY8 := Lib.hid (hY7.out.below hB_8 hY7.out.lt)
  have hQ8 := Lib.hid (own_below hQ7.out hB_8)
  have hZ8 := Lib.hid (hZ7.out.below hB_8 hZ7.out.lt)
  clear hX7 hBB7 hO7 hY7 hQ7 hZ7 hB_8
  obtain ⟨y0, y1, y2, y3, y4, y5, y6, y7⟩ := hY8.out.cells
  obtain ⟨z0, z1, z2, z3, z4, z5, z6, z7⟩ := hZ8.out.cells
  have hts : (t1.toList == t1.toList) = true := by simp
  go_wp2_with (fail)
  refine (sameRequest_c y y A3 A4 y.q.words.length y.q.words.length c3 c4 _ (own_reads hO8.out) (own_reads hQ8.out) (Nat.le_trans hlen.out.1 hlen.out.2) (Nat.le_trans hlen.out.1 hlen.out.2)).mono ?_
  rintro e w9 ⟨rfl, hB_9⟩
  have hX9 := Lib.hid (hX8.out.below hB_9 hX8.out.lt)
  have hBB9 := Lib.hid (hBB8.out.trans (hB_9.mono hBB8.out.size))
  have hO9 := Lib.hid (own_below hO8.out hB_9)
  have hY9 := Lib.hid (hY8.out.below hB_9 hY8.out.lt)
  have hQ9 := Lib.hid (own_below hQ8.out hB_9)
  have hZ9 := Lib.hid (hZ8.out.below hB_9 hZ8.out.lt)
  clear hX8 hBB8 hO8 hY8 hQ8 hZ8 hB_9
  rw [decide_eq_true rfl]
  clear y0 y1 y2 y3 y4 y5 y6 y7 z0 z1 z2 z3 z4 z5 z6 z7
  go_wp2_with (fail)
  go_ret
  exact ⟨rfl, hBB9.out⟩
end Go.Proofs.Ytmnjlhifjjainaa
