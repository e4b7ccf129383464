/-
  FrameReplies: the walk.
-/
import Derived.Test.YtmnjlhifjjainaaOpenFrame
namespace Go.Proofs.Ytmnjlhifjjainaa
open Go.RowKit

set_option maxRecDepth 100000 in
set_option maxHeartbeats 1000000 in
theorem frameReplies_c (x : Rep) (A : Option Addr) (n c : Nat) (s : ByteArray) (w : World) (hr : Reads w w.heap.size 2 A n (hv x.hits)) (hn : n ≤ maxLen) :
    Calls Try.prog 4 #[.agg #[.int .i64 x.id, .int .i64 x.code, .bool x.found, .int .i64 x.d, .slice A n c], .string s] w fun e w' => e = .returned (.bool true) ∧ Below w.heap.size w w' := by
  have HR := Lib.hid hr
  have HN := Lib.hid hn
  clear hr hn
  have hX0 := Lib.hid (PAt.new w x A n c)
  have hBB0 := Lib.hid (below_one w (.cells #[.int .i64 x.id, .int .i64 x.code, .bool x.found, .int .i64 x.d, .slice A n c] 40))
  by_cases hn1 : 150 < (n : Int)
  · go_enter Try.func4, Try.ntmps4
    go_wp2_with (fail)
    go_ret
    exact ⟨rfl, hBB0.out⟩
  by_cases hs : 500 < (s.size : Int)
  · go_enter Try.func4, Try.ntmps4
    go_wp2_with (fail)
    go_ret
    exact ⟨rfl, hBB0.out⟩
  have hs1 : s.size ≤ 1000000 := by omega
  go_enter Try.func4, Try.ntmps4
  go_wp2_with (fail)
  refine (putReply_c x A n c _ ((HR.out.below hBB0.out).more (by simp)) HN.out).mono ?_
  rintro e w1 ⟨rfl, hB_1⟩
  have hX1 := Lib.hid (hX0.out.below hB_1 hX0.out.lt)
  have hBB1 := Lib.hid (hBB0.out.trans (hB_1.mono hBB0.out.size))
  clear hX0 hBB0 hB_1
  obtain ⟨t1, ht1⟩ : ∃ t1, repS x = t1 := ⟨_, rfl⟩
  obtain ⟨e1, he1⟩ : ∃ e1, repErr x = e1 := ⟨_, rfl⟩
  have HT1 := Lib.hid ht1
  have HE1 := Lib.hid he1
  rw [ht1, he1]
  clear ht1 he1
  obtain ⟨p0, p1, p2, p3, p4⟩ := hX1.out.cells
  go_wp2_with (fail)
  refine (refPutReply_c x A n c _ ((HR.out.below hBB1.out).more hBB1.out.size) HN.out).mono ?_
  rintro e w2 ⟨rfl, hB_2⟩
  have hX2 := Lib.hid (hX1.out.below hB_2 hX1.out.lt)
  have hBB2 := Lib.hid (hBB1.out.trans (hB_2.mono hBB1.out.size))
  clear hX1 hBB1 hB_2
  clear p0 p1 p2 p3 p4
  rw [HT1.out, HE1.out]
  go_wp2_with (fail)
  refine (getReply_c s _ hs1).mono ?_
  rintro e w3 ⟨A3, c3, rfl, ho3, hB_3⟩
  have hX3 := Lib.hid (hX2.out.below hB_3 hX2.out.lt)
  have hBB3 := Lib.hid (hBB2.out.trans (hB_3.mono hBB2.out.size))
  clear hX2 hBB2 hB_3
  have hO3 := Lib.hid ho3
  clear ho3
  have hlen := Lib.hid (own_cap hO3.out)
  obtain ⟨y, hy⟩ : ∃ y, gotRep s = y := ⟨_, rfl⟩
  obtain ⟨ey, hey⟩ : ∃ ey, gotErrP s = ey := ⟨_, rfl⟩
  have HY := Lib.hid hy
  have HEY := Lib.hid hey
  rw [hy, hey]
  rw [hy] at hO3 hlen
  clear hy hey
  have hY4 := Lib.hid (PAt.new w3 y A3 y.hits.length c3)
  have hX4 := Lib.hid (hX3.out.below (below_one _ (.cells #[.int .i64 y.id, .int .i64 y.code, .bool y.found, .int .i64 y.d, .slice A3 y.hits.length c3] 40)) hX3.out.lt)
  have hBB4 := Lib.hid (hBB3.out.alloc hBB3.out.size (.cells #[.int .i64 y.id, .int .i64 y.code, .bool y.found, .int .i64 y.d, .slice A3 y.hits.length c3] 40))
  have hO4 := Lib.hid (hO3.out.alloc (.cells #[.int .i64 y.id, .int .i64 y.code, .bool y.found, .int .i64 y.d, .slice A3 y.hits.length c3] 40))
  clear hX3 hBB3 hO3
  go_wp2_with (fail)
  refine (refGetReply_c s _ hs1).mono ?_
  rintro e w5 ⟨A4, c4, rfl, ho4, hB_5⟩
  have hX5 := Lib.hid (hX4.out.below hB_5 hX4.out.lt)
  have hBB5 := Lib.hid (hBB4.out.trans (hB_5.mono hBB4.out.size))
  have hO5 := Lib.hid (own_below hO4.out hB_5)
  have hY5 := Lib.hid (hY4.out.below hB_5 hY4.out.lt)
  clear hX4 hBB4 hO4 hY4 hB_5
  rw [HY.out, HEY.out]
  rw [HY.out] at ho4
  have hQ4 := Lib.hid ho4
  clear ho4
  have hZ6 := Lib.hid (PAt.new w5 y A4 y.hits.length c4)
  have hX6 := Lib.hid (hX5.out.below (below_one _ (.cells #[.int .i64 y.id, .int .i64 y.code, .bool y.found, .int .i64 y.d, .slice A4 y.hits.length c4] 40)) hX5.out.lt)
  have hBB6 := Lib.hid (hBB5.out.alloc hBB5.out.size (.cells #[.int .i64 y.id, .int .i64 y.code, .bool y.found, .int .i64 y.d, .slice A4 y.hits.length c4] 40))
  have hO6 := Lib.hid (hO5.out.alloc (.cells #[.int .i64 y.id, .int .i64 y.code, .bool y.found, .int .i64 y.d, .slice A4 y.hits.length c4] 40))
  have hY6 := Lib.hid (hY5.out.below (below_one _ (.cells #[.int .i64 y.id, .int .i64 y.code, .bool y.found, .int .i64 y.d, .slice A4 y.hits.length c4] 40)) hY5.out.lt)
  have hQ6 := Lib.hid (hQ4.out.alloc (.cells #[.int .i64 y.id, .int .i64 y.code, .bool y.found, .int .i64 y.d, .slice A4 y.hits.length c4] 40))
  clear hX5 hBB5 hO5 hY5 hQ4
  go_wp2_with (fail)
  refine (id_c s _ hs1).mono ?_
  rintro e w7 ⟨rfl, hB_7⟩
  have hX7 := Lib.hid (hX6.out.below hB_7 hX6.out.lt)
  have hBB7 := Lib.hid (hBB6.out.trans (hB_7.mono hBB6.out.size))
  have hO7 := Lib.hid (own_below hO6.out hB_7)
  have hY7 := Lib.hid (hY6.out.below hB_7 hY6.out.lt)
  have hQ7 := Lib.hid (own_below hQ6.out hB_7)
  have hZ7 := Lib.hid (hZ6.out.below hB_7 hZ6.out.lt)
  clear hX6 hBB6 hO6 hY6 hQ6 hZ6 hB_7
  obtain ⟨ia, hia⟩ : ∃ ia, anNum (rdAt s 0) = ia := ⟨_, rfl⟩
  obtain ⟨ib, hib⟩ : ∃ ib, (rdAt s 0).isSome = ib := ⟨_, rfl⟩
  have HIA := Lib.hid hia
  have HIB := Lib.hid hib
  rw [hia, hib]
  clear hia hib
  go_wp2_with (fail)
  refine (refId_c s _ hs1).mono ?_
  rintro e w8 ⟨rfl, hB_8⟩
  have hX8 := Lib.hid (hX7.out.below hB_8 hX7.out.lt)
  have hBB8 := Lib.hid (hBB7.out.trans (hB_8.mono hBB7.out.size))
  have hO8 := Lib.hid (own_below hO7.out hB_8)
  have hY8 := Lib.hid (hY7.out.below hB_8 hY7.out.lt)
  have hQ8 := Lib.hid (own_below hQ7.out hB_8)
  have hZ8 := Lib.hid (hZ7.out.below hB_8 hZ7.out.lt)
  clear hX7 hBB7 hO7 hY7 hQ7 hZ7 hB_8
  rw [HIA.out, HIB.out]
  go_wp2_with (fail)
  refine (framed_c _).mono ?_
  rintro e w9 ⟨rfl, hB_9⟩
  have hX9 := Lib.hid (hX8.out.below hB_9 hX8.out.lt)
  have hBB9 := Lib.hid (hBB8.out.trans (hB_9.mono hBB8.out.size))
  have hO9 := Lib.hid (own_below hO8.out hB_9)
  have hY9 := Lib.hid (hY8.out.below hB_9 hY8.out.lt)
  have hQ9 := Lib.hid (own_below hQ8.out hB_9)
  have hZ9 := Lib.hid (hZ8.out.below hB_9 hZ8.out.lt)
  clear hX8 hBB8 hO8 hY8 hQ8 hZ8 hB_9
  obtain ⟨y0, y1, y2, y3, y4⟩ := hY9.out.cells
  obtain ⟨z0, z1, z2, z3, z4⟩ := hZ9.out.cells
  have hts : (t1.toList == t1.toList) = true := by simp
  go_wp2_with (fail)
  refine (sameReply_c y y A3 A4 y.hits.length y.hits.length c3 c4 _ (own_reads hO9.out) (own_reads hQ9.out) (Nat.le_trans hlen.out.1 hlen.out.2) (Nat.le_trans hlen.out.1 hlen.out.2)).mono ?_
  rintro e w10 ⟨rfl, hB_10⟩
  have hX10 := Lib.hid (hX9.out.below hB_10 hX9.out.lt)
  have hBB10 := Lib.hid (hBB9.out.trans (hB_10.mono hBB9.out.size))
  have hO10 := Lib.hid (own_below hO9.out hB_10)
  have hY10 := Lib.hid (hY9.out.below hB_10 hY9.out.lt)
  have hQ10 := Lib.hid (own_below hQ9.out hB_10)
  have hZ10 := Lib.hid (hZ9.out.below hB_10 hZ9.out.lt)
  clear hX9 hBB9 hO9 hY9 hQ9 hZ9 hB_10
  rw [decide_eq_true rfl]
  clear y0 y1 y2 y3 y4 z0 z1 z2 z3 z4
  go_wp2_with (fail)
  go_ret
  exact ⟨rfl, hBB10.out⟩
end Go.Proofs.Ytmnjlhifjjainaa
