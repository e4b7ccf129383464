/-
  The document's rows of frames.
-/
import Derived.Test.YtmnjlhifjjainaaFrGetPR0
namespace Go.Proofs.Ytmnjlhifjjainaa
open Go.RowKit

theorem num300 : numBytes 300 = [172, 2] := by decide
theorem num1 : numBytes 1 = [1] := by decide
theorem num2 : numBytes 2 = [2] := by decide
theorem num5 : numBytes 5 = [5] := by decide
theorem num7 : numBytes 7 = [7] := by decide
theorem num0 : numBytes 0 = [0] := by decide
theorem num3 : numBytes 3 = [3] := by decide
theorem num251 : numBytes 251 = [251, 1] := by decide
theorem lay_cons (x : Int) (xs : List Int) (h : good x) : layB (x :: xs) = numBytes x.toNat ++ layB xs := by
  show (numStr x).data.toList ++ layB xs = _
  rw [numStr_list h]
theorem lay_nil : layB [] = [] := rfl
theorem x0_may : mayReq ⟨300, 1, ⟨1, 2, 5, [], 0, 0⟩⟩ := by decide
theorem y1_may : mayRep ⟨7, 0, true, 3, []⟩ := by decide
theorem y2_may : mayRep ⟨7, 251, false, 0, []⟩ := by decide
theorem x0_b : reqB ⟨300, 1, ⟨1, 2, 5, [], 0, 0⟩⟩ = [172, 2, 1, 2, 5] := by decide
theorem y1_b : repB ⟨7, 0, true, 3, []⟩ = [7, 0, 1, 3, 0] := by decide
theorem y2_b : repB ⟨7, 251, false, 0, []⟩ = [7, 251, 1] := by decide
theorem x0_put : reqS ⟨300, 1, ⟨1, 2, 5, [], 0, 0⟩⟩ = ⟨#[172, 2, 1, 2, 5]⟩ ∧ reqErr ⟨300, 1, ⟨1, 2, 5, [], 0, 0⟩⟩ = 0 := by
  refine ⟨?_, if_pos x0_may⟩
  unfold reqS
  rw [if_pos x0_may, x0_b]
theorem y1_put : repS ⟨7, 0, true, 3, []⟩ = ⟨#[7, 0, 1, 3, 0]⟩ ∧ repErr ⟨7, 0, true, 3, []⟩ = 0 := by
  refine ⟨?_, if_pos y1_may⟩
  unfold repS
  rw [if_pos y1_may, y1_b]
theorem y2_put : repS ⟨7, 251, false, 0, []⟩ = ⟨#[7, 251, 1]⟩ ∧ repErr ⟨7, 251, false, 0, []⟩ = 0 := by
  refine ⟨?_, if_pos y2_may⟩
  unfold repS
  rw [if_pos y2_may, y2_b]
theorem x0_got : gotReq ⟨#[172, 2, 1, 2, 5]⟩ = ⟨300, 1, ⟨1, 2, 5, [], 0, 0⟩⟩ ∧ gotErr ⟨#[172, 2, 1, 2, 5]⟩ = 0 := got_some (getReq_iff.2 ⟨x0_may, by rw [x0_b]⟩)
theorem y2_got : gotRep ⟨#[7, 251, 1]⟩ = ⟨7, 251, false, 0, []⟩ ∧ gotErrP ⟨#[7, 251, 1]⟩ = 0 := gotP_some (getRep_iff.2 ⟨y2_may, by rw [y2_b]⟩)
theorem rdAt_empty : rdAt ⟨#[]⟩ 0 = none := by
  cases h : rdAt ⟨#[]⟩ 0 with
  | none => rfl
  | some y =>
    obtain ⟨n, q⟩ := y
    have := rdAt_spec h
    have h1 := this.2.1
    have h2 := this.2.2.1
    have h3 : (⟨#[]⟩ : ByteArray).size = 0 := rfl
    omega
theorem empty_got : gotReq ⟨#[]⟩ = noR ∧ gotErr ⟨#[]⟩ = 220 := by
  refine got_none ?_
  unfold getReq rdReq
  rw [rdInts2_none (q := 0) rdAt_empty]
theorem x0_id : rdAt ⟨#[172, 2, 1, 2, 5]⟩ 0 = some (300, 2) := by
  have := rdAt_back (s := ⟨#[172, 2, 1, 2, 5]⟩) (p := 0) (n := 300) (r := [1, 2, 5]) (by rw [num300]; rfl) (by decide)
  rw [num300] at this
  exact this

set_option maxRecDepth 100000 in
set_option maxHeartbeats 1000000 in
theorem framed_c (w : World) : Calls Try.prog 17 #[] w fun e w' => e = .returned (.bool true) ∧ Below w.heap.size w w' := by
  have hX1 := Lib.hid (RAt.new w ⟨300, 1, ⟨1, 2, 5, [], 0, 0⟩⟩ none 0 0)
  have hB1 := below_one w (.cells #[.int .i64 300, .int .i64 1, .int .i64 1, .int .i64 2, .int .i64 5, .slice none 0 0, .int .i64 0, .int .i64 0] 26)
  have P0 := Lib.hid x0_put
  have P1 := Lib.hid y1_put
  have P2 := Lib.hid y2_put
  have G0 := Lib.hid x0_got
  have G2 := Lib.hid y2_got
  have E0 := Lib.hid empty_got
  have I0 := Lib.hid x0_id
  go_enter Try.func17, Try.ntmps17
  go_wp2_with (fail)
  refine (putRequest_c ⟨300, 1, ⟨1, 2, 5, [], 0, 0⟩⟩ none 0 0 _ Reads.none_ (by simp [maxLen]) (fun x hx => by simp at hx)).mono ?_
  rintro e w2 ⟨rfl, hB2⟩
  rw [P0.out.1, P0.out.2]
  have hX2 := Lib.hid (hX1.out.below hB2 (by simp))
  have hB := hB1.trans (hB2.mono hB1.size)
  clear hX1 hB1 hB2
  go_wp2_with (fail)
  refine (getRequest_c ⟨#[172, 2, 1, 2, 5]⟩ _ (by decide)).mono ?_
  rintro e w3 ⟨A3, c3, rfl, ho3, hB3⟩
  rw [G0.out.1, G0.out.2]
  clear ho3
  have hX3 := Lib.hid (hX2.out.below hB3 hX2.out.lt)
  have hB4 := hB.trans (hB3.mono hB.size)
  have hZ4 := RAt.new w3 ⟨300, 1, ⟨1, 2, 5, [], 0, 0⟩⟩ A3 0 c3
  have hX4 := Lib.hid (hX3.out.below (below_one w3 (.cells #[.int .i64 (⟨300, 1, ⟨1, 2, 5, [], 0, 0⟩⟩ : Req).id, .int .i64 (⟨300, 1, ⟨1, 2, 5, [], 0, 0⟩⟩ : Req).kind, .int .i64 (⟨300, 1, ⟨1, 2, 5, [], 0, 0⟩⟩ : Req).q.kind, .int .i64 (⟨300, 1, ⟨1, 2, 5, [], 0, 0⟩⟩ : Req).q.src, .int .i64 (⟨300, 1, ⟨1, 2, 5, [], 0, 0⟩⟩ : Req).q.dst, .slice A3 0 c3, .int .i64 (⟨300, 1, ⟨1, 2, 5, [], 0, 0⟩⟩ : Req).q.radius, .int .i64 (⟨300, 1, ⟨1, 2, 5, [], 0, 0⟩⟩ : Req).q.most] 26)) hX3.out.lt)
  have hB5 := Lib.hid (hB4.alloc hB4.size (.cells #[.int .i64 (⟨300, 1, ⟨1, 2, 5, [], 0, 0⟩⟩ : Req).id, .int .i64 (⟨300, 1, ⟨1, 2, 5, [], 0, 0⟩⟩ : Req).kind, .int .i64 (⟨300, 1, ⟨1, 2, 5, [], 0, 0⟩⟩ : Req).q.kind, .int .i64 (⟨300, 1, ⟨1, 2, 5, [], 0, 0⟩⟩ : Req).q.src, .int .i64 (⟨300, 1, ⟨1, 2, 5, [], 0, 0⟩⟩ : Req).q.dst, .slice A3 0 c3, .int .i64 (⟨300, 1, ⟨1, 2, 5, [], 0, 0⟩⟩ : Req).q.radius, .int .i64 (⟨300, 1, ⟨1, 2, 5, [], 0, 0⟩⟩ : Req).q.most] 26))
  have hZ4 := Lib.hid hZ4
  clear hX2 hB hB3 hX3
  go_wp2_with (fail)
  refine (putReply_c ⟨7, 0, true, 3, []⟩ none 0 0 _ Reads.none_ (by simp [maxLen])).mono ?_
  rintro e w6 ⟨rfl, hB6⟩
  rw [P1.out.1, P1.out.2]
  have hX6 := Lib.hid (hX4.out.below hB6 hX4.out.lt)
  have hZ6 := Lib.hid (hZ4.out.below hB6 hZ4.out.lt)
  have hBB6 := Lib.hid (hB5.out.trans (hB6.mono hB5.out.size))
  clear hX4 hZ4 hB5 hB6 hB4
  go_wp2_with (fail)
  refine (putReply_c ⟨7, 251, false, 0, []⟩ none 0 0 _ Reads.none_ (by simp [maxLen])).mono ?_
  rintro e w7 ⟨rfl, hB7⟩
  rw [P2.out.1, P2.out.2]
  have hX7 := Lib.hid (hX6.out.below hB7 hX6.out.lt)
  have hZ7 := Lib.hid (hZ6.out.below hB7 hZ6.out.lt)
  have hBB7 := Lib.hid (hBB6.out.trans (hB7.mono hBB6.out.size))
  clear hX6 hZ6 hB7 hBB6
  go_wp2_with (fail)
  refine (getReply_c ⟨#[7, 251, 1]⟩ _ (by decide)).mono ?_
  rintro e w8 ⟨A8, c8, rfl, ho8, hB8⟩
  rw [G2.out.1, G2.out.2]
  clear ho8
  have hX8 := Lib.hid (hX7.out.below hB8 hX7.out.lt)
  have hZ8 := Lib.hid (hZ7.out.below hB8 hZ7.out.lt)
  have hBB8 := Lib.hid (hBB7.out.trans (hB8.mono hBB7.out.size))
  clear hX7 hZ7 hB8 hBB7
  have hY9 := Lib.hid (PAt.new w8 ⟨7, 251, false, 0, []⟩ A8 0 c8)
  have hX9 := Lib.hid (hX8.out.below (below_one w8 (.cells #[.int .i64 (⟨7, 251, false, 0, []⟩ : Rep).id, .int .i64 (⟨7, 251, false, 0, []⟩ : Rep).code, .bool (⟨7, 251, false, 0, []⟩ : Rep).found, .int .i64 (⟨7, 251, false, 0, []⟩ : Rep).d, .slice A8 0 c8] 40)) hX8.out.lt)
  have hZ9 := Lib.hid (hZ8.out.below (below_one w8 (.cells #[.int .i64 (⟨7, 251, false, 0, []⟩ : Rep).id, .int .i64 (⟨7, 251, false, 0, []⟩ : Rep).code, .bool (⟨7, 251, false, 0, []⟩ : Rep).found, .int .i64 (⟨7, 251, false, 0, []⟩ : Rep).d, .slice A8 0 c8] 40)) hZ8.out.lt)
  have hBB9 := Lib.hid (hBB8.out.alloc hBB8.out.size (.cells #[.int .i64 (⟨7, 251, false, 0, []⟩ : Rep).id, .int .i64 (⟨7, 251, false, 0, []⟩ : Rep).code, .bool (⟨7, 251, false, 0, []⟩ : Rep).found, .int .i64 (⟨7, 251, false, 0, []⟩ : Rep).d, .slice A8 0 c8] 40))
  clear hX8 hZ8 hBB8
  go_wp2_with (fail)
  refine (getRequest_c ⟨#[]⟩ _ (by decide)).mono ?_
  rintro e w10 ⟨A10, c10, rfl, ho10, hB10⟩
  rw [E0.out.1, E0.out.2]
  clear ho10
  have hX10 := Lib.hid (hX9.out.below hB10 hX9.out.lt)
  have hZ10 := Lib.hid (hZ9.out.below hB10 hZ9.out.lt)
  have hY10 := Lib.hid (hY9.out.below hB10 hY9.out.lt)
  have hBB10 := Lib.hid (hBB9.out.trans (hB10.mono hBB9.out.size))
  clear hX9 hZ9 hY9 hB10 hBB9
  have hX11 := Lib.hid (hX10.out.below (below_one w10 (.cells #[.int .i64 noR.id, .int .i64 noR.kind, .int .i64 noR.q.kind, .int .i64 noR.q.src, .int .i64 noR.q.dst, .slice A10 0 c10, .int .i64 noR.q.radius, .int .i64 noR.q.most] 26)) hX10.out.lt)
  have hZ11 := Lib.hid (hZ10.out.below (below_one w10 (.cells #[.int .i64 noR.id, .int .i64 noR.kind, .int .i64 noR.q.kind, .int .i64 noR.q.src, .int .i64 noR.q.dst, .slice A10 0 c10, .int .i64 noR.q.radius, .int .i64 noR.q.most] 26)) hZ10.out.lt)
  have hY11 := Lib.hid (hY10.out.below (below_one w10 (.cells #[.int .i64 noR.id, .int .i64 noR.kind, .int .i64 noR.q.kind, .int .i64 noR.q.src, .int .i64 noR.q.dst, .slice A10 0 c10, .int .i64 noR.q.radius, .int .i64 noR.q.most] 26)) hY10.out.lt)
  have hBB11 := Lib.hid (hBB10.out.alloc hBB10.out.size (.cells #[.int .i64 noR.id, .int .i64 noR.kind, .int .i64 noR.q.kind, .int .i64 noR.q.src, .int .i64 noR.q.dst, .slice A10 0 c10, .int .i64 noR.q.radius, .int .i64 noR.q.most] 26))
  clear hX10 hZ10 hY10 hBB10
  go_wp2_with (fail)
  refine (id_c ⟨#[172, 2, 1, 2, 5]⟩ _ (by decide)).mono ?_
  rintro e w12 ⟨rfl, hB12⟩
  rw [I0.out]
  have hX12 := Lib.hid (hX11.out.below hB12 hX11.out.lt)
  have hZ12 := Lib.hid (hZ11.out.below hB12 hZ11.out.lt)
  have hY12 := Lib.hid (hY11.out.below hB12 hY11.out.lt)
  have hBB12 := Lib.hid (hBB11.out.trans (hB12.mono hBB11.out.size))
  clear hX11 hZ11 hY11 hB12 hBB11
  obtain ⟨x0, x1, x2, x3, x4, x5, x6, x7⟩ := hX12.out.cells
  obtain ⟨z0, z1, z2, z3, z4, z5, z6, z7⟩ := hZ12.out.cells
  go_wp2_with (fail)
  refine (sameRequest_c ⟨300, 1, ⟨1, 2, 5, [], 0, 0⟩⟩ ⟨300, 1, ⟨1, 2, 5, [], 0, 0⟩⟩ none A3 0 0 0 c3 _ Reads.none_ ⟨by simp [sv], fun h => absurd h (by omega)⟩ (by simp [maxLen]) (by simp [maxLen])).mono ?_
  rintro e w13 ⟨rfl, hB13⟩
  rw [decide_eq_true rfl]
  have hY13 := hY12.out.below hB13 hY12.out.lt
  have hBB13 := Lib.hid (hBB12.out.trans (hB13.mono hBB12.out.size))
  clear hX12 hZ12 hY12 hB13 hBB12 x0 x1 x2 x3 x4 x5 x6 x7 z0 z1 z2 z3 z4 z5 z6 z7
  obtain ⟨y0, y1, y2, y3, y4⟩ := hY13.cells
  clear hY13
  go_wp2_with (fail)
  go_ret
  exact ⟨rfl, hBB13.out⟩
end Go.Proofs.Ytmnjlhifjjainaa
