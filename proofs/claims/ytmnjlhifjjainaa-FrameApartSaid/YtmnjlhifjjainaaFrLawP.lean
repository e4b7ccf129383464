/-
  Frames: plain facts for the laws.
-/
import Derived.Test.YtmnjlhifjjainaaOpenFrame
namespace Go.Proofs.Ytmnjlhifjjainaa
open Go.RowKit

theorem reqErr_zero {x : Req} (h : reqErr x = 0) : mayReq x := by
  unfold reqErr at h
  split at h
  · assumption
  · omega
theorem repErr_zero {x : Rep} (h : repErr x = 0) : mayRep x := by
  unfold repErr at h
  split at h
  · assumption
  · omega
theorem reqErr_one {x : Req} (h : ¬ reqErr x = 0) : reqErr x = 1 := by
  unfold reqErr at h ⊢
  split
  · rename_i hm; rw [if_pos hm] at h; exact absurd rfl h
  · rfl
theorem repErr_one {x : Rep} (h : ¬ repErr x = 0) : repErr x = 1 := by
  unfold repErr at h ⊢
  split
  · rename_i hm; rw [if_pos hm] at h; exact absurd rfl h
  · rfl
theorem reqS_list {x : Req} (h : mayReq x) : (reqS x).data.toList = reqB x := by unfold reqS; rw [if_pos h]
theorem repS_list {x : Rep} (h : mayRep x) : (repS x).data.toList = repB x := by unfold repS; rw [if_pos h]
theorem reqB_len {x : Req} (h : mayReq x) : (reqB x).length ≤ 40000 := by
  rcases req_kinds h with hk | ⟨hk, hl⟩ | hk
  · rw [← reqB_low (x := x) (by omega), List.length_append]
    have := lay2 x.id x.kind
    have := lay2 x.q.src x.q.dst
    omega
  · rw [← reqB_three (x := x) hk rfl, List.length_append, List.length_append, List.length_append]
    have := lay2 x.id x.kind
    have := lay2 x.q.src (x.q.words.length : Int)
    have := lay2 x.q.radius x.q.most
    have := wordsB_len x.q.words
    omega
  · rw [← reqB_four hk]
    have := lay2 x.id x.kind
    omega
theorem repB_len {x : Rep} (h : mayRep x) : (repB x).length ≤ 40000 := by
  by_cases h0 : x.code = 0
  · rw [← repB_ok (x := x) h0 rfl rfl, List.length_append, List.length_append]
    have := lay2 x.id x.code
    have := lay3 (b01 x.found) x.d (x.hits.length : Int)
    have := hitsB_len x.hits
    have := h.2.2.2.1
    omega
  · rw [← repB_bad h0]
    have := lay2 x.id x.code
    omega
theorem reqS_size (x : Req) : (reqS x).size ≤ 40000 := by
  by_cases h : mayReq x
  · rw [← size_list, reqS_list h]
    exact reqB_len h
  · unfold reqS
    rw [if_neg h]
    exact Nat.zero_le _
theorem repS_size (x : Rep) : (repS x).size ≤ 40000 := by
  by_cases h : mayRep x
  · rw [← size_list, repS_list h]
    exact repB_len h
  · unfold repS
    rw [if_neg h]
    exact Nat.zero_le _
theorem back_req {x : Req} (h : reqErr x = 0) : gotErr (reqS x) = 0 ∧ gotReq (reqS x) = x ∧ (rdAt (reqS x) 0).isSome = true ∧ anNum (rdAt (reqS x) 0) = x.id := by
  have hm := reqErr_zero h
  obtain ⟨g1, g2⟩ := got_some (getReq_iff.2 ⟨hm, reqS_list hm⟩)
  have hg := hm.1
  have hl : (reqS x).data.toList.drop 0 = numBytes x.id.toNat ++ (layB [x.kind] ++ (reqB x).drop (layB [x.id, x.kind]).length) := by
    rw [List.drop_zero, reqS_list hm, ← List.append_assoc, ← lay_cons _ _ hg]
    unfold reqB
    rw [List.drop_left]
  have hr := rdAt_back (p := 0) hl (good_max hg)
  have hr' : rdAt (reqS x) 0 = some (x.id.toNat, 0 + (numBytes x.id.toNat).length) := hr
  rw [hr']
  exact ⟨g2, g1, rfl, by show ((x.id.toNat : Nat) : Int) = x.id; have := hg.1; omega⟩
theorem back_rep {x : Rep} (h : repErr x = 0) : gotErrP (repS x) = 0 ∧ gotRep (repS x) = x ∧ (rdAt (repS x) 0).isSome = true ∧ anNum (rdAt (repS x) 0) = x.id := by
  have hm := repErr_zero h
  obtain ⟨g1, g2⟩ := gotP_some (getRep_iff.2 ⟨hm, repS_list hm⟩)
  have hg := hm.1
  have hl : (repS x).data.toList.drop 0 = numBytes x.id.toNat ++ (layB [x.code] ++ (repB x).drop (layB [x.id, x.code]).length) := by
    rw [List.drop_zero, repS_list hm, ← List.append_assoc, ← lay_cons _ _ hg]
    unfold repB
    rw [List.drop_left]
  have hr := rdAt_back (p := 0) hl (good_max hg)
  have hr' : rdAt (repS x) 0 = some (x.id.toNat, 0 + (numBytes x.id.toNat).length) := hr
  rw [hr']
  exact ⟨g2, g1, rfl, by show ((x.id.toNat : Nat) : Int) = x.id; have := hg.1; omega⟩
theorem may_bounded {x : Req} (h : mayReq x) : bounded x.q.words := by
  intro y hy
  by_cases h4 : x.kind = 4
  · rw [h.2.1 h4] at hy
    simp [noQ] at hy
  · obtain ⟨e1, e2, -, e4⟩ := h.2.2 h4
    by_cases h3 : x.kind = 3
    · have := ((e2.2.2.2 (by omega)).2.2.2 y hy).1.2
      omega
    · rw [(e4 h3).1] at hy
      simp at hy
theorem got_bounded (s : ByteArray) : bounded (gotReq s).q.words := by
  cases h : getReq s with
  | none =>
    rw [(got_none h).1]
    intro y hy
    simp [noR, noQ] at hy
  | some x =>
    rw [(got_some h).1]
    exact may_bounded (getReq_iff.1 h).1
theorem gotErr_zero {s : ByteArray} (h : gotErr s = 0) : getReq s = some (gotReq s) := by
  unfold gotErr at h
  split at h
  · rename_i h1
    obtain ⟨x, hx⟩ := Option.isSome_iff_exists.1 h1
    rw [hx, (got_some hx).1]
  · omega
theorem gotErrP_zero {s : ByteArray} (h : gotErrP s = 0) : getRep s = some (gotRep s) := by
  unfold gotErrP at h
  split at h
  · rename_i h1
    obtain ⟨x, hx⟩ := Option.isSome_iff_exists.1 h1
    rw [hx, (gotP_some hx).1]
  · omega
theorem same_req {s : ByteArray} (h : gotErr s = 0) : reqErr (gotReq s) = 0 ∧ reqS (gotReq s) = s ∧ gotErr (s ++ ⟨#[0]⟩) = 220 := by
  obtain ⟨h1, h2⟩ := getReq_iff.1 (gotErr_zero h)
  refine ⟨if_pos h1, bytes_ext (by rw [reqS_list h1, h2]), ?_⟩
  have hn : getReq (s ++ ⟨#[0]⟩) = none := by
    cases hz : getReq (s ++ ⟨#[0]⟩) with
    | none => rfl
    | some z =>
      obtain ⟨z1, z2⟩ := getReq_iff.1 hz
      rw [app_list, h2] at z2
      have := (reqB_front (r := [0]) (r' := []) h1 z1 (by rw [List.append_nil]; exact z2)).2
      cases this
  exact (got_none hn).2
theorem same_rep {s : ByteArray} (h : gotErrP s = 0) : repErr (gotRep s) = 0 ∧ repS (gotRep s) = s ∧ gotErrP (s ++ ⟨#[0]⟩) = 220 := by
  obtain ⟨h1, h2⟩ := getRep_iff.1 (gotErrP_zero h)
  refine ⟨if_pos h1, bytes_ext (by rw [repS_list h1, h2]), ?_⟩
  have hn : getRep (s ++ ⟨#[0]⟩) = none := by
    cases hz : getRep (s ++ ⟨#[0]⟩) with
    | none => rfl
    | some z =>
      obtain ⟨z1, z2⟩ := getRep_iff.1 hz
      rw [app_list, h2] at z2
      have := (repB_front (r := [0]) (r' := []) h1 z1 (by rw [List.append_nil]; exact z2)).2
      cases this
  exact (gotP_none hn).2
theorem apart_req {x y : Req} (h1 : reqErr x = 0) (h2 : reqErr y = 0) (hl : (reqS x).size ≤ (reqS y).size) : (reqS y).extract 0 (reqS x).size = reqS x ↔ x = y := by
  have m1 := reqErr_zero h1
  have m2 := reqErr_zero h2
  have he := extract_data (reqS y) 0 (reqS x).size
  rw [Nat.zero_add, List.drop_zero] at he
  constructor
  · intro h
    have h3 : (reqS y).data.toList.take (reqS x).size = reqB x := by rw [← he, h, reqS_list m1]
    have h4 : reqB x ++ (reqB y).drop (reqS x).size = reqB y ++ [] := by
      rw [List.append_nil, ← h3, ← reqS_list m2, List.take_append_drop]
    exact (reqB_front m1 m2 h4).1
  · rintro rfl
    exact bytes_ext (by rw [he, ← size_list, List.take_length])
theorem apart_rep {x y : Rep} (h1 : repErr x = 0) (h2 : repErr y = 0) (hl : (repS x).size ≤ (repS y).size) : (repS y).extract 0 (repS x).size = repS x ↔ x = y := by
  have m1 := repErr_zero h1
  have m2 := repErr_zero h2
  have he := extract_data (repS y) 0 (repS x).size
  rw [Nat.zero_add, List.drop_zero] at he
  constructor
  · intro h
    have h3 : (repS y).data.toList.take (repS x).size = repB x := by rw [← he, h, repS_list m1]
    have h4 : repB x ++ (repB y).drop (repS x).size = repB y ++ [] := by
      rw [List.append_nil, ← h3, ← repS_list m2, List.take_append_drop]
    exact (repB_front m1 m2 h4).1
  · rintro rfl
    exact bytes_ext (by rw [he, ← size_list, List.take_length])
end Go.Proofs.Ytmnjlhifjjainaa
