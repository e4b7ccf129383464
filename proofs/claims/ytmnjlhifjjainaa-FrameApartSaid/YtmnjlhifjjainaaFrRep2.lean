/-
  May a reply be: the reference.
-/
import Derived.Test.YtmnjlhifjjainaaFrRep1
namespace Go.Proofs.Ytmnjlhifjjainaa
open Go.RowKit

def PAt (w : World) (b : Nat) (x : Rep) (A : Option Addr) (n c : Nat) : Prop :=
  w.heap[b]? = some (.cells #[.int .i64 x.id, .int .i64 x.code, .bool x.found, .int .i64 x.d, .slice A n c] 40 (0, 0))
def AAt (w : World) (b : Nat) (f : Bool) (d : Int) (A : Option Addr) (n c : Nat) : Prop :=
  w.heap[b]? = some (.cells #[.bool f, .int .i64 d, .slice A n c] 38 (0, 0))
section
variable {w w' : World} {b g B n c : Nat} {x : Rep} {A : Option Addr} {f : Bool} {d : Int}
theorem PAt.new (w : World) (x : Rep) (A : Option Addr) (n c : Nat) : PAt (w.alloc (.cells #[.int .i64 x.id, .int .i64 x.code, .bool x.found, .int .i64 x.d, .slice A n c] 40)) w.heap.size x A n c := Array.getElem?_push_size
theorem PAt.lt (h : PAt w b x A n c) : b < w.heap.size := (Array.getElem?_eq_some_iff.1 h).1
theorem PAt.below (h : PAt w b x A n c) (hB : Below B w w') (hb : b < B) : PAt w' b x A n c := (hB.block b hb).trans h
theorem PAt.grown (h : PAt w b x A n c) (hg : w.grownBy w' (some g)) (hne : b ≠ g) : PAt w' b x A n c := (hg.block b h.lt (fun e => hne (by injection e))).trans h
theorem PAt.frozen (h : PAt w b x A n c) (k : Nat) : w.frozen? ⟨b, k, none⟩ = false := Lib.frozen_of_heap h k
theorem PAt.drew (h : PAt w b x A n c) : PAt w.drew b x A n c := h
theorem PAt.cells (h : PAt w b x A n c) : w.cell? ⟨b, 0, none⟩ = some (.int .i64 x.id) ∧ w.cell? ⟨b, 1, none⟩ = some (.int .i64 x.code) ∧ w.cell? ⟨b, 2, none⟩ = some (.bool x.found) ∧ w.cell? ⟨b, 3, none⟩ = some (.int .i64 x.d) ∧ w.cell? ⟨b, 4, none⟩ = some (.slice A n c) := by
  unfold PAt at h
  refine ⟨?_, ?_, ?_, ?_, ?_⟩ <;> · rw [Lib.cell_of_heap h]; rfl
theorem AAt.new (w : World) (f : Bool) (d : Int) (A : Option Addr) (n c : Nat) : AAt (w.alloc (.cells #[.bool f, .int .i64 d, .slice A n c] 38)) w.heap.size f d A n c := Array.getElem?_push_size
theorem AAt.lt (h : AAt w b f d A n c) : b < w.heap.size := (Array.getElem?_eq_some_iff.1 h).1
theorem AAt.below (h : AAt w b f d A n c) (hB : Below B w w') (hb : b < B) : AAt w' b f d A n c := (hB.block b hb).trans h
theorem AAt.cells (h : AAt w b f d A n c) : w.cell? ⟨b, 0, none⟩ = some (.bool f) ∧ w.cell? ⟨b, 1, none⟩ = some (.int .i64 d) ∧ w.cell? ⟨b, 2, none⟩ = some (.slice A n c) := by
  unfold AAt at h
  refine ⟨?_, ?_, ?_⟩ <;> · rw [Lib.cell_of_heap h]; rfl
end
set_option maxRecDepth 100000 in
set_option maxHeartbeats 800000 in
theorem reply_c (x : Rep) (A : Option Addr) (n c : Nat) (w : World) (h1 : Reads w w.heap.size 2 A n (hv x.hits)) (hn : n ≤ maxLen) :
    Calls Try.prog 53 #[.agg #[.int .i64 x.id, .int .i64 x.code, .bool x.found, .int .i64 x.d, .slice A n c]] w fun e w' => e = .returned (.bool (decide (mayRep x))) ∧ Below w.heap.size w w' := by
  have HL := Lib.hid h1.hit_len
  have HR := Lib.hid h1
  have HN := Lib.hid hn
  clear h1
  unfold maxLen at hn
  have hBq := below_two w (.cells #[.int .i64 x.id, .int .i64 x.code, .bool x.found, .int .i64 x.d, .slice A n c] 40) (.cells #[.bool x.found, .int .i64 x.d, .slice A n c] 38)
  have hP1 := Lib.hid ((PAt.new w x A n c).below (below_one _ (.cells #[.bool x.found, .int .i64 x.d, .slice A n c] 38)) (PAt.new w x A n c).lt)
  have hA1 := AAt.new (w.alloc (.cells #[.int .i64 x.id, .int .i64 x.code, .bool x.found, .int .i64 x.d, .slice A n c] 40)) x.found x.d A n c
  rw [World.size_alloc] at hA1
  have hA1 := Lib.hid hA1
  obtain ⟨xi, xc, xf, xd, xh⟩ := x
  simp only at HL HR hBq hP1 hA1 ⊢
  obtain ⟨g, hg⟩ : ∃ g, decide (good xi) = g := ⟨_, rfl⟩
  have HG := Lib.hid hg
  clear hg
  go_enter Try.func53, Try.ntmps53
  go_wp2_with (fail)
  refine (refNum_c xi _).mono ?_
  rintro e w2 ⟨rfl, hB2⟩
  rw [HG.out]
  have hBB := hBq.trans (hB2.mono hBq.size)
  have hP := Lib.hid (hP1.out.below hB2 (by simp; omega))
  have hA := Lib.hid (hA1.out.below hB2 (by simp))
  clear hP1 hA1 hB2 hBq
  obtain ⟨p0, p1, p2, p3, p4⟩ := hP.out.cells
  obtain ⟨a0, a1, a2⟩ := hA.out.cells
  simp only at p0 p1 p2 p3
  rcases g with _ | _
  · have H : Hid (¬ mayRep ⟨xi, xc, xf, xd, xh⟩) := fun h => absurd h.1 (of_decide_eq_false (p := good xi) HG.out)
    go_wp2_with (fail)
    go_ret
    exact ⟨ret_bool (decide_eq_false H.out).symm, hBB⟩
  have HGG : Hid (good xi) := of_decide_eq_true (p := good xi) HG.out
  by_cases hr : (0 ≤ xc ∧ xc ≤ 1000) ∧ (0 ≤ xd ∧ xd ≤ 400) ∧ n ≤ 100
  rotate_left
  · have H := Lib.hid (fun h : mayRep ⟨xi, xc, xf, xd, xh⟩ => hr ⟨h.2.1, h.2.2.1, by have := h.2.2.2.1; have := HL.out; simp only at *; omega⟩)
    have hor : xc < 0 ∨ (¬ xc < 0 ∧ 1000 < xc) ∨ (¬ xc < 0 ∧ ¬ 1000 < xc ∧ xd < 0) ∨ (¬ xc < 0 ∧ ¬ 1000 < xc ∧ ¬ xd < 0 ∧ 400 < xd) ∨ (¬ xc < 0 ∧ ¬ 1000 < xc ∧ ¬ xd < 0 ∧ ¬ 400 < xd ∧ 100 < (n : Int)) := by omega
    clear hr
    rcases hor with o1 | ⟨o1, o2⟩ | ⟨o1, o2, o3⟩ | ⟨o1, o2, o3, o4⟩ | ⟨o1, o2, o3, o4, o5⟩
    all_goals
      go_wp2_with (fail)
      go_ret
      exact ⟨ret_bool (decide_eq_false H.out).symm, hBB⟩
  obtain ⟨⟨r1, r2⟩, ⟨r3, r4⟩, r5⟩ := hr
  have HRC : Hid (0 ≤ xc ∧ xc ≤ 1000) := ⟨r1, r2⟩
  have HRD : Hid (0 ≤ xd ∧ xd ≤ 400) := ⟨r3, r4⟩
  have HR5 := Lib.hid r5
  have o1 : ¬ xc < 0 := by omega
  have o2 : ¬ 1000 < xc := by omega
  have o3 : ¬ xd < 0 := by omega
  have o4 : ¬ 400 < xd := by omega
  have o5 : ¬ 100 < (n : Int) := by omega
  clear r1 r2 r3 r4 r5
  by_cases hc : xc = 0
  rotate_left
  · have HI := Lib.hid (mayRep_low (x := ⟨xi, xc, xf, xd, xh⟩) HL.out HGG.out HRC.out (.inl hc))
    have hcb : (xc != 0) = true := by simpa using hc
    clear hc
    go_wp2_with (fail)
    refine (sameAnswer_c xf false xd 0 xh [] A none n 0 c 0 _ ((HR.out.below hBB).more hBB.size) Reads.none_ HN.out (by simp [maxLen])).mono ?_
    rintro e w3 ⟨rfl, hB3⟩
    have hBC := hBB.trans (hB3.mono hBB.size)
    have hA3 := Lib.hid (hA.out.below hB3 hA.out.lt)
    have hP3 := Lib.hid (hP.out.below hB3 hP.out.lt)
    clear hB3 hBB hA hP p0 p1 p2 p3 p4 a0 a1 a2
    have hA := hA3
    clear hA3
    obtain ⟨p0, p1, p2, p3, p4⟩ := hP3.out.cells
    obtain ⟨a0, a1, a2⟩ := hA.out.cells
    simp only at p0 p1 p2 p3
    by_cases hs : xf = false ∧ xd = 0 ∧ xh = []
    · rw [decide_eq_true hs]
      obtain ⟨rfl, rfl, rfl⟩ := hs
      have hn0 : n = 0 := HL.out.symm
      subst hn0
      have HI2 : Hid (mayRep ⟨xi, xc, false, 0, []⟩ ↔ allHits []) := ⟨fun _ h hh => by simp at hh, fun _ => HI.out.2 ⟨rfl, rfl, rfl⟩⟩
      clear HI
      have HI := HI2
      clear HI2 hP3
      go_wp2_with (fail)
      go_loopw [4] (fun i wr => ∃ k : Nat, k ≤ 0 ∧ i = .int .i64 k ∧ Hid (allHits (([] : List Hit).take k)) ∧ Hid (AAt wr (w.heap.size + 1) false 0 A 0 c) ∧ Below w.heap.size w wr) (fun i _ => 0 - (intOf i).toNat)
      case atStart => exact ⟨0, Nat.zero_le _, rfl, fun c hc => by simp at hc, hA, hBC⟩
      case round =>
        try clear a0 a1 a2 p0 p1 p2 p3 p4
        clear hA hBC
        obtain ⟨k, hk, rfl, ha, hA, hB⟩ := hrel
        obtain ⟨a0, a1, a2⟩ := hA.out.cells
        by_cases hlt : k < 0
        · exact absurd hlt (by omega)
        · obtain rfl : k = 0 := by omega
          have H : Hid (mayRep ⟨xi, xc, false, 0, []⟩) := HI.out.2 (by
            have := ha.out
            rw [List.take_of_length_le (by have := HL.out; omega)] at this
            exact this)
          go_wp2_with (fail)
          go_ret
          exact ⟨ret_bool (decide_eq_true H.out).symm, hB⟩
    · rw [decide_eq_false hs]
      have H := Lib.hid (fun h : mayRep ⟨xi, xc, xf, xd, xh⟩ => hs (by
        obtain ⟨h1, h2, h3⟩ := HI.out.1 h
        exact ⟨h1, h2, List.length_eq_zero_iff.1 (by rw [HL.out]; exact h3)⟩))
      clear hs
      go_wp2_with (fail)
      go_ret
      exact ⟨ret_bool (decide_eq_false H.out).symm, hBC⟩
  subst hc
  have hgn : (0 : Int) ≤ n := by omega
  obtain ⟨dz, hdz⟩ : ∃ g, (xd != 0) = g := ⟨_, rfl⟩
  rcases xf with _ | _
  · have HI := Lib.hid (mayRep_low (x := ⟨xi, 0, false, xd, xh⟩) HL.out HGG.out HRC.out (.inr rfl))
    rcases dz with _ | _
    · by_cases hnp : 0 < (n : Int)
      · have H : Hid (¬ mayRep ⟨xi, 0, false, xd, xh⟩) := fun h => by have := (HI.out.1 h).2.2; omega
        clear HI
        go_wp2_with (fail)
        go_ret
        exact ⟨ret_bool (decide_eq_false H.out).symm, hBB⟩
      · have hn0 : n = 0 := by omega
        subst hn0
        have hd0 : xd = 0 := by simpa using hdz
        subst hd0
        have HI2 : Hid (mayRep ⟨xi, 0, false, 0, xh⟩ ↔ allHits xh) := ⟨fun h => h.2.2.2.2.2.2.2, fun _ => HI.out.2 ⟨rfl, rfl, rfl⟩⟩
        clear HI
        have HI := HI2
        clear HI2
        go_wp2_with (fail)
        go_loopw [4] (fun i wr => ∃ k : Nat, k ≤ 0 ∧ i = .int .i64 k ∧ Hid (allHits (xh.take k)) ∧ Hid (AAt wr (w.heap.size + 1) false 0 A 0 c) ∧ Below w.heap.size w wr) (fun i _ => 0 - (intOf i).toNat)
        case atStart => exact ⟨0, Nat.zero_le _, rfl, fun c hc => by simp at hc, hA, hBB⟩
        case round =>
          try clear a0 a1 a2 p0 p1 p2 p3 p4
          clear hA hBB
          obtain ⟨k, hk, rfl, ha, hA, hB⟩ := hrel
          obtain ⟨a0, a1, a2⟩ := hA.out.cells
          by_cases hlt : k < 0
          · exact absurd hlt (by omega)
          · obtain rfl : k = 0 := by omega
            have H : Hid (mayRep ⟨xi, 0, false, 0, xh⟩) := HI.out.2 (by
              have := ha.out
              rw [List.take_of_length_le (by have := HL.out; omega)] at this
              exact this)
            go_wp2_with (fail)
            go_ret
            exact ⟨ret_bool (decide_eq_true H.out).symm, hB⟩
    · have H : Hid (¬ mayRep ⟨xi, 0, false, xd, xh⟩) := (fun h => by
        have h1 := (HI.out.1 h).2.1
        simp only at h1
        rw [h1] at hdz
        cases hdz)
      clear HI
      go_wp2_with (fail)
      go_ret
      exact ⟨ret_bool (decide_eq_false H.out).symm, hBB⟩
  · have HI := Lib.hid (mayRep_high (x := ⟨xi, 0, true, xd, xh⟩) HL.out HGG.out rfl rfl)
    by_cases hnp : 0 < (n : Int)
    · rcases dz with _ | _
      · have HI2 : Hid (mayRep ⟨xi, 0, true, xd, xh⟩ ↔ allHits xh) := ⟨fun h => (HI.out.1 h).2.2.2, fun h => HI.out.2 ⟨HRD.out, HR5.out, .inl (by simpa using hdz), h⟩⟩
        clear HI
        have HI := HI2
        clear HI2
        go_wp2_with (fail)
        go_loopw [4] (fun i wr => ∃ k : Nat, k ≤ n ∧ i = .int .i64 k ∧ Hid (allHits (xh.take k)) ∧ Hid (AAt wr (w.heap.size + 1) true xd A n c) ∧ Below w.heap.size w wr) (fun i _ => n - (intOf i).toNat)
        case atStart => exact ⟨0, Nat.zero_le _, rfl, fun c hc => by simp at hc, hA, hBB⟩
        case round =>
          try clear a0 a1 a2 p0 p1 p2 p3 p4
          clear hA hBB
          obtain ⟨k, hk, rfl, ha, hA, hB⟩ := hrel
          obtain ⟨a0, a1, a2⟩ := hA.out.cells
          by_cases hlt : k < n
          · obtain ⟨b1, o1, y, hAy, hx, hc1, hc2⟩ := (HR.out.below hB).hit_at hlt
            subst hAy
            obtain ⟨yv, yd⟩ := y
            simp only at hc1 hc2
            have hB3 := hB.alloc hB.size (.cells #[.int .i64 yv, .int .i64 yd] 88)
            by_cases hok : okHit ⟨yv, yd⟩
            · have H := Lib.hid (allHits_more ha.out hx.out hok)
              have hA3 := Lib.hid (hA.out.below (below_one wr (.cells #[.int .i64 yv, .int .i64 yd] 88)) hA.out.lt)
              obtain ⟨⟨v1, v2⟩, v3, v4⟩ := hok
              simp only at v1 v2 v3 v4
              have u1 : ¬ yv < 0 := by omega
              have u2 : ¬ 200 ≤ yv := by omega
              have u3 : ¬ yd < 0 := by omega
              have u4 : ¬ 200 < yd := by omega
              go_wp2_with (fail)
              go_roundw
              case rel => exact ⟨k + 1, by omega, by go_num, H.out, hA3, hB3⟩
              case measure => simp [intOf] <;> omega
            · have H := Lib.hid (fun h : mayRep ⟨xi, 0, true, xd, xh⟩ => not_allHits hx.out hok (HI.out.1 h))
              have hor : yv < 0 ∨ (¬ yv < 0 ∧ 200 ≤ yv) ∨ (¬ yv < 0 ∧ ¬ 200 ≤ yv ∧ yd < 0) ∨ (¬ yv < 0 ∧ ¬ 200 ≤ yv ∧ ¬ yd < 0 ∧ 200 < yd) := by unfold okHit at hok; simp only at hok; omega
              clear hok
              rcases hor with o1 | ⟨o1, o2⟩ | ⟨o1, o2, o3⟩ | ⟨o1, o2, o3, o4⟩
              all_goals
                go_wp2_with (fail)
                go_ret
                exact ⟨ret_bool (decide_eq_false H.out).symm, hB3⟩
          · obtain rfl : k = n := by omega
            have H : Hid (mayRep ⟨xi, 0, true, xd, xh⟩) := HI.out.2 (by
              have := ha.out
              rw [List.take_of_length_le (by have := HL.out; omega)] at this
              exact this)
            go_wp2_with (fail)
            go_ret
            exact ⟨ret_bool (decide_eq_true H.out).symm, hB⟩
      · have H : Hid (¬ mayRep ⟨xi, 0, true, xd, xh⟩) := (fun h => by
          have h1 := (HI.out.1 h).2.2.1
          simp only at h1
          rcases h1 with h1 | h1
          · rw [h1] at hdz; cases hdz
          · omega)
        clear HI
        go_wp2_with (fail)
        go_ret
        exact ⟨ret_bool (decide_eq_false H.out).symm, hBB⟩
    · have hn0 : n = 0 := by omega
      have HI2 : Hid (mayRep ⟨xi, 0, true, xd, xh⟩ ↔ allHits xh) := ⟨fun h => (HI.out.1 h).2.2.2, fun h => HI.out.2 ⟨HRD.out, HR5.out, .inr hn0, h⟩⟩
      clear HI
      have HI := HI2
      clear HI2 hn0
      go_wp2_with (fail)
      go_loopw [4] (fun i wr => ∃ k : Nat, k ≤ n ∧ i = .int .i64 k ∧ Hid (allHits (xh.take k)) ∧ Hid (AAt wr (w.heap.size + 1) true xd A n c) ∧ Below w.heap.size w wr) (fun i _ => n - (intOf i).toNat)
      case atStart => exact ⟨0, Nat.zero_le _, rfl, fun c hc => by simp at hc, hA, hBB⟩
      case round =>
        try clear a0 a1 a2 p0 p1 p2 p3 p4
        clear hA hBB
        obtain ⟨k, hk, rfl, ha, hA, hB⟩ := hrel
        obtain ⟨a0, a1, a2⟩ := hA.out.cells
        by_cases hlt : k < n
        · exact absurd hlt (by omega)
        · obtain rfl : k = n := by omega
          have H : Hid (mayRep ⟨xi, 0, true, xd, xh⟩) := HI.out.2 (by
            have := ha.out
            rw [List.take_of_length_le (by have := HL.out; omega)] at this
            exact this)
          clear hnp
          go_wp2_with (fail)
          go_ret
          exact ⟨ret_bool (decide_eq_true H.out).symm, hB⟩
end Go.Proofs.Ytmnjlhifjjainaa
