/-
  A reply put: both sides.
-/
import Derived.Test.YtmnjlhifjjainaaFrRep2
import Derived.Test.YtmnjlhifjjainaaFrPutReqR
namespace Go.Proofs.Ytmnjlhifjjainaa
open Go.RowKit

def repErr (x : Rep) : Int := if mayRep x then 0 else 1
theorem lay3 (a b c : Int) : (layB [a, b, c]).length ≤ 15 := layB_len _
theorem hitsB_len (l : List Hit) : (hitsB l).length ≤ 10 * l.length := by
  induction l with
  | nil => simp [hitsB]
  | cons x xs ih =>
    have h1 := lay2 x.v x.d
    simp only [hitsB, hitB, List.flatMap_cons, List.length_append, List.length_cons] at ih ⊢
    omega
theorem repB_bad {x : Rep} (h : ¬ x.code = 0) : layB [x.id, x.code] = repB x := by unfold repB; rw [if_neg h, List.append_nil]
theorem repB_ok {x : Rep} {n : Nat} {f : Int} (h : x.code = 0) (hl : x.hits.length = n) (hf : f = b01 x.found) : layB [x.id, x.code] ++ layB [f, x.d, (n : Int)] ++ hitsB x.hits = repB x := by
  unfold repB; rw [if_pos h, hl, hf]; simp
theorem RowAt.below' {w w' : World} {a B : Nat} {xs : List Int} (h : RowAt w a xs) (hB : Below B w w') (hb : a < B) : RowAt w' a xs := (hB.block a hb).trans h
set_option maxRecDepth 100000 in
set_option maxHeartbeats 1000000 in
theorem putReply_c (x : Rep) (A : Option Addr) (n c : Nat) (w : World) (h1 : Reads w w.heap.size 2 A n (hv x.hits)) (hn : n ≤ maxLen) :
    Calls Try.prog 19 #[.agg #[.int .i64 x.id, .int .i64 x.code, .bool x.found, .int .i64 x.d, .slice A n c]] w fun e w' => e = .returned (.tuple #[.string (repS x), .int .i64 (repErr x)]) ∧ Below w.heap.size w w' := by
  have HR := Lib.hid h1
  have HL := Lib.hid h1.hit_len
  clear h1
  have HN := Lib.hid hn
  have hrb := Lib.hid (PAt.new w x A n c)
  have hBq := below_one w (.cells #[.int .i64 x.id, .int .i64 x.code, .bool x.found, .int .i64 x.d, .slice A n c] 40)
  by_cases hm : mayRep x
  · have e1 : repS x = ⟨(repB x).toArray⟩ := if_pos hm
    have e2 : repErr x = 0 := if_pos hm
    rw [e1, e2]
    clear e1 e2
    have hn1 : n ≤ 100 := by have := hm.2.2.2.1; have := HL.out; omega
    go_enter Try.func19, Try.ntmps19
    go_wp2_with (fail)
    refine (right_c x A n c _ ((HR.out.below hBq).more (by simp)) HN.out).mono ?_
    rintro e w2 ⟨rfl, hB2⟩
    rw [decide_eq_true hm]
    clear hm
    have hBB := hBq.trans (hB2.mono hBq.size)
    have hR2 := hrb.out.below hB2 (by simp)
    obtain ⟨xi, xc, xf, xd, xh⟩ := x
    simp only at HL HR hR2 ⊢
    have hlt := hR2.lt
    obtain ⟨c0, c1, c2, c3, c4⟩ := hR2.cells
    try simp only at c0 c1 c2 c3
    have HR2 := Lib.hid hR2
    have HB2 := Lib.hid hBB
    clear hR2 hBB hB2 hBq hrb
    go_wp2_with (fail)
    have hBA : Below w2.heap.size w2 ((w2.alloc (.cells #[.pointer none, .slice none 0 0] 65)).alloc (.cells #[.int .i64 xi, .int .i64 xc] 3)) := below_two _ _ _
    refine (put_c w2.heap.size w2.heap.size (w2.heap.size + 1) 2 [] [xi, xc] ((w2.alloc (.cells #[.pointer none, .slice none 0 0] 65)).alloc (.cells #[.int .i64 xi, .int .i64 xc] 3)) rfl (isB_below (isB_fresh w2) (below_one _ _)) (row_new1 w2 _ [xi, xc]) (by omega) (by simp) (by simp; omega)).mono ?_
    rintro e w3 ⟨rfl, hib3, hB3, hK3⟩
    have hBB := hBA.trans hB3
    have HP3 := Lib.hid (HR2.out.below hBB hlt)
    have HB3 := Lib.hid (HB2.out.trans (hBB.mono (Nat.le_of_lt hlt)))
    have hbs : w2.heap.size ≤ w3.heap.size := hBB.size
    rw [List.nil_append] at hib3
    clear c0 c1 c2 c3 c4 hBA hB3 hK3 hBB HR2 HB2
    generalize w2.heap.size = b at hib3 hlt hbs HP3 ⊢
    obtain ⟨c0, c1, c2, c3, c4⟩ := HP3.out.cells
    try simp only at c0 c1 c2 c3
    have HI3 := Lib.hid hib3
    clear hib3
    by_cases hc : xc = 0
    · subst hc
      rcases xf with _ | _
      · have HF := Lib.hid (repB_ok (x := ⟨xi, 0, false, xd, xh⟩) (n := n) (f := 0) rfl HL.out rfl)
        go_wp2_with (fail)
        have hB4 := below_one w3 (.cells #[.int .i64 0, .int .i64 xd, .int .i64 (n : Int)] 3)
        refine (put_c b b w3.heap.size 3 _ [0, xd, (n : Int)] _ rfl (isB_below HI3.out hB4) (row_new w3 [0, xd, (n : Int)]) (by omega) (by have := lay2 xi 0; omega) (by simp; omega)).mono ?_
        rintro e w4 ⟨rfl, hib4, hB5, hK5⟩
        have hBB4 := (hB4.mono hbs).trans hB5
        have HP4 := Lib.hid (HP3.out.below hBB4 hlt)
        have HB4 := Lib.hid (HB3.out.trans (hBB4.mono (Nat.le_of_lt hlt)))
        have hbs4 : b ≤ w4.heap.size := Nat.le_trans hbs hBB4.size
        have hlh : (layB [xi, 0] ++ layB [0, xd, (n : Int)]).length ≤ 25 := by
          have := lay2 xi 0
          have := lay3 0 xd (n : Int)
          rw [List.length_append]; omega
        try simp only at HF
        generalize layB [xi, 0] ++ layB [0, xd, (n : Int)] = L at hib4 HF hlh
        have HI4 := Lib.hid hib4
        clear c0 c1 c2 c3 c4 hB4 hB5 hK5 hBB4 hib4 HI3 HP3 HB3
        obtain ⟨c0, c1, c2, c3, c4⟩ := HP4.out.cells
        try simp only at c0 c1 c2 c3
        go_wp2_with (fail)
        go_loopw [38] (fun i wr => ∃ k : Nat, k ≤ n ∧ i = .int .i64 k ∧ IsB wr b b (L ++ hitsB (xh.take k)) ∧ Below w.heap.size w wr ∧ b ≤ wr.heap.size) (fun i _ => n - (intOf i).toNat)
        case atStart => exact ⟨0, Nat.zero_le _, rfl, by simpa [hitsB] using HI4.out, HB4.out, hbs4⟩
        case round =>
          clear HI4 HP4 HB4 hbs4 c0 c1 c2 c3 c4
          obtain ⟨k, hk, rfl, hib, hB, hbs⟩ := hrel
          by_cases hltk : k < n
          · obtain ⟨a1, o1, y, hA, hx, hc1, hc2⟩ := (HR.out.below hB).hit_at hltk
            subst hA
            obtain ⟨yv, yd⟩ := y
            simp only at hc1 hc2
            have HI := Lib.hid hib
            clear hib
            go_wp2_with (fail)
            have hB5 := below_two wr (.cells #[.int .i64 yv, .int .i64 yd] 88) (.cells #[.int .i64 yv, .int .i64 yd] 3)
            have hl1 : (L ++ hitsB (xh.take k)).length ≤ 100000000 := by
              have h3 := hitsB_len (xh.take k)
              have h4 : (xh.take k).length ≤ k := by rw [List.length_take]; omega
              rw [List.length_append]
              omega
            refine (put_c b b (wr.heap.size + 1) 2 _ [yv, yd] _ rfl (isB_below HI.out hB5) (row_new1 wr (.cells #[.int .i64 yv, .int .i64 yd] 88) [yv, yd]) (by omega) hl1 (by simp; omega)).mono ?_
            rintro e w6 ⟨rfl, hib6, hB6, -⟩
            have hBB := hB.trans (((hB5.mono hbs).trans hB6).mono (Nat.le_of_lt hlt))
            have hbs6 : b ≤ w6.heap.size := by have := hB6.size; simp at this; omega
            clear hB5 hB6 hl1 hc1 hc2 hB
            go_wp2_with (fail)
            go_roundw
            case rel =>
              refine ⟨k + 1, by omega, by go_num, ?_, hBB, hbs6⟩
              rw [List.take_add_one, hx.out, Option.toList_some, hitsB_snoc, ← List.append_assoc]
              exact hib6
            case measure => simp [intOf] <;> omega
          · obtain rfl : k = n := by omega
            rw [List.take_of_length_le (by rw [HL.out]; exact Nat.le_refl _), HF.out] at hib
            go_wp2_with (fail)
            refine (builderString_c b b _ _ hib hbs).mono ?_
            rintro e w5 ⟨rfl, hB6⟩
            go_wp2_with (fail)
            go_ret2
            exact ⟨rfl, hB.trans (hB6.mono (Nat.le_of_lt hlt))⟩
      · have HF := Lib.hid (repB_ok (x := ⟨xi, 0, true, xd, xh⟩) (n := n) (f := 1) rfl HL.out rfl)
        go_wp2_with (fail)
        have hB4 := below_one w3 (.cells #[.int .i64 1, .int .i64 xd, .int .i64 (n : Int)] 3)
        refine (put_c b b w3.heap.size 3 _ [1, xd, (n : Int)] _ rfl (isB_below HI3.out hB4) (row_new w3 [1, xd, (n : Int)]) (by omega) (by have := lay2 xi 0; omega) (by simp; omega)).mono ?_
        rintro e w4 ⟨rfl, hib4, hB5, hK5⟩
        have hBB4 := (hB4.mono hbs).trans hB5
        have HP4 := Lib.hid (HP3.out.below hBB4 hlt)
        have HB4 := Lib.hid (HB3.out.trans (hBB4.mono (Nat.le_of_lt hlt)))
        have hbs4 : b ≤ w4.heap.size := Nat.le_trans hbs hBB4.size
        have hlh : (layB [xi, 0] ++ layB [1, xd, (n : Int)]).length ≤ 25 := by
          have := lay2 xi 0
          have := lay3 1 xd (n : Int)
          rw [List.length_append]; omega
        try simp only at HF
        generalize layB [xi, 0] ++ layB [1, xd, (n : Int)] = L at hib4 HF hlh
        have HI4 := Lib.hid hib4
        clear c0 c1 c2 c3 c4 hB4 hB5 hK5 hBB4 hib4 HI3 HP3 HB3
        obtain ⟨c0, c1, c2, c3, c4⟩ := HP4.out.cells
        try simp only at c0 c1 c2 c3
        go_wp2_with (fail)
        go_loopw [38] (fun i wr => ∃ k : Nat, k ≤ n ∧ i = .int .i64 k ∧ IsB wr b b (L ++ hitsB (xh.take k)) ∧ Below w.heap.size w wr ∧ b ≤ wr.heap.size) (fun i _ => n - (intOf i).toNat)
        case atStart => exact ⟨0, Nat.zero_le _, rfl, by simpa [hitsB] using HI4.out, HB4.out, hbs4⟩
        case round =>
          clear HI4 HP4 HB4 hbs4 c0 c1 c2 c3 c4
          obtain ⟨k, hk, rfl, hib, hB, hbs⟩ := hrel
          by_cases hltk : k < n
          · obtain ⟨a1, o1, y, hA, hx, hc1, hc2⟩ := (HR.out.below hB).hit_at hltk
            subst hA
            obtain ⟨yv, yd⟩ := y
            simp only at hc1 hc2
            have HI := Lib.hid hib
            clear hib
            go_wp2_with (fail)
            have hB5 := below_two wr (.cells #[.int .i64 yv, .int .i64 yd] 88) (.cells #[.int .i64 yv, .int .i64 yd] 3)
            have hl1 : (L ++ hitsB (xh.take k)).length ≤ 100000000 := by
              have h3 := hitsB_len (xh.take k)
              have h4 : (xh.take k).length ≤ k := by rw [List.length_take]; omega
              rw [List.length_append]
              omega
            refine (put_c b b (wr.heap.size + 1) 2 _ [yv, yd] _ rfl (isB_below HI.out hB5) (row_new1 wr (.cells #[.int .i64 yv, .int .i64 yd] 88) [yv, yd]) (by omega) hl1 (by simp; omega)).mono ?_
            rintro e w6 ⟨rfl, hib6, hB6, -⟩
            have hBB := hB.trans (((hB5.mono hbs).trans hB6).mono (Nat.le_of_lt hlt))
            have hbs6 : b ≤ w6.heap.size := by have := hB6.size; simp at this; omega
            clear hB5 hB6 hl1 hc1 hc2 hB
            go_wp2_with (fail)
            go_roundw
            case rel =>
              refine ⟨k + 1, by omega, by go_num, ?_, hBB, hbs6⟩
              rw [List.take_add_one, hx.out, Option.toList_some, hitsB_snoc, ← List.append_assoc]
              exact hib6
            case measure => simp [intOf] <;> omega
          · obtain rfl : k = n := by omega
            rw [List.take_of_length_le (by rw [HL.out]; exact Nat.le_refl _), HF.out] at hib
            go_wp2_with (fail)
            refine (builderString_c b b _ _ hib hbs).mono ?_
            rintro e w5 ⟨rfl, hB6⟩
            go_wp2_with (fail)
            go_ret2
            exact ⟨rfl, hB.trans (hB6.mono (Nat.le_of_lt hlt))⟩
    · have HF := Lib.hid (repB_bad (x := ⟨xi, xc, xf, xd, xh⟩) hc)
      have hcb : (xc != 0) = true := by simpa using hc
      clear hc
      have hib3 := HI3.out
      try simp only at HF
      rw [HF.out] at hib3
      go_wp2_with (fail)
      refine (builderString_c b b _ _ hib3 hbs).mono ?_
      rintro e w4 ⟨rfl, hB4⟩
      go_wp2_with (fail)
      go_ret2
      exact ⟨rfl, HB3.out.trans (hB4.mono (Nat.le_of_lt hlt))⟩
  · have e1 : repS x = ⟨#[]⟩ := if_neg hm
    have e2 : repErr x = 1 := if_neg hm
    rw [e1, e2]
    clear e1 e2
    go_enter Try.func19, Try.ntmps19
    go_wp2_with (fail)
    refine (right_c x A n c _ ((HR.out.below hBq).more (by simp)) HN.out).mono ?_
    rintro e w2 ⟨rfl, hB2⟩
    rw [decide_eq_false hm]
    clear hm
    go_wp2_with (fail)
    go_ret2
    exact ⟨rfl, hBq.trans (hB2.mono hBq.size)⟩
end Go.Proofs.Ytmnjlhifjjainaa
