/-
  The program reads a reply: the part, and words for the box of a reply.
-/
import Derived.Test.YtmnjlhifjjainaaFrGets
import Derived.Test.YtmnjlhifjjainaaFrPutRepR
namespace Go.Proofs.Ytmnjlhifjjainaa
open Go.RowKit

def noP : Rep := ⟨0, 0, false, 0, []⟩
def rdRep2 (s : ByteArray) : Option (Rep × Nat) :=
  match rdAt s 0 with
  | some (i, p1) => (match rdAt s p1 with
    | some (k, p2) => if (k : Int) ≤ 1000 then (if (k : Int) = 0 then (match rdAt s p2 with
      | some (f, p3) => if (f : Int) ≤ 1 then (match rdAt s p3 with
        | some (d, p4) => (match rdAt s p4 with
          | some (n, p5) => if (n : Int) ≤ 100 then (match rdHits s n p5 with
            | some (l, p6) => some (⟨i, 0, decide ((f : Int) = 1), d, l⟩, p6)
            | none => none) else none
          | none => none)
        | none => none) else none
      | none => none) else some (⟨i, k, false, 0, []⟩, p2)) else none
    | none => none)
  | none => none
theorem rdInts3_none {s : ByteArray} {q : Nat} (h : rdAt s q = none) : rdInts s 3 q = none := by simp [rdInts, h]
theorem rdInts3_none2 {s : ByteArray} {q x p : Nat} (h : rdAt s q = some (x, p)) (h2 : rdAt s p = none) : rdInts s 3 q = none := by simp [rdInts, h, h2]
theorem rdInts3_none3 {s : ByteArray} {q x p y p2 : Nat} (h : rdAt s q = some (x, p)) (h2 : rdAt s p = some (y, p2)) (h3 : rdAt s p2 = none) : rdInts s 3 q = none := by simp [rdInts, h, h2, h3]
theorem rdInts3_some {s : ByteArray} {q x p y p2 z p3 : Nat} (h : rdAt s q = some (x, p)) (h2 : rdAt s p = some (y, p2)) (h3 : rdAt s p2 = some (z, p3)) : rdInts s 3 q = some ([(x : Int), (y : Int), (z : Int)], p3) := by simp [rdInts, h, h2, h3]
theorem rdRep_eq (s : ByteArray) : rdRep s = rdRep2 s := by
  unfold rdRep rdRep2
  rcases h1 : rdAt s 0 with _ | ⟨i, p1⟩
  · rw [rdInts2_none (q := 0) h1]
  rcases h2 : rdAt s p1 with _ | ⟨k, p2⟩
  · rw [rdInts2_none2 (q := 0) h1 h2]
    simp only [h2]
  rw [rdInts2_some (q := 0) h1 h2]
  simp only [h2]
  have g0 : [(i : Int), (k : Int)].getD 0 0 = (i : Int) := rfl
  have g1 : [(i : Int), (k : Int)].getD 1 0 = (k : Int) := rfl
  simp only [g0, g1]
  by_cases h4 : (k : Int) ≤ 1000
  · rw [if_pos h4, if_pos h4]
    by_cases h5 : (k : Int) = 0
    · rw [if_pos h5, if_pos h5]
      rcases h6 : rdAt s p2 with _ | ⟨f, p3⟩
      · rw [rdInts3_none h6]
      rcases h7 : rdAt s p3 with _ | ⟨d, p4⟩
      · rw [rdInts3_none2 h6 h7]
        simp only [h7]
        by_cases h : (f : Int) ≤ 1
        · rw [if_pos h]
        · rw [if_neg h]
      rcases h8 : rdAt s p4 with _ | ⟨n, p5⟩
      · rw [rdInts3_none3 h6 h7 h8]
        simp only [h7, h8]
        by_cases h : (f : Int) ≤ 1
        · rw [if_pos h]
        · rw [if_neg h]
      rw [rdInts3_some h6 h7 h8]
      simp only [h7, h8]
      have k0 : [(f : Int), (d : Int), (n : Int)].getD 0 0 = (f : Int) := rfl
      have k1 : [(f : Int), (d : Int), (n : Int)].getD 1 0 = (d : Int) := rfl
      have k2 : [(f : Int), (d : Int), (n : Int)].getD 2 0 = (n : Int) := rfl
      simp only [k0, k1, k2]
      by_cases h : (f : Int) ≤ 1
      · rw [if_pos h]
        by_cases h' : (n : Int) ≤ 100
        · rw [if_pos ⟨h, h'⟩, if_pos h', Int.toNat_natCast]
          rcases rdHits s n p5 with _ | ⟨l, p6⟩ <;> rfl
        · rw [if_neg (fun e => h' e.2), if_neg h']
      · rw [if_neg h, if_neg (fun e => h e.1)]
    · rw [if_neg h5, if_neg h5]
  · rw [if_neg h4, if_neg h4]

section
variable {w w' : World} {b g n c : Nat} {x : Rep} {A : Option Addr}
theorem PAt.set0 (h : PAt w b x A n c) (v : Int) : PAt (w.setCell ⟨b, 0, none⟩ (.int .i64 v)) b { x with id := v } A n c := by
  have := heap_setCell_same w b 0 _ _ (.int .i64 v) h
  unfold PAt
  simpa using this
theorem PAt.set1 (h : PAt w b x A n c) (v : Int) : PAt (w.setCell ⟨b, 1, none⟩ (.int .i64 v)) b { x with code := v } A n c := by
  have := heap_setCell_same w b 1 _ _ (.int .i64 v) h
  unfold PAt
  simpa using this
theorem PAt.set2 (h : PAt w b x A n c) (v : Bool) : PAt (w.setCell ⟨b, 2, none⟩ (.bool v)) b { x with found := v } A n c := by
  have := heap_setCell_same w b 2 _ _ (.bool v) h
  unfold PAt
  simpa using this
theorem PAt.set3 (h : PAt w b x A n c) (v : Int) : PAt (w.setCell ⟨b, 3, none⟩ (.int .i64 v)) b { x with d := v } A n c := by
  have := heap_setCell_same w b 3 _ _ (.int .i64 v) h
  unfold PAt
  simpa using this
theorem PAt.set4 (h : PAt w b x A n c) (l : List Hit) (A2 : Option Addr) (n2 c2 : Nat) : PAt (w.setCell ⟨b, 4, none⟩ (.slice A2 n2 c2)) b { x with hits := l } A2 n2 c2 := by
  have := heap_setCell_same w b 4 _ _ (.slice A2 n2 c2) h
  unfold PAt
  simpa using this
end
def putP (w : World) (o : Nat) (x : Rep) (A : Option Addr) (n c : Nat) : World :=
  ((((w.setCell ⟨o, 0, none⟩ (.int .i64 x.id)).setCell ⟨o, 1, none⟩ (.int .i64 x.code)).setCell ⟨o, 2, none⟩ (.bool x.found)).setCell ⟨o, 3, none⟩ (.int .i64 x.d)).setCell ⟨o, 4, none⟩ (.slice A n c)
theorem putP_at {w : World} {o : Nat} {x0 : Rep} {A0 : Option Addr} {n0 c0 : Nat} (h : PAt w o x0 A0 n0 c0) (x : Rep) (A : Option Addr) (n c : Nat) : PAt (putP w o x A n c) o x A n c := by
  have h0 := h.set0 x.id
  have h1 := h0.set1 x.code
  have h2 := h1.set2 x.found
  have h3 := h2.set3 x.d
  have h4 := h3.set4 x.hits A n c
  unfold putP
  exact h4
theorem putP_grown (w : World) (o : Nat) (x : Rep) (A : Option Addr) (n c : Nat) : w.grownBy (putP w o x A n c) (some o) := by
  unfold putP
  exact only_setCellS (only_setCellS (only_setCellS (only_setCellS (only_setCellS (only_refl w _) _ _) _ _) _ _) _ _) _ _
theorem putP_only {a w : World} {g : Nat} (h : a.grownBy w (some g)) {o : Nat} (ho : a.heap.size ≤ o) (x : Rep) (A : Option Addr) (n c : Nat) : a.grownBy (putP w o x A n c) (some g) := by
  unfold putP
  exact only_setCell' (only_setCell' (only_setCell' (only_setCell' (only_setCell' h ho _) ho _) ho _) ho _) ho _
theorem putP_below {a w : World} {B : Nat} (h : Below B a w) {o : Nat} (ho : B ≤ o) (x : Rep) (A : Option Addr) (n c : Nat) : Below B a (putP w o x A n c) := by
  unfold putP
  exact ((((h.setCell ho _).setCell ho _).setCell ho _).setCell ho _).setCell ho _

/-- A reply that may be, and is read. -/
def rdMayP (s : ByteArray) : Option (Rep × Nat) := match rdRep2 s with | some (x, p) => if mayRep x then some (x, p) else none | none => none
def PDone (w w' : World) (b : Nat) (s : ByteArray) (e : Ending) : Option (Rep × Nat) → Prop
  | some (x, p) => ∃ A c, e = .returned (.agg #[.int .i64 x.id, .int .i64 x.code, .bool x.found, .int .i64 x.d, .slice A x.hits.length c]) ∧ RfAt w' b s p ∧ w'.ownsRow w.heap.size 88 2 (.slice A x.hits.length c) x.hits.length (hv x.hits) ∧ w.grownBy w' (some b)
  | none => e = thrown ∧ w.grownBy w' (some b)
theorem reply_end {a : Act} {w w5 : World} {b p' o c : Nat} {s : ByteArray} {x : Rep} {A : Option Addr} (ht : a.tmps.getD 2 undef = .pointer (some ⟨o, 0, none⟩)) (hd : a.defers = [])
    (hQ : PAt w5 o x A x.hits.length c) (H : rdMayP s = some (x, p')) (hr : RfAt w5 b s p') (ho : w5.ownsRow w.heap.size 88 2 (.slice A x.hits.length c) x.hits.length (hv x.hits)) (hG : w.grownBy w5 (some b)) :
    bodyPost Try.prog Try.f55 (fun e w' => PDone w w' b s e (rdMayP s)) Exit.ret a w5 := by
  obtain ⟨c0, c1, c2, c3, c4⟩ := hQ.cells
  refine bodyPost_ret (v := .agg #[.int .i64 x.id, .int .i64 x.code, .bool x.found, .int .i64 x.d, .slice A x.hits.length c]) ?_ hd ?_
  · rw [Array.getD_eq_getD_getElem?] at ht
    simp [results, Try.results55, ht, c0, c1, c2, c3, c4, go_sem]
  · rw [H]
    exact ⟨A, c, rfl, hr, ho, hG⟩
set_option maxRecDepth 100000 in
set_option maxHeartbeats 1000000 in
theorem getPartP_c (b : Nat) (s : ByteArray) (w : World) (hc : RfAt w b s 0) (hs : s.size ≤ 1000000) :
    Calls Try.prog 55 #[.pointer (some ⟨b, 0, none⟩)] w fun e w' => PDone w w' b s e (rdMayP s) := by
  have hbl := hc.lt
  have hq0 : PAt (w.alloc (.cells #[.int .i64 0, .int .i64 0, .bool false, .int .i64 0, .slice none 0 0] 40)) w.heap.size noP none 0 0 := PAt.new w noP none 0 0
  have hG0 := only_alloc (only_refl w (some b)) (.cells #[.int .i64 0, .int .i64 0, .bool false, .int .i64 0, .slice none 0 0] 40)
  have hr0 := hc.below (below_one w (.cells #[.int .i64 0, .int .i64 0, .bool false, .int .i64 0, .slice none 0 0] 40))
  clear hc
  rcases h1 : rdAt s 0 with _ | ⟨i, p1⟩
  · have H : Hid (rdMayP s = none) := by show _ = _; simp only [rdMayP, rdRep2, h1]
    go_enter Try.func55, Try.ntmps55
    go_wp2_with (fail)
    refine (rfNumber_none b s 0 _ hr0 hs h1).mono ?_
    rintro e w2 ⟨rfl, hG⟩
    have HG := Lib.hid (only_trans_row hG0 hG)
    unfold thrown
    refine ⟨rfl, ?_⟩
    show PDone w w2 b s thrown (rdMayP s)
    rw [H.out]
    exact ⟨rfl, HG.out⟩
  · go_enter Try.func55, Try.ntmps55
    go_wp2_with (fail)
    refine (rfNumber_some b s 0 i p1 _ hr0 hs h1).mono ?_
    rintro e w2 ⟨rfl, hr2, hG⟩
    have H1 := Lib.hid h1
    have hG2 := only_trans_row hG0 hG
    have hq2 := Lib.hid (hq0.grown hG (by omega))
    have hlt := hq2.out.lt
    clear hG0 hG hr0 hq0 h1
    obtain ⟨o, ho⟩ : ∃ o, w.heap.size = o := ⟨_, rfl⟩
    rw [ho] at hq2 hlt hbl ⊢
    have HO := Lib.hid ho
    clear ho
    have hr3 := hr2.below (below_one w2 (.cells #[.int .i64 i, .int .i64 0, .bool false, .int .i64 0, .slice none 0 0] 40))
    have hG3 := only_alloc hG2 (.cells #[.int .i64 i, .int .i64 0, .bool false, .int .i64 0, .slice none 0 0] 40)
    have hq3 := Lib.hid (hq2.out.below (below_one w2 (.cells #[.int .i64 i, .int .i64 0, .bool false, .int .i64 0, .slice none 0 0] 40)) hlt)
    have hx3 := PAt.new w2 ⟨i, 0, false, 0, []⟩ none 0 0
    clear hr2 hG2 hq2
    rcases h2 : rdAt s p1 with _ | ⟨k, p2⟩
    · have H : Hid (rdMayP s = none) := by show _ = _; simp only [rdMayP, rdRep2, H1.out, h2]
      go_wp2_with (fail)
      refine (rfMost_none b s p1 1000 _ hr3 hs h2).mono ?_
      rintro e w4 ⟨rfl, hG⟩
      have HG := Lib.hid (only_trans_row hG3 hG)
      unfold thrown
      refine ⟨rfl, ?_⟩
      show PDone w w4 b s thrown (rdMayP s)
      rw [H.out]
      exact ⟨rfl, HG.out⟩
    by_cases hk4 : (k : Int) ≤ 1000
    rotate_left
    · have H : Hid (rdMayP s = none) := by show _ = _; simp only [rdMayP, rdRep2, H1.out, h2, if_neg hk4]
      go_wp2_with (fail)
      refine (rfMost_big b s p1 1000 k p2 _ hr3 hs h2 (by omega)).mono ?_
      rintro e w4 ⟨rfl, hG⟩
      have HG := Lib.hid (only_trans_row hG3 hG)
      unfold thrown
      refine ⟨rfl, ?_⟩
      show PDone w w4 b s thrown (rdMayP s)
      rw [H.out]
      exact ⟨rfl, HG.out⟩
    · go_wp2_with (fail)
      refine (rfMost_some b s p1 1000 k p2 _ hr3 hs h2 hk4).mono ?_
      rintro e w4 ⟨rfl, hr4, hG⟩
      have H2 := Lib.hid h2
      have hx3 := Lib.hid hx3
      have hG3 := Lib.hid hG3
      clear h2 hr3
      obtain ⟨bx, hbx⟩ : ∃ bx, w2.heap.size = bx := ⟨_, rfl⟩
      rw [hbx] at hx3 hlt ⊢
      have hne : ¬ o = bx := by omega
      have hne' : ¬ bx = o := by omega
      have HK4 := Lib.hid hk4
      have hx4 := hx3.out.grown hG (by omega)
      have hq4 := hq3.out.grown hG (by omega)
      have hG4 := only_trans_row hG3.out hG
      try clear c0 c1 c2 c3 c4 hf
      obtain ⟨c0, c1, c2, c3, c4⟩ := hx4.cells
      have hf := hx4.frozen 1
      have hx5 := Lib.hid (hx4.set1 k)
      have hq5 := Lib.hid (hq4.grown (only_setCellS (only_refl w4 (some bx)) 1 (.int .i64 k)) (by omega))
      have hr5 := Lib.hid (hr4.grown (only_setCellS (only_refl w4 (some bx)) 1 (.int .i64 k)) (by omega))
      have hG5 := Lib.hid (only_setCell' (k := bx) (o := 1) hG4 (by rw [HO.out]; omega) (.int .i64 k))
      clear hx4 hq4 hG4 hr4 hG hx3 hq3 hG3
      by_cases h0 : (k : Int) = 0
      rotate_left
      · have HS : Hid (rdRep2 s = some (⟨i, k, false, 0, []⟩, p2)) := by show _ = _; simp only [rdRep2, H1.out, H2.out, if_pos hk4, if_neg h0]
        have hkb : ((k : Int) == 0) = false := by simpa using h0
        have hll : Hid ((⟨i, k, false, 0, []⟩ : Rep).hits.length = 0) := rfl
        have hmax : Hid (0 ≤ maxLen) := Nat.zero_le _
        have ho5 : Hid ((w4.setCell ⟨bx, 1, none⟩ (.int .i64 k)).ownsRow (bx + 1) 88 2 (.slice none 0 0) 0 (hv [])) := own_nil
        clear h0
        by_cases hm : mayRep ⟨i, k, false, 0, []⟩
        · have H : Hid (rdMayP s = some (⟨i, k, false, 0, []⟩, p2)) := by
            show _ = _
            unfold rdMayP
            rw [HS.out]
            simp only [if_pos hm]
          go_wp2_with (fail)
          refine (right_c ⟨i, k, false, 0, []⟩ none 0 0 (w4.setCell ⟨bx, 1, none⟩ (.int .i64 k)) (own_reads ho5.out) hmax.out).mono ?_
          rintro e w6 ⟨rfl, hB6⟩
          rw [decide_eq_true hm]
          clear hm
          have hx6 := Lib.hid (hx5.out.below hB6 hx5.out.lt)
          have hq6 := Lib.hid (hq5.out.below hB6 hq5.out.lt)
          have ho6 := Lib.hid (own_below ho5.out hB6)
          have hr6 := Lib.hid (hr5.out.below hB6)
          have hG6 := Lib.hid (only_trans_row hG5.out (only_of_below hB6 (some b)))
          clear hB6
          try clear c0 c1 c2 c3 c4
          obtain ⟨c0, c1, c2, c3, c4⟩ := hx6.out.cells
          obtain ⟨d0, d1, d2, d3, d4⟩ := hq6.out.cells
          have g0 := hq6.out.frozen 0
          have g1 := hq6.out.frozen 1
          have g2 := hq6.out.frozen 2
          have g3 := hq6.out.frozen 3
          have g4 := hq6.out.frozen 4
          go_wp2_with (fail)
          refine (must_yes _).mono ?_
          rintro e w7 ⟨rfl, rfl⟩
          go_wp2_with (fail)
          refine (show bodyPost _ _ _ Exit.ret _ (putP _ o ⟨i, k, false, 0, []⟩ none 0 0) from ?_)
          have hQ8 := putP_at hq6.out ⟨i, k, false, 0, []⟩ none 0 0
          have hR8 := hr6.out.grown (putP_grown _ o ⟨i, k, false, 0, []⟩ none 0 0) (by omega)
          have ho8 := own_more (base := w.heap.size) (isF_own ho6.out (putP_grown _ o ⟨i, k, false, 0, []⟩ none 0 0) (by omega)) (by rw [HO.out]; omega)
          have hG8 := putP_only hG6.out (Nat.le_of_eq HO.out) ⟨i, k, false, 0, []⟩ none 0 0
          generalize putP _ o ⟨i, k, false, 0, []⟩ none 0 0 = w8 at hQ8 hR8 hG8 ho8 ⊢
          have hlk := hll.out
          try subst hlk
          exact reply_end (o := o) (c := 0) (A := none) (x := ⟨i, k, false, 0, []⟩) rfl rfl hQ8 H.out hR8 ho8 hG8
        · have H : Hid (rdMayP s = none) := by
            show _ = _
            unfold rdMayP
            rw [HS.out]
            simp only [if_neg hm]
          go_wp2_with (fail)
          refine (right_c ⟨i, k, false, 0, []⟩ none 0 0 (w4.setCell ⟨bx, 1, none⟩ (.int .i64 k)) (own_reads ho5.out) hmax.out).mono ?_
          rintro e w6 ⟨rfl, hB6⟩
          rw [decide_eq_false hm]
          clear hm
          have HG := Lib.hid (only_trans_row hG5.out (only_of_below hB6 (some b)))
          go_wp2_with (fail)
          refine (must_no _).mono ?_
          rintro e w7 ⟨rfl, rfl⟩
          unfold thrown
          refine ⟨rfl, ?_⟩
          show PDone w _ b s thrown (rdMayP s)
          rw [H.out]
          exact ⟨rfl, HG.out⟩
      · have HK0 := Lib.hid h0
        have hkb : ((k : Int) == 0) = true := by simpa using h0
        clear h0
        have hx3 := hx5
        have hq3 := hq5
        have hr3 := hr5
        have hG3 := hG5
        clear hx5 hq5 hr5 hG5
        rcases h3 : rdAt s p2 with _ | ⟨f, p3⟩
        · have H : Hid (rdMayP s = none) := by show _ = _; simp only [rdMayP, rdRep2, H1.out, H2.out, if_pos HK4.out, if_pos HK0.out, h3]
          go_wp2_with (fail)
          refine (rfMost_none b s p2 1 _ hr3.out hs h3).mono ?_
          rintro e w6 ⟨rfl, hG⟩
          have HG := Lib.hid (only_trans_row hG3.out hG)
          unfold thrown
          refine ⟨rfl, ?_⟩
          show PDone w w6 b s thrown (rdMayP s)
          rw [H.out]
          exact ⟨rfl, HG.out⟩
        by_cases hf1 : (f : Int) ≤ 1
        rotate_left
        · have H : Hid (rdMayP s = none) := by show _ = _; simp only [rdMayP, rdRep2, H1.out, H2.out, if_pos HK4.out, if_pos HK0.out, h3, if_neg hf1]
          go_wp2_with (fail)
          refine (rfMost_big b s p2 1 f p3 _ hr3.out hs h3 (by omega)).mono ?_
          rintro e w6 ⟨rfl, hG⟩
          have HG := Lib.hid (only_trans_row hG3.out hG)
          unfold thrown
          refine ⟨rfl, ?_⟩
          show PDone w w6 b s thrown (rdMayP s)
          rw [H.out]
          exact ⟨rfl, HG.out⟩
        go_wp2_with (fail)
        refine (rfMost_some b s p2 1 f p3 _ hr3.out hs h3 hf1).mono ?_
        rintro e w4 ⟨rfl, hr4, hG⟩
        have H3 := Lib.hid h3
        have HF1 := Lib.hid hf1
        obtain ⟨fb, hfb⟩ : ∃ fb, decide ((f : Int) = 1) = fb := ⟨_, rfl⟩
        have HFB := Lib.hid hfb
        have hfe : ((f : Int) == 1) = fb := by rw [← hfb]; rfl
        clear h3 hfb hr3
        have hx4 := hx3.out.grown hG (by omega)
        have hq4 := hq3.out.grown hG (by omega)
        have hG4 := only_trans_row hG3.out hG
        try clear c0 c1 c2 c3 c4 hf
        obtain ⟨c0, c1, c2, c3, c4⟩ := hx4.cells
        have hf := hx4.frozen 2
        have hx5 := Lib.hid (hx4.set2 fb)
        have hq5 := Lib.hid (hq4.grown (only_setCellS (only_refl w4 (some bx)) 2 (.bool fb)) (by omega))
        have hr5 := Lib.hid (hr4.grown (only_setCellS (only_refl w4 (some bx)) 2 (.bool fb)) (by omega))
        have hG5 := Lib.hid (only_setCell' (k := bx) (o := 2) hG4 (by rw [HO.out]; omega) (.bool fb))
        clear hx4 hq4 hG4 hr4 hG hx3 hq3 hG3
        have hx3 := hx5
        have hq3 := hq5
        have hr3 := hr5
        have hG3 := hG5
        clear hx5 hq5 hr5 hG5
        rcases h4 : rdAt s p3 with _ | ⟨d, p4⟩
        · have H : Hid (rdMayP s = none) := by show _ = _; simp only [rdMayP, rdRep2, H1.out, H2.out, if_pos HK4.out, if_pos HK0.out, H3.out, if_pos HF1.out, h4]
          go_wp2_with (fail)
          refine (rfNumber_none b s p3 _ hr3.out hs h4).mono ?_
          rintro e w6 ⟨rfl, hG⟩
          have HG := Lib.hid (only_trans_row hG3.out hG)
          unfold thrown
          refine ⟨rfl, ?_⟩
          show PDone w w6 b s thrown (rdMayP s)
          rw [H.out]
          exact ⟨rfl, HG.out⟩
        go_wp2_with (fail)
        refine (rfNumber_some b s p3 d p4 _ hr3.out hs h4).mono ?_
        rintro e w4 ⟨rfl, hr4, hG⟩
        have H4 := Lib.hid h4
        clear h4 hr3
        have hx4 := hx3.out.grown hG (by omega)
        have hq4 := hq3.out.grown hG (by omega)
        have hG4 := only_trans_row hG3.out hG
        try clear c0 c1 c2 c3 c4 hf
        obtain ⟨c0, c1, c2, c3, c4⟩ := hx4.cells
        have hf := hx4.frozen 3
        have hx5 := Lib.hid (hx4.set3 d)
        have hq5 := Lib.hid (hq4.grown (only_setCellS (only_refl w4 (some bx)) 3 (.int .i64 d)) (by omega))
        have hr5 := Lib.hid (hr4.grown (only_setCellS (only_refl w4 (some bx)) 3 (.int .i64 d)) (by omega))
        have hG5 := Lib.hid (only_setCell' (k := bx) (o := 3) hG4 (by rw [HO.out]; omega) (.int .i64 d))
        clear hx4 hq4 hG4 hr4 hG hx3 hq3 hG3
        have hx3 := hx5
        have hq3 := hq5
        have hr3 := hr5
        have hG3 := hG5
        clear hx5 hq5 hr5 hG5
        rcases h5 : rdAt s p4 with _ | ⟨n, p5⟩
        · have H : Hid (rdMayP s = none) := by show _ = _; simp only [rdMayP, rdRep2, H1.out, H2.out, if_pos HK4.out, if_pos HK0.out, H3.out, if_pos HF1.out, H4.out, h5]
          go_wp2_with (fail)
          refine (rfMost_none b s p4 100 _ hr3.out hs h5).mono ?_
          rintro e w6 ⟨rfl, hG⟩
          have HG := Lib.hid (only_trans_row hG3.out hG)
          unfold thrown
          refine ⟨rfl, ?_⟩
          show PDone w w6 b s thrown (rdMayP s)
          rw [H.out]
          exact ⟨rfl, HG.out⟩
        by_cases hn1 : (n : Int) ≤ 100
        rotate_left
        · have H : Hid (rdMayP s = none) := by show _ = _; simp only [rdMayP, rdRep2, H1.out, H2.out, if_pos HK4.out, if_pos HK0.out, H3.out, if_pos HF1.out, H4.out, h5, if_neg hn1]
          go_wp2_with (fail)
          refine (rfMost_big b s p4 100 n p5 _ hr3.out hs h5 (by omega)).mono ?_
          rintro e w6 ⟨rfl, hG⟩
          have HG := Lib.hid (only_trans_row hG3.out hG)
          unfold thrown
          refine ⟨rfl, ?_⟩
          show PDone w w6 b s thrown (rdMayP s)
          rw [H.out]
          exact ⟨rfl, HG.out⟩
        go_wp2_with (fail)
        refine (rfMost_some b s p4 100 n p5 _ hr3.out hs h5 hn1).mono ?_
        rintro e w4 ⟨rfl, hr4, hG⟩
        have H5 := Lib.hid h5
        have HN1 := Lib.hid hn1
        have hx4 := Lib.hid (hx3.out.grown hG (by omega))
        have hq4 := Lib.hid (hq3.out.grown hG (by omega))
        have hG4 := Lib.hid (only_trans_row hG3.out hG)
        have hr4 := Lib.hid hr4
        clear hx3 hq3 hG3 hr3 hG h5 hf c0 c1 c2 c3 c4
        go_wp2_with (fail)
        go_loopw [25] (fun ix wr => ∃ (j : Nat) (l : List Hit) (p7 : Nat) (A : Option Addr) (c : Nat), j ≤ n ∧ ix = .int .i64 j ∧ Hid (l.length = j) ∧ Hid (rdHits s j p5 = some (l, p7)) ∧ Hid (RfAt wr b s p7) ∧ Hid (PAt wr bx ⟨i, k, fb, d, l⟩ A j c) ∧ Hid (PAt wr o noP none 0 0) ∧ Hid (wr.ownsRow (bx + 1) 88 2 (.slice A j c) j (hv l)) ∧ Hid (w.grownBy wr (some b))) (fun ix _ => n - (intOf ix).toNat)
        case atStart => exact ⟨0, [], p5, none, 0, Nat.zero_le _, rfl, rfl, rfl, hr4, hx4, hq4, own_nil, hG4⟩
        case round =>
          clear hr4 hx4 hq4 hG4
          obtain ⟨j, l, p7, A, c, hjn, rfl, hll, hrd, hr3, hx3, hq3, ho3, hG3⟩ := hrel
          by_cases hjl : j < n
          · rcases h7 : rdAt s p7 with _ | ⟨v, p8⟩
            · have H : Hid (rdMayP s = none) := by
                show _ = _
                simp only [rdMayP, rdRep2, H1.out, H2.out, if_pos HK4.out, if_pos HK0.out, H3.out, if_pos HF1.out, H4.out, H5.out, if_pos HN1.out, rdHits_stop hrd.out (rdInts2_none h7) hjl]
              go_wp2_with (fail)
              refine (rfNumber_none b s p7 _ hr3.out hs h7).mono ?_
              rintro e w6 ⟨rfl, hG⟩
              have HG := Lib.hid (only_trans_row hG3.out hG)
              unfold thrown
              refine ⟨rfl, ?_⟩
              show PDone w w6 b s thrown (rdMayP s)
              rw [H.out]
              exact ⟨rfl, HG.out⟩
            go_wp2_with (fail)
            refine (rfNumber_some b s p7 v p8 _ hr3.out hs h7).mono ?_
            rintro e w4 ⟨rfl, hr4, hG⟩
            have hx4 := Lib.hid (hx3.out.grown hG (by omega))
            have hq4 := Lib.hid (hq3.out.grown hG (by omega))
            have ho4 := Lib.hid (isF_own ho3.out hG (by omega))
            have hG4 := Lib.hid (only_trans_row hG3.out hG)
            have hr4 := Lib.hid hr4
            clear hx3 hq3 ho3 hG3 hr3 hG
            obtain ⟨c0, c1, c2, c3, c4⟩ := hx4.out.cells
            rcases h8 : rdAt s p8 with _ | ⟨y, p9⟩
            · have H : Hid (rdMayP s = none) := by
                show _ = _
                simp only [rdMayP, rdRep2, H1.out, H2.out, if_pos HK4.out, if_pos HK0.out, H3.out, if_pos HF1.out, H4.out, H5.out, if_pos HN1.out, rdHits_stop hrd.out (rdInts2_none2 h7 h8) hjl]
              have HG0 := hG4
              have HR := Lib.hid (show RfAt w4.drew b s p8 from hr4.out)
              clear hx4 hq4 ho4 hG4 hr4 h7
              go_wp2_with (fail)
              refine wp_region_any (by kernel_rfl) ?_
              change wpAny _ _ _ _ _ _ _ (World.drew _)
              refine wpAny_take (i := 0) (v := .pointer (some ⟨bx, 2, none⟩)) rfl (by kernel_rfl) (by kernel_rfl) (by kernel_rfl) (fun _ _ _ h => h) (Or.inl ⟨by rfl, by intro w'; go_simp; try with_reducible rfl⟩) ?_
              refine wpAny_take (i := 1) (v := .pointer (some ⟨bx, 4, none⟩)) rfl (by kernel_rfl) (by kernel_rfl) (by kernel_rfl) (fun _ _ _ h => h) (Or.inl ⟨by rfl, by intro w'; go_simp; try with_reducible rfl⟩) ?_
              refine wpAny_take (i := 3) (v := .int .i64 v) rfl (by kernel_rfl) (by kernel_rfl) (by kernel_rfl) (fun _ _ _ h => h) (Or.inl ⟨by rfl, by intro w'; go_simp; try with_reducible rfl⟩) ?_
              refine wpAny_take (i := 4) (v := .pointer (some ⟨b, 0, none⟩)) rfl (by kernel_rfl) (by kernel_rfl) (by kernel_rfl) (fun _ _ _ h => h) (Or.inl ⟨by rfl, by intro w'; go_simp; try with_reducible rfl⟩) ?_
              refine wpAny_ready (rs := [2, 5]) (by kernel_rfl) (by simp) ?_
              refine AllReady.cons rfl (fun K hK => ?_) (AllReady.cons rfl (fun K hK => ?_) AllReady.nil)
              · go_simp
                refine hK _ _ ?_
                clear hK K
                refine wpAny_ready (rs := [5]) (by kernel_rfl) (by simp) ?_
                refine AllReady.cons rfl (fun K hK => ?_) AllReady.nil
                go_simp
                go_at_call 45
                refine (rfNumber_none b s p8 _ HR.out hs h8).mono ?_
                rintro e w5 ⟨rfl, hG⟩
                have HG := Lib.hid (only_trans_row (only_drew HG0.out) hG)
                unfold thrown
                refine ⟨rfl, ?_⟩
                show PDone w w5 b s thrown (rdMayP s)
                rw [H.out]
                exact ⟨rfl, HG.out⟩
              · go_simp
                go_at_call 45
                refine (rfNumber_none b s p8 _ HR.out hs h8).mono ?_
                rintro e w5 ⟨rfl, hG⟩
                have HG := Lib.hid (only_trans_row (only_drew HG0.out) hG)
                unfold thrown
                refine ⟨rfl, ?_⟩
                show PDone w w5 b s thrown (rdMayP s)
                rw [H.out]
                exact ⟨rfl, HG.out⟩
            · have hrd2 : Hid (rdHits s (j + 1) p5 = some (l ++ [⟨v, y⟩], p9)) := rdHits_more hrd.out (rdInts2_some h7 h8)
              have ho := ho4.out
              clear h7
              go_wp2_with (fail)
              go_region_law (first
                | (go_simp; go_at_call 45; refine (rfNumber_some b s p8 y p9 _ (show RfAt w4.drew b s p8 from hr4.out) hs h8).mono ?_; rintro e w5 ⟨rfl, hr5, hG5⟩; have ho5 := isF_own (show w4.drew.ownsRow (bx + 1) 88 2 (.slice A j c) j (hv l) from ho.drew) hG5 (by omega); have hx5 := PAt.grown (PAt.drew hx4.out) hG5 (by omega); have hsz5 : bx + 1 ≤ w5.heap.size := hx5.lt; have hs5 := Lib.hid hG5.size; obtain ⟨e0, e1, e2, e3, e4⟩ := hx5.cells; have hy5 := hx5.below (below_one w5 (.cells #[.int .i64 v, .int .i64 y] 88)) hx5.lt; obtain ⟨y0, y1, y2, y3, y4⟩ := hy5.cells)
                | (refine step_push elHit rfl (.tmp 31) (.tmp 36) rfl ho5 rfl _ rfl rfl (hc_one ⟨v, y⟩) (by unfold maxLen; omega) (by omega) hsz5 ?_; intro A6 c6 w6 ho6 p6; have hx6 : PAt w6 bx ⟨i, k, fb, d, l⟩ A j c := (p6.heap hx5.lt (fun x hx => by have := (own_lt ho5 x hx).1; omega)).trans hx5; obtain ⟨f0, f1, f2, f3, f4⟩ := hx6.cells; have hfz := hx6.frozen 4))
              all_goals
                have hx7 := Lib.hid (hx6.set4 (l ++ [⟨v, y⟩]) A6 (j + 1) c6)
                have hq6 : PAt w6 o noP none 0 0 := (p6.heap (Nat.lt_of_lt_of_le hq4.out.lt hs5.out) (fun x hx => by have := (own_lt ho5 x hx).1; omega)).trans (PAt.grown (PAt.drew hq4.out) hG5 (by omega))
                have hr6 : RfAt w6 b s p9 := (p6.heap hr5.lt (fun x hx => by have := (own_lt ho5 x hx).1; omega)).trans hr5
                have hG6 : w.grownBy w6 (some b) := p6.only (only_trans_row (only_drew hG4.out) hG5) (fun x hx => by have := (own_lt ho5 x hx).1; have := HO.out; omega)
                have hq7 := Lib.hid (hq6.grown (only_setCellS (only_refl w6 (some bx)) 4 (.slice A6 (j + 1) c6)) (by omega))
                have hr7 := Lib.hid (hr6.grown (only_setCellS (only_refl w6 (some bx)) 4 (.slice A6 (j + 1) c6)) (by omega))
                have hG7 := Lib.hid (only_setCell' (k := bx) (o := 4) hG6 (by rw [HO.out]; omega) (.slice A6 (j + 1) c6))
                have ho7 := Lib.hid (isF_own ho6 (only_setCellS (only_refl w6 (some bx)) 4 (.slice A6 (j + 1) c6)) (by omega))
                clear hx6 hq6 hr6 hG6 ho6 p6 f0 f1 f2 f3 f4 y0 y1 y2 y3 y4 e0 e1 e2 e3 e4 c0 c1 c2 c3 c4 hx5 hy5 hr5 hG5 ho5 ho hx4 hq4 hr4 hG4
                go_wp2_with (fail)
                go_roundw
                case rel =>
                  refine ⟨j + 1, l ++ [⟨v, y⟩], p9, A6, c6, by omega, by go_num, by show _ = _; rw [List.length_append, hll.out]; rfl, hrd2, hr7, hx7, hq7, ?_, hG7⟩
                  show World.ownsRow _ _ _ _ _ _ _
                  rw [hv_append]
                  exact ho7.out
                case measure => simp [intOf] <;> omega
          · obtain rfl : j = n := by omega
            have HS : Hid (rdRep2 s = some (⟨i, k, fb, d, l⟩, p7)) := by
              show _ = _
              simp only [rdRep2, H1.out, H2.out, if_pos HK4.out, if_pos HK0.out, H3.out, if_pos HF1.out, H4.out, H5.out, if_pos HN1.out, hrd.out, HFB.out]
              rw [HK0.out]
            have hmax : Hid (j ≤ maxLen) := by show _ ≤ _; unfold maxLen; omega
            have hx5 := hx3
            have hq5 := hq3
            have hr5 := hr3
            have hG5 := hG3
            have ho5 := ho3
            clear hx3 hq3 hr3 hG3 ho3
            obtain ⟨c0, c1, c2, c3, c4⟩ := hx5.out.cells
            by_cases hm : mayRep ⟨i, k, fb, d, l⟩
            · have H : Hid (rdMayP s = some (⟨i, k, fb, d, l⟩, p7)) := by
                show _ = _
                unfold rdMayP
                rw [HS.out]
                simp only [if_pos hm]
              go_wp2_with (fail)
              refine (right_c ⟨i, k, fb, d, l⟩ A j c _ (own_reads ho5.out) hmax.out).mono ?_
              rintro e w6 ⟨rfl, hB6⟩
              rw [decide_eq_true hm]
              clear hm
              have hx6 := Lib.hid (hx5.out.below hB6 hx5.out.lt)
              have hq6 := Lib.hid (hq5.out.below hB6 hq5.out.lt)
              have ho6 := Lib.hid (own_below ho5.out hB6)
              have hr6 := Lib.hid (hr5.out.below hB6)
              have hG6 := Lib.hid (only_trans_row hG5.out (only_of_below hB6 (some b)))
              clear hB6
              try clear c0 c1 c2 c3 c4
              obtain ⟨c0, c1, c2, c3, c4⟩ := hx6.out.cells
              obtain ⟨d0, d1, d2, d3, d4⟩ := hq6.out.cells
              have g0 := hq6.out.frozen 0
              have g1 := hq6.out.frozen 1
              have g2 := hq6.out.frozen 2
              have g3 := hq6.out.frozen 3
              have g4 := hq6.out.frozen 4
              go_wp2_with (fail)
              refine (must_yes _).mono ?_
              rintro e w7 ⟨rfl, rfl⟩
              go_wp2_with (fail)
              refine (show bodyPost _ _ _ Exit.ret _ (putP _ o ⟨i, k, fb, d, l⟩ A j c) from ?_)
              have hQ8 := putP_at hq6.out ⟨i, k, fb, d, l⟩ A j c
              have hR8 := hr6.out.grown (putP_grown _ o ⟨i, k, fb, d, l⟩ A j c) (by omega)
              have ho8 := own_more (base := w.heap.size) (isF_own ho6.out (putP_grown _ o ⟨i, k, fb, d, l⟩ A j c) (by omega)) (by rw [HO.out]; omega)
              have hG8 := putP_only hG6.out (Nat.le_of_eq HO.out) ⟨i, k, fb, d, l⟩ A j c
              generalize putP _ o ⟨i, k, fb, d, l⟩ A j c = w8 at hQ8 hR8 hG8 ho8 ⊢
              have hlk := hll.out
              try subst hlk
              exact reply_end (o := o) (c := c) (A := A) (x := ⟨i, k, fb, d, l⟩) rfl rfl hQ8 H.out hR8 ho8 hG8
            · have H : Hid (rdMayP s = none) := by
                show _ = _
                unfold rdMayP
                rw [HS.out]
                simp only [if_neg hm]
              go_wp2_with (fail)
              refine (right_c ⟨i, k, fb, d, l⟩ A j c _ (own_reads ho5.out) hmax.out).mono ?_
              rintro e w6 ⟨rfl, hB6⟩
              rw [decide_eq_false hm]
              clear hm
              have HG := Lib.hid (only_trans_row hG5.out (only_of_below hB6 (some b)))
              go_wp2_with (fail)
              refine (must_no _).mono ?_
              rintro e w7 ⟨rfl, rfl⟩
              unfold thrown
              refine ⟨rfl, ?_⟩
              show PDone w _ b s thrown (rdMayP s)
              rw [H.out]
              exact ⟨rfl, HG.out⟩
end Go.Proofs.Ytmnjlhifjjainaa
