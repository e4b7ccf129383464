/-
  The program reads a request: the part, and words for the box of a request.
-/
import Derived.Test.YtmnjlhifjjainaaFrQuery
namespace Go.Proofs.Ytmnjlhifjjainaa
open Go.RowKit

def noR : Req := ⟨0, 0, noQ⟩
section
variable {w w' : World} {b g n c : Nat} {x : Req} {A : Option Addr}
theorem RAt.frozen (h : RAt w b x A n c) (k : Nat) : w.frozen? ⟨b, k, none⟩ = false := Lib.frozen_of_heap h k
theorem RAt.grown (h : RAt w b x A n c) (hg : w.grownBy w' (some g)) (hne : b ≠ g) : RAt w' b x A n c := (hg.block b h.lt (fun e => hne (by injection e))).trans h
theorem RAt.set0 (h : RAt w b x A n c) (v : Int) : RAt (w.setCell ⟨b, 0, none⟩ (.int .i64 v)) b { x with id := v } A n c := by
  have := heap_setCell_same w b 0 _ _ (.int .i64 v) h
  unfold RAt
  simpa using this
theorem RAt.set1 (h : RAt w b x A n c) (v : Int) : RAt (w.setCell ⟨b, 1, none⟩ (.int .i64 v)) b { x with kind := v } A n c := by
  have := heap_setCell_same w b 1 _ _ (.int .i64 v) h
  unfold RAt
  simpa using this
theorem RAt.set2 (h : RAt w b x A n c) (v : Int) : RAt (w.setCell ⟨b, 2, none⟩ (.int .i64 v)) b { x with q := { x.q with kind := v } } A n c := by
  have := heap_setCell_same w b 2 _ _ (.int .i64 v) h
  unfold RAt
  simpa using this
theorem RAt.set3 (h : RAt w b x A n c) (v : Int) : RAt (w.setCell ⟨b, 3, none⟩ (.int .i64 v)) b { x with q := { x.q with src := v } } A n c := by
  have := heap_setCell_same w b 3 _ _ (.int .i64 v) h
  unfold RAt
  simpa using this
theorem RAt.set4 (h : RAt w b x A n c) (v : Int) : RAt (w.setCell ⟨b, 4, none⟩ (.int .i64 v)) b { x with q := { x.q with dst := v } } A n c := by
  have := heap_setCell_same w b 4 _ _ (.int .i64 v) h
  unfold RAt
  simpa using this
theorem RAt.set6 (h : RAt w b x A n c) (v : Int) : RAt (w.setCell ⟨b, 6, none⟩ (.int .i64 v)) b { x with q := { x.q with radius := v } } A n c := by
  have := heap_setCell_same w b 6 _ _ (.int .i64 v) h
  unfold RAt
  simpa using this
theorem RAt.set7 (h : RAt w b x A n c) (v : Int) : RAt (w.setCell ⟨b, 7, none⟩ (.int .i64 v)) b { x with q := { x.q with most := v } } A n c := by
  have := heap_setCell_same w b 7 _ _ (.int .i64 v) h
  unfold RAt
  simpa using this
theorem RAt.set5 (h : RAt w b x A n c) (l : List ByteArray) (A2 : Option Addr) (n2 c2 : Nat) : RAt (w.setCell ⟨b, 5, none⟩ (.slice A2 n2 c2)) b { x with q := { x.q with words := l } } A2 n2 c2 := by
  have := heap_setCell_same w b 5 _ _ (.slice A2 n2 c2) h
  unfold RAt
  simpa using this
end
/-- A query laid into a request's box; a request laid into one. -/
def putRQ (w : World) (o : Nat) (q : Qry) (A : Option Addr) (n c : Nat) : World :=
  (((((w.setCell ⟨o, 2, none⟩ (.int .i64 q.kind)).setCell ⟨o, 3, none⟩ (.int .i64 q.src)).setCell ⟨o, 4, none⟩ (.int .i64 q.dst)).setCell ⟨o, 5, none⟩ (.slice A n c)).setCell ⟨o, 6, none⟩ (.int .i64 q.radius)).setCell ⟨o, 7, none⟩ (.int .i64 q.most)
theorem putRQ_at {w : World} {o : Nat} {x : Req} {A0 : Option Addr} {n0 c0 : Nat} (h : RAt w o x A0 n0 c0) (q : Qry) (A : Option Addr) (n c : Nat) : RAt (putRQ w o q A n c) o { x with q := q } A n c := by
  have h2 := h.set2 q.kind
  have h3 := h2.set3 q.src
  have h4 := h3.set4 q.dst
  have h5 := h4.set5 q.words A n c
  have h6 := h5.set6 q.radius
  have h7 := h6.set7 q.most
  unfold putRQ
  exact h7
theorem putRQ_grown (w : World) (o : Nat) (q : Qry) (A : Option Addr) (n c : Nat) : w.grownBy (putRQ w o q A n c) (some o) := by
  unfold putRQ
  exact only_setCellS (only_setCellS (only_setCellS (only_setCellS (only_setCellS (only_setCellS (only_refl w _) _ _) _ _) _ _) _ _) _ _) _ _
theorem putRQ_only {a w : World} {g : Nat} (h : a.grownBy w (some g)) {o : Nat} (ho : a.heap.size ≤ o) (q : Qry) (A : Option Addr) (n c : Nat) : a.grownBy (putRQ w o q A n c) (some g) := by
  unfold putRQ
  exact only_setCell' (only_setCell' (only_setCell' (only_setCell' (only_setCell' (only_setCell' h ho _) ho _) ho _) ho _) ho _) ho _
def putR (w : World) (o : Nat) (x : Req) (A : Option Addr) (n c : Nat) : World := putRQ ((w.setCell ⟨o, 0, none⟩ (.int .i64 x.id)).setCell ⟨o, 1, none⟩ (.int .i64 x.kind)) o x.q A n c
theorem putR_at {w : World} {o : Nat} {x0 : Req} {A0 : Option Addr} {n0 c0 : Nat} (h : RAt w o x0 A0 n0 c0) (x : Req) (A : Option Addr) (n c : Nat) : RAt (putR w o x A n c) o x A n c := by
  have h0 := h.set0 x.id
  have h1 := h0.set1 x.kind
  have h2 := putRQ_at h1 x.q A n c
  unfold putR
  exact h2
theorem putR_grown (w : World) (o : Nat) (x : Req) (A : Option Addr) (n c : Nat) : w.grownBy (putR w o x A n c) (some o) := by
  unfold putR putRQ
  exact only_setCellS (only_setCellS (only_setCellS (only_setCellS (only_setCellS (only_setCellS (only_setCellS (only_setCellS (only_refl w _) _ _) _ _) _ _) _ _) _ _) _ _) _ _) _ _
theorem putR_only {a w : World} {g : Nat} (h : a.grownBy w (some g)) {o : Nat} (ho : a.heap.size ≤ o) (x : Req) (A : Option Addr) (n c : Nat) : a.grownBy (putR w o x A n c) (some g) := by
  unfold putR
  exact putRQ_only (only_setCell' (only_setCell' h ho _) ho _) ho _ _ _ _

theorem rdWords_bounded {s : ByteArray} : ∀ {k q : Nat} {l : List ByteArray} {p : Nat}, rdWords s k q = some (l, p) → bounded l
  | 0, q, l, p, h => by
    simp [rdWords] at h
    obtain ⟨rfl, rfl⟩ := h
    exact fun x hx => by simp at hx
  | k + 1, q, l, p, h => by
    simp only [rdWords] at h
    split at h
    · rename_i l1 p1 h1
      split at h
      · rename_i t p2 h2
        injection h with h
        injection h with h3 h4
        subst h3 h4
        intro x hx
        rcases List.mem_append.1 hx with hx | hx
        · exact rdWords_bounded h1 x hx
        · simp at hx; subst hx
          have := (rdText_same h2).2.2.2.1
          omega
      · cases h
    · cases h
theorem rdWords_len {s : ByteArray} : ∀ {k q : Nat} {l : List ByteArray} {p : Nat}, rdWords s k q = some (l, p) → l.length = k
  | 0, q, l, p, h => by
    simp [rdWords] at h
    obtain ⟨rfl, rfl⟩ := h
    rfl
  | k + 1, q, l, p, h => by
    simp only [rdWords] at h
    split at h
    · rename_i l1 p1 h1
      split at h
      · rename_i t p2 h2
        injection h with h
        injection h with h3 h4
        subst h3 h4
        rw [List.length_append, rdWords_len h1]; rfl
      · cases h
    · cases h
theorem rdQ_bounded {s : ByteArray} {kind : Int} {p p' : Nat} {q : Qry} (h : rdQ s kind p = some (q, p')) : bounded q.words ∧ q.words.length ≤ 8 := by
  unfold rdQ at h
  split at h
  · split at h
    · split at h
      · injection h with h; injection h with h _; subst h; exact ⟨fun x hx => by simp at hx, by simp⟩
      · cases h
    · split at h
      · split at h
        · rename_i n p2 h8 _
          split at h
          · rename_i l p3 hw
            split at h
            · split at h
              · injection h with h; injection h with h _; subst h
                refine ⟨rdWords_bounded hw, ?_⟩
                have := rdWords_len hw
                simp only
                omega
              · cases h
            · cases h
          · cases h
        · cases h
      · cases h
  · cases h
/-- A request that may be, and is read. -/
def rdMay (s : ByteArray) : Option (Req × Nat) := match rdReq2 s with | some (x, p) => if mayReq x then some (x, p) else none | none => none
def RDone (w w' : World) (b : Nat) (s : ByteArray) (e : Ending) : Option (Req × Nat) → Prop
  | some (x, p) => ∃ A c, e = .returned (.agg #[.int .i64 x.id, .int .i64 x.kind, .int .i64 x.q.kind, .int .i64 x.q.src, .int .i64 x.q.dst, .slice A x.q.words.length c, .int .i64 x.q.radius, .int .i64 x.q.most]) ∧ RfAt w' b s p ∧ w'.ownsRow w.heap.size 9 1 (.slice A x.q.words.length c) x.q.words.length (sv x.q.words) ∧ w.grownBy w' (some b)
  | none => e = thrown ∧ w.grownBy w' (some b)
theorem request_end {a : Act} {w w5 : World} {b p' o c : Nat} {s : ByteArray} {x : Req} {A : Option Addr} (ht : a.tmps.getD 2 undef = .pointer (some ⟨o, 0, none⟩)) (hd : a.defers = [])
    (hQ : RAt w5 o x A x.q.words.length c) (H : rdMay s = some (x, p')) (hr : RfAt w5 b s p') (ho : w5.ownsRow w.heap.size 9 1 (.slice A x.q.words.length c) x.q.words.length (sv x.q.words)) (hG : w.grownBy w5 (some b)) :
    bodyPost Try.prog Try.f44 (fun e w' => RDone w w' b s e (rdMay s)) Exit.ret a w5 := by
  obtain ⟨c0, c1, c2, c3, c4, c5, c6, c7⟩ := hQ.cells
  refine bodyPost_ret (v := .agg #[.int .i64 x.id, .int .i64 x.kind, .int .i64 x.q.kind, .int .i64 x.q.src, .int .i64 x.q.dst, .slice A x.q.words.length c, .int .i64 x.q.radius, .int .i64 x.q.most]) ?_ hd ?_
  · rw [Array.getD_eq_getD_getElem?] at ht
    simp [results, Try.results44, ht, c0, c1, c2, c3, c4, c5, c6, c7, go_sem]
  · rw [H]
    exact ⟨A, c, rfl, hr, ho, hG⟩

set_option maxRecDepth 100000 in
set_option maxHeartbeats 1000000 in
theorem getPart_c (b : Nat) (s : ByteArray) (w : World) (hc : RfAt w b s 0) (hs : s.size ≤ 1000000) :
    Calls Try.prog 44 #[.pointer (some ⟨b, 0, none⟩)] w fun e w' => RDone w w' b s e (rdMay s) := by
  have hbl := hc.lt
  have hq0 : RAt (w.alloc (.cells #[.int .i64 0, .int .i64 0, .int .i64 0, .int .i64 0, .int .i64 0, .slice none 0 0, .int .i64 0, .int .i64 0] 26)) w.heap.size noR none 0 0 := RAt.new w noR none 0 0
  have hG0 := only_alloc (only_refl w (some b)) (.cells #[.int .i64 0, .int .i64 0, .int .i64 0, .int .i64 0, .int .i64 0, .slice none 0 0, .int .i64 0, .int .i64 0] 26)
  have hr0 := hc.below (below_one w (.cells #[.int .i64 0, .int .i64 0, .int .i64 0, .int .i64 0, .int .i64 0, .slice none 0 0, .int .i64 0, .int .i64 0] 26))
  clear hc
  rcases h1 : rdAt s 0 with _ | ⟨i, p1⟩
  · have H : Hid (rdMay s = none) := by show _ = _; simp only [rdMay, rdReq2, h1]
    go_enter Try.func44, Try.ntmps44
    go_wp2_with (fail)
    refine (rfNumber_none b s 0 _ hr0 hs h1).mono ?_
    rintro e w2 ⟨rfl, hG⟩
    have HG := Lib.hid (only_trans_row hG0 hG)
    unfold thrown
    refine ⟨rfl, ?_⟩
    show RDone w w2 b s thrown (rdMay s)
    rw [H.out]
    exact ⟨rfl, HG.out⟩
  · go_enter Try.func44, Try.ntmps44
    go_wp2_with (fail)
    refine (rfNumber_some b s 0 i p1 _ hr0 hs h1).mono ?_
    rintro e w2 ⟨rfl, hr2, hG⟩
    have H1 := Lib.hid h1
    have hG2 := only_trans_row hG0 hG
    have hq2 := Lib.hid (hq0.grown hG (by omega))
    have hlt := hq2.out.lt
    clear hG0 hG hr0 hq0 h1
    obtain ⟨o, ho⟩ : ∃ o, w.heap.size = o := ⟨_, rfl⟩
    rw [ho] at hq2 hlt hbl ⊢
    have HO := Lib.hid ho
    clear ho
    have hr3 := hr2.below (below_one w2 (.cells #[.int .i64 i, .int .i64 0, .int .i64 0, .int .i64 0, .int .i64 0, .slice none 0 0, .int .i64 0, .int .i64 0] 26))
    have hG3 := only_alloc hG2 (.cells #[.int .i64 i, .int .i64 0, .int .i64 0, .int .i64 0, .int .i64 0, .slice none 0 0, .int .i64 0, .int .i64 0] 26)
    have hq3 := Lib.hid (hq2.out.below (below_one w2 (.cells #[.int .i64 i, .int .i64 0, .int .i64 0, .int .i64 0, .int .i64 0, .slice none 0 0, .int .i64 0, .int .i64 0] 26)) hlt)
    have hx3 := RAt.new w2 ⟨i, 0, noQ⟩ none 0 0
    clear hr2 hG2 hq2
    rcases h2 : rdAt s p1 with _ | ⟨k, p2⟩
    · have H : Hid (rdMay s = none) := by show _ = _; simp only [rdMay, rdReq2, H1.out, h2]
      go_wp2_with (fail)
      refine (rfMost_none b s p1 4 _ hr3 hs h2).mono ?_
      rintro e w4 ⟨rfl, hG⟩
      have HG := Lib.hid (only_trans_row hG3 hG)
      unfold thrown
      refine ⟨rfl, ?_⟩
      show RDone w w4 b s thrown (rdMay s)
      rw [H.out]
      exact ⟨rfl, HG.out⟩
    by_cases hk4 : (k : Int) ≤ 4
    rotate_left
    · have H : Hid (rdMay s = none) := by show _ = _; simp only [rdMay, rdReq2, H1.out, h2, if_neg hk4]
      go_wp2_with (fail)
      refine (rfMost_big b s p1 4 k p2 _ hr3 hs h2 (by omega)).mono ?_
      rintro e w4 ⟨rfl, hG⟩
      have HG := Lib.hid (only_trans_row hG3 hG)
      unfold thrown
      refine ⟨rfl, ?_⟩
      show RDone w w4 b s thrown (rdMay s)
      rw [H.out]
      exact ⟨rfl, HG.out⟩
    · go_wp2_with (fail)
      refine (rfMost_some b s p1 4 k p2 _ hr3 hs h2 hk4).mono ?_
      rintro e w4 ⟨rfl, hr4, hG⟩
      have H2 := Lib.hid h2
      have hlt4 := hx3.lt
      have hx4 := Lib.hid (hx3.grown hG (by omega))
      have hq4 := Lib.hid (hq3.out.grown hG (by omega))
      have hG4 := Lib.hid (only_trans_row hG3 hG)
      have hr4 := Lib.hid hr4
      have hlt5 := hx4.out.lt
      clear hq3 hx3 hG hG3 hr3 h2 hlt4
      generalize w2.heap.size = bx at *
      have hne : ¬ o = bx := by omega
      have hne' : ¬ bx = o := by omega
      obtain ⟨c0, c1, c2, c3, c4, c5, c6, c7⟩ := hx4.out.cells
      have hf1 := hx4.out.frozen 1
      have hx5 := Lib.hid (hx4.out.set1 k)
      have hq5 := Lib.hid (hq4.out.grown (only_setCellS (only_refl w4 (some bx)) 1 (.int .i64 k)) (by omega))
      have hr5 := Lib.hid (hr4.out.grown (only_setCellS (only_refl w4 (some bx)) 1 (.int .i64 k)) (by omega))
      have hG5 := Lib.hid (only_setCell' (k := bx) (o := 1) hG4.out (by rw [HO.out]; omega) (.int .i64 k))
      have hf5 : (w4.setCell ⟨bx, 1, none⟩ (.int .i64 k)).heap.size = w4.heap.size := by simp
      clear hx4 hq4 hr4 hG4
      by_cases h4 : (k : Int) = 4
      · have HS : Hid (rdReq2 s = some (⟨i, k, noQ⟩, p2)) := by show _ = _; simp only [rdReq2, H1.out, H2.out, if_pos hk4, if_pos h4]; rw [h4]
        have hkb : ((k : Int) != 4) = false := by simp [h4]
        have ho5 : Hid ((w4.setCell ⟨bx, 1, none⟩ (.int .i64 k)).ownsRow (bx + 1) 9 1 (.slice none 0 0) 0 (sv [])) := own_nil
        clear h4
        by_cases hm : mayReq ⟨i, k, noQ⟩
        · have H : Hid (rdMay s = some (⟨i, k, noQ⟩, p2)) := by
            show _ = _
            unfold rdMay
            rw [HS.out]
            simp only [if_pos hm]
          go_wp2_with (fail)
          refine (may_c ⟨i, k, noQ⟩ none 0 0 (w4.setCell ⟨bx, 1, none⟩ (.int .i64 k)) (own_reads ho5.out) (by simp [maxLen]) (fun x hx => by simp [noQ] at hx)).mono ?_
          rintro e w6 ⟨rfl, hB6⟩
          rw [decide_eq_true hm]
          clear hm
          have hx6 := Lib.hid (hx5.out.below hB6 hx5.out.lt)
          have hq6 := Lib.hid (hq5.out.below hB6 hq5.out.lt)
          have ho6 := Lib.hid (own_below ho5.out hB6)
          have hr6 := Lib.hid (hr5.out.below hB6)
          have hG6 := Lib.hid (only_trans_row hG5.out (only_of_below hB6 (some b)))
          clear hB6 c0 c1 c2 c3 c4 c5 c6 c7
          obtain ⟨c0, c1, c2, c3, c4, c5, c6, c7⟩ := hx6.out.cells
          obtain ⟨d0, d1, d2, d3, d4, d5, d6, d7⟩ := hq6.out.cells
          have g0 := hq6.out.frozen 0
          have g1 := hq6.out.frozen 1
          have g2 := hq6.out.frozen 2
          have g3 := hq6.out.frozen 3
          have g4 := hq6.out.frozen 4
          have g5 := hq6.out.frozen 5
          have g6 := hq6.out.frozen 6
          have g7 := hq6.out.frozen 7
          go_wp2_with (fail)
          refine (must_yes _).mono ?_
          rintro e w7 ⟨rfl, rfl⟩
          go_wp2_with (fail)
          refine (show bodyPost _ _ _ Exit.ret _ (putR _ o ⟨i, k, noQ⟩ none 0 0) from ?_)
          have hQ8 := putR_at hq6.out ⟨i, k, noQ⟩ none 0 0
          have hR8 := hr6.out.grown (putR_grown _ o ⟨i, k, noQ⟩ none 0 0) (by omega)
          have ho8 := own_more (base := w.heap.size) (isF_own ho6.out (putR_grown _ o ⟨i, k, noQ⟩ none 0 0) (by omega)) (by rw [HO.out]; omega)
          have hG8 := putR_only hG6.out (Nat.le_of_eq HO.out) ⟨i, k, noQ⟩ none 0 0
          generalize putR _ o ⟨i, k, noQ⟩ none 0 0 = w8 at hQ8 hR8 hG8 ho8 ⊢
          exact request_end (o := o) (c := 0) (A := none) (x := ⟨i, k, noQ⟩) rfl rfl hQ8 H.out hR8 ho8 hG8
        · have H : Hid (rdMay s = none) := by
            show _ = _
            unfold rdMay
            rw [HS.out]
            simp only [if_neg hm]
          go_wp2_with (fail)
          refine (may_c ⟨i, k, noQ⟩ none 0 0 (w4.setCell ⟨bx, 1, none⟩ (.int .i64 k)) (own_reads ho5.out) (by simp [maxLen]) (fun x hx => by simp [noQ] at hx)).mono ?_
          rintro e w6 ⟨rfl, hB6⟩
          rw [decide_eq_false hm]
          clear hm
          have HG := Lib.hid (only_trans_row hG5.out (only_of_below hB6 (some b)))
          go_wp2_with (fail)
          refine (must_no _).mono ?_
          rintro e w7 ⟨rfl, rfl⟩
          unfold thrown
          refine ⟨rfl, ?_⟩
          show RDone w _ b s thrown (rdMay s)
          rw [H.out]
          exact ⟨rfl, HG.out⟩
      · have hkb : ((k : Int) != 4) = true := by simp [h4]
        have hq := query_c b s p2 k (w4.setCell ⟨bx, 1, none⟩ (.int .i64 k)) hr5.out hs
        have HN4 := Lib.hid h4
        rcases h6 : rdQ s k p2 with _ | ⟨q, p3⟩
        · have H : Hid (rdMay s = none) := by show _ = _; simp only [rdMay, rdReq2, H1.out, H2.out, if_pos hk4, if_neg h4, h6]
          rw [h6] at hq
          clear h4
          go_wp2_with (fail)
          refine hq.mono ?_
          rintro e w6 ⟨rfl, hG⟩
          have HG := Lib.hid (only_trans_row hG5.out hG)
          unfold thrown
          refine ⟨rfl, ?_⟩
          show RDone w w6 b s thrown (rdMay s)
          rw [H.out]
          exact ⟨rfl, HG.out⟩
        · have HS : Hid (rdReq2 s = some (⟨i, k, q⟩, p3)) := by show _ = _; simp only [rdReq2, H1.out, H2.out, if_pos hk4, if_neg h4, h6]
          have hqb := Lib.hid (rdQ_bounded h6)
          rw [h6] at hq
          clear h4
          go_wp2_with (fail)
          refine hq.mono ?_
          rintro e w6 ⟨A, c, rfl, hr6, ho6, hG⟩
          have hx6 := hx5.out.grown hG (by omega)
          have hq6 := hq5.out.grown hG (by omega)
          have hG6 := only_trans_row hG5.out hG
          clear c0 c1 c2 c3 c4 c5 c6 c7 hq
          obtain ⟨c0, c1, c2, c3, c4, c5, c6, c7⟩ := hx6.cells
          have f2 := hx6.frozen 2
          have f3 := hx6.frozen 3
          have f4 := hx6.frozen 4
          have f5 := hx6.frozen 5
          have f6 := hx6.frozen 6
          have f7 := hx6.frozen 7
          have hx7 := Lib.hid (putRQ_at hx6 q A q.words.length c)
          have hq7 := Lib.hid (hq6.grown (putRQ_grown _ bx q A q.words.length c) (by omega))
          have hr7 := Lib.hid (hr6.grown (putRQ_grown _ bx q A q.words.length c) (by omega))
          have hG7 := Lib.hid (putRQ_only hG6 (o := bx) (by rw [HO.out]; omega) q A q.words.length c)
          have ho7 := Lib.hid (isF_own (own_more (base := bx + 1) ho6 (by rw [hf5]; omega)) (putRQ_grown _ bx q A q.words.length c) (by omega))
          clear hx5 hq5 hr5 hG5 hx6 hq6 hr6 hG6 ho6 hG
          have hx5 := hx7
          have hq5 := hq7
          have hr5 := hr7
          have hG5 := hG7
          have ho5 := ho7
          clear hx7 hq7 hr7 hG7 ho7
          by_cases hm : mayReq ⟨i, k, q⟩
          · have H : Hid (rdMay s = some (⟨i, k, q⟩, p3)) := by
              show _ = _
              unfold rdMay
              rw [HS.out]
              simp only [if_pos hm]
            go_wp2_with (fail)
            refine (may_c ⟨i, k, q⟩ A q.words.length c (putRQ w6 bx q A q.words.length c) (own_reads ho5.out) (by have := hqb.out.2; unfold maxLen; omega) hqb.out.1).mono ?_
            rintro e w6 ⟨rfl, hB6⟩
            rw [decide_eq_true hm]
            clear hm
            have hx6 := Lib.hid (hx5.out.below hB6 hx5.out.lt)
            have hq6 := Lib.hid (hq5.out.below hB6 hq5.out.lt)
            have ho6 := Lib.hid (own_below ho5.out hB6)
            have hr6 := Lib.hid (hr5.out.below hB6)
            have hG6 := Lib.hid (only_trans_row hG5.out (only_of_below hB6 (some b)))
            clear hB6 c0 c1 c2 c3 c4 c5 c6 c7
            obtain ⟨c0, c1, c2, c3, c4, c5, c6, c7⟩ := hx6.out.cells
            obtain ⟨d0, d1, d2, d3, d4, d5, d6, d7⟩ := hq6.out.cells
            have g0 := hq6.out.frozen 0
            have g1 := hq6.out.frozen 1
            have g2 := hq6.out.frozen 2
            have g3 := hq6.out.frozen 3
            have g4 := hq6.out.frozen 4
            have g5 := hq6.out.frozen 5
            have g6 := hq6.out.frozen 6
            have g7 := hq6.out.frozen 7
            go_wp2_with (fail)
            refine (must_yes _).mono ?_
            rintro e w7 ⟨rfl, rfl⟩
            go_wp2_with (fail)
            refine (show bodyPost _ _ _ Exit.ret _ (putR _ o ⟨i, k, q⟩ A q.words.length c) from ?_)
            have hQ8 := putR_at hq6.out ⟨i, k, q⟩ A q.words.length c
            have hR8 := hr6.out.grown (putR_grown _ o ⟨i, k, q⟩ A q.words.length c) (by omega)
            have ho8 := own_more (base := w.heap.size) (isF_own ho6.out (putR_grown _ o ⟨i, k, q⟩ A q.words.length c) (by omega)) (by rw [HO.out]; omega)
            have hG8 := putR_only hG6.out (Nat.le_of_eq HO.out) ⟨i, k, q⟩ A q.words.length c
            generalize putR _ o ⟨i, k, q⟩ A q.words.length c = w8 at hQ8 hR8 hG8 ho8 ⊢
            exact request_end (o := o) (c := c) (A := A) (x := ⟨i, k, q⟩) rfl rfl hQ8 H.out hR8 ho8 hG8
          · have H : Hid (rdMay s = none) := by
              show _ = _
              unfold rdMay
              rw [HS.out]
              simp only [if_neg hm]
            go_wp2_with (fail)
            refine (may_c ⟨i, k, q⟩ A q.words.length c (putRQ w6 bx q A q.words.length c) (own_reads ho5.out) (by have := hqb.out.2; unfold maxLen; omega) hqb.out.1).mono ?_
            rintro e w6 ⟨rfl, hB6⟩
            rw [decide_eq_false hm]
            clear hm
            have HG := Lib.hid (only_trans_row hG5.out (only_of_below hB6 (some b)))
            go_wp2_with (fail)
            refine (must_no _).mono ?_
            rintro e w7 ⟨rfl, rfl⟩
            unfold thrown
            refine ⟨rfl, ?_⟩
            show RDone w _ b s thrown (rdMay s)
            rw [H.out]
            exact ⟨rfl, HG.out⟩
end Go.Proofs.Ytmnjlhifjjainaa
