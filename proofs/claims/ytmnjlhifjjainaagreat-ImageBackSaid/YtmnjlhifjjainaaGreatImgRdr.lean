/-
  The program's reader: a number, a row, a text, several texts; what is none is thrown.
-/
import Derived.Test.YtmnjlhifjjainaaGreatImgBox
import Derived.Defers
import Derived.Recover
namespace Go.Proofs.YtmnjlhifjjainaaGreat
open Go.RowKit

/-- What is thrown. -/
def thrown : Ending := .panicked [{ v := .iface 27 (.int .i64 30), recovered := false }]

/-- The program's reader in its cells. -/
def RiAt (w : World) (b : Nat) (s : ByteArray) (p : Int) : Prop := w.heap[b]? = some (.cells #[.string s, .int .i64 p] 68 (0, 0))
theorem RiAt.cells {w : World} {b : Nat} {s : ByteArray} {p : Int} (h : RiAt w b s p) : w.cell? ⟨b, 0, none⟩ = some (.string s) ∧ w.cell? ⟨b, 1, none⟩ = some (.int .i64 p) := by
  unfold RiAt at h
  refine ⟨?_, ?_⟩ <;> · rw [Lib.cell_of_heap h]; rfl
theorem RiAt.frozen {w : World} {b : Nat} {s : ByteArray} {p : Int} (h : RiAt w b s p) (k : Nat) : w.frozen? ⟨b, k, none⟩ = false := Lib.frozen_of_heap h k
theorem RiAt.lt {w : World} {b : Nat} {s : ByteArray} {p : Int} (h : RiAt w b s p) : b < w.heap.size := (Array.getElem?_eq_some_iff.1 h).1
theorem RiAt.below {w w' : World} {b : Nat} {s : ByteArray} {p : Int} (h : RiAt w b s p) (hb : Below w.heap.size w w') : RiAt w' b s p := (hb.block b h.lt).trans h
theorem RiAt.keep {w w' : World} {b g : Nat} {s : ByteArray} {p : Int} (h : RiAt w b s p) (hg : w.grownBy w' (some g)) (hne : b ≠ g) : RiAt w' b s p := (hg.block b h.lt (fun e => hne (by injection e))).trans h
theorem RiAt.setPlace {w : World} {b : Nat} {s : ByteArray} {p : Int} (h : RiAt w b s p) (p' : Int) : RiAt (w.setCell ⟨b, 1, none⟩ (.int .i64 p')) b s p' := by
  have := heap_setCell_same w b 1 _ _ (.int .i64 p') h
  unfold RiAt
  simpa using this

set_option maxRecDepth 100000 in
theorem gotN_no (r : Value) (x : Int) (q : Int) (w : World) : Calls Tryz.prog 51 #[r, .int .i64 x, .int .i64 q, .bool false] w fun e w' => e = thrown ∧ w' = w := by
  go_enter Tryz.func51, Tryz.ntmps51
  go_wp2
  exact ⟨rfl, rfl, rfl⟩
set_option maxRecDepth 100000 in
theorem gotN_yes (b : Nat) (s : ByteArray) (p : Int) (q : Nat) (x : Int) (w : World) (hc : RiAt w b s p) : Calls Tryz.prog 51 #[.pointer (some ⟨b, 0, none⟩), .int .i64 x, .int .i64 (q : Int), .bool true] w fun e w' => e = .returned (.int .i64 x) ∧ RiAt w' b s q ∧ w.grownBy w' (some b) := by
  obtain ⟨c0, c1⟩ := hc.cells
  have f1 := hc.frozen 1
  have hc3 := Lib.hid (hc.setPlace q)
  clear hc
  go_enter Tryz.func51, Tryz.ntmps51
  go_wp2
  go_ret
  exact ⟨rfl, hc3.out, grown_set _ b 1 _⟩

set_option maxRecDepth 100000 in
theorem gotT_no (r : Value) (x : ByteArray) (q : Int) (w : World) : Calls Tryz.prog 55 #[r, .string x, .int .i64 q, .bool false] w fun e w' => e = thrown ∧ w' = w := by
  go_enter Tryz.func55, Tryz.ntmps55
  go_wp2
  exact ⟨rfl, rfl, rfl⟩
set_option maxRecDepth 100000 in
theorem gotT_yes (b : Nat) (s : ByteArray) (p : Int) (q : Nat) (x : ByteArray) (w : World) (hc : RiAt w b s p) : Calls Tryz.prog 55 #[.pointer (some ⟨b, 0, none⟩), .string x, .int .i64 (q : Int), .bool true] w fun e w' => e = .returned (.string x) ∧ RiAt w' b s q ∧ w.grownBy w' (some b) := by
  obtain ⟨c0, c1⟩ := hc.cells
  have f1 := hc.frozen 1
  have hc3 := Lib.hid (hc.setPlace q)
  clear hc
  go_enter Tryz.func55, Tryz.ntmps55
  go_wp2
  go_ret
  exact ⟨rfl, hc3.out, grown_set _ b 1 _⟩

set_option maxRecDepth 100000 in
theorem gotR_no (r : Value) (x : Value) (q : Int) (w : World) : Calls Tryz.prog 53 #[r, x, .int .i64 q, .bool false] w fun e w' => e = thrown ∧ w' = w := by
  go_enter Tryz.func53, Tryz.ntmps53
  go_wp2
  exact ⟨rfl, rfl, rfl⟩
set_option maxRecDepth 100000 in
theorem gotR_yes (b : Nat) (s : ByteArray) (p : Int) (q : Nat) (x : Value) (w : World) (hc : RiAt w b s p) : Calls Tryz.prog 53 #[.pointer (some ⟨b, 0, none⟩), x, .int .i64 (q : Int), .bool true] w fun e w' => e = .returned (x) ∧ RiAt w' b s q ∧ w.grownBy w' (some b) := by
  obtain ⟨c0, c1⟩ := hc.cells
  have f1 := hc.frozen 1
  have hc3 := Lib.hid (hc.setPlace q)
  clear hc
  go_enter Tryz.func53, Tryz.ntmps53
  go_wp2
  go_ret
  exact ⟨rfl, hc3.out, grown_set _ b 1 _⟩

set_option maxRecDepth 100000 in
set_option maxHeartbeats 4000000 in
theorem riNumber_none (b : Nat) (s : ByteArray) (p : Int) (w : World) (hc : RiAt w b s p) (hs : s.size ≤ 1000000) (ho : rdAt s p = none) :
    Calls Tryz.prog 24 #[.pointer (some ⟨b, 0, none⟩)] w fun e w' => e = thrown ∧ w.grownBy w' (some b) := by
  obtain ⟨c0, c1⟩ := hc.cells
  have HC := Lib.hid hc
  clear hc
  have HO := Lib.hid ho
  clear ho
  go_enter Tryz.func24, Tryz.ntmps24
  go_wp2_with (fail)
  go_region_law (go_simp; go_at_call 50; refine (readNumberT s p _ hs).mono ?_; rintro e w2 ⟨rfl, hB2⟩; rw [HO.out]; simp [anNum, anPlace])
  all_goals
    rename_i Q' K hK
    have hG := (only_of_below (a := w) (w := w2) ⟨hB2.os, hB2.tape, hB2.output, hB2.size, hB2.block⟩ (some b))
    refine hK _ _ ?_
    clear hK K hB2 c0 c1
    go_wp2_with (fail)
    refine (gotN_no _ _ _ _).mono ?_
    rintro e w3 ⟨rfl, rfl⟩
    unfold thrown
    first | exact ⟨rfl, rfl, hG⟩ | (go_wp2_with (fail); exact ⟨rfl, rfl, hG⟩)

set_option maxRecDepth 100000 in
set_option maxHeartbeats 4000000 in
theorem riNumber_some (b : Nat) (s : ByteArray) (p : Int) (x : Nat) (q : Nat) (w : World) (hc : RiAt w b s p) (hs : s.size ≤ 1000000) (ho : rdAt s p = some (x, q)) :
    Calls Tryz.prog 24 #[.pointer (some ⟨b, 0, none⟩)] w fun e w' => e = .returned (.int .i64 (x : Nat)) ∧ RiAt w' b s q ∧ w.grownBy w' (some b) := by
  obtain ⟨c0, c1⟩ := hc.cells
  have HC := Lib.hid hc
  clear hc
  have HO := Lib.hid ho
  clear ho
  go_enter Tryz.func24, Tryz.ntmps24
  go_wp2_with (fail)
  go_region_law (go_simp; go_at_call 50; refine (readNumberT s p _ hs).mono ?_; rintro e w2 ⟨rfl, hB2⟩; rw [HO.out]; simp [anNum, anPlace])
  all_goals
    rename_i Q' K hK
    have hc2 := (RiAt.below (w := w) HC.out ⟨hB2.os, hB2.tape, hB2.output, hB2.size, hB2.block⟩)
    have hG := Lib.hid (only_of_below (a := w) (w := w2) ⟨hB2.os, hB2.tape, hB2.output, hB2.size, hB2.block⟩ (some b))
    refine hK _ _ ?_
    clear hK K hB2 c0 c1
    have hc2 := Lib.hid hc2
    go_wp2_with (fail)
    refine (gotN_yes b s p q _ _ hc2.out).mono ?_
    rintro e w3 ⟨rfl, hr, hg⟩
    go_wp2_with (fail)
    go_ret
    exact ⟨rfl, hr, only_trans_row hG.out hg⟩

set_option maxRecDepth 100000 in
set_option maxHeartbeats 4000000 in
theorem riText_none (b : Nat) (s : ByteArray) (p : Int) (w : World) (hc : RiAt w b s p) (hs : s.size ≤ 1000000) (ho : rdText s p = none) :
    Calls Tryz.prog 27 #[.pointer (some ⟨b, 0, none⟩)] w fun e w' => e = thrown ∧ w.grownBy w' (some b) := by
  obtain ⟨c0, c1⟩ := hc.cells
  have HC := Lib.hid hc
  clear hc
  have HO := Lib.hid ho
  clear ho
  go_enter Tryz.func27, Tryz.ntmps27
  go_wp2_with (fail)
  go_region_law (go_simp; go_at_call 54; refine (readTextT s p _ hs).mono ?_; rintro e w2 ⟨rfl, hB2⟩; rw [HO.out]; simp [anText, anPlace])
  all_goals
    rename_i Q' K hK
    have hG := (only_of_below (a := w) (w := w2) ⟨hB2.os, hB2.tape, hB2.output, hB2.size, hB2.block⟩ (some b))
    refine hK _ _ ?_
    clear hK K hB2 c0 c1
    go_wp2_with (fail)
    refine (gotT_no _ _ _ _).mono ?_
    rintro e w3 ⟨rfl, rfl⟩
    unfold thrown
    first | exact ⟨rfl, rfl, hG⟩ | (go_wp2_with (fail); exact ⟨rfl, rfl, hG⟩)

set_option maxRecDepth 100000 in
set_option maxHeartbeats 4000000 in
theorem riText_some (b : Nat) (s : ByteArray) (p : Int) (x : ByteArray) (q : Nat) (w : World) (hc : RiAt w b s p) (hs : s.size ≤ 1000000) (ho : rdText s p = some (x, q)) :
    Calls Tryz.prog 27 #[.pointer (some ⟨b, 0, none⟩)] w fun e w' => e = .returned (.string x) ∧ RiAt w' b s q ∧ w.grownBy w' (some b) := by
  obtain ⟨c0, c1⟩ := hc.cells
  have HC := Lib.hid hc
  clear hc
  have HO := Lib.hid ho
  clear ho
  go_enter Tryz.func27, Tryz.ntmps27
  go_wp2_with (fail)
  go_region_law (go_simp; go_at_call 54; refine (readTextT s p _ hs).mono ?_; rintro e w2 ⟨rfl, hB2⟩; rw [HO.out]; simp [anText, anPlace])
  all_goals
    rename_i Q' K hK
    have hc2 := (RiAt.below (w := w) HC.out ⟨hB2.os, hB2.tape, hB2.output, hB2.size, hB2.block⟩)
    have hG := Lib.hid (only_of_below (a := w) (w := w2) ⟨hB2.os, hB2.tape, hB2.output, hB2.size, hB2.block⟩ (some b))
    refine hK _ _ ?_
    clear hK K hB2 c0 c1
    have hc2 := Lib.hid hc2
    go_wp2_with (fail)
    refine (gotT_yes b s p q _ _ hc2.out).mono ?_
    rintro e w3 ⟨rfl, hr, hg⟩
    go_wp2_with (fail)
    go_ret
    exact ⟨rfl, hr, only_trans_row hG.out hg⟩

set_option maxRecDepth 100000 in
set_option maxHeartbeats 4000000 in
theorem riRow_none (b : Nat) (s : ByteArray) (p : Int) (w : World) (hc : RiAt w b s p) (hs : s.size ≤ 1000000) (ho : rdNums s p = none) :
    Calls Tryz.prog 25 #[.pointer (some ⟨b, 0, none⟩)] w fun e w' => e = thrown ∧ w.grownBy w' (some b) := by
  obtain ⟨c0, c1⟩ := hc.cells
  have HC := Lib.hid hc
  clear hc
  have HO := Lib.hid ho
  clear ho
  go_enter Tryz.func25, Tryz.ntmps25
  go_wp2_with (fail)
  go_region_law (go_simp; go_at_call 52; refine (readNumbersT s p _ hs).mono ?_; rintro e w2 ⟨⟨A, c, rfl, hown⟩, hB2⟩; rw [HO.out] at hown ⊢; simp [anRow, anPlace] at hown ⊢)
  all_goals
    rename_i Q' K hK
    have hG := (only_of_below (a := w) (w := w2) ⟨hB2.os, hB2.tape, hB2.output, hB2.size, hB2.block⟩ (some b))
    refine hK _ _ ?_
    clear hK K hB2 c0 c1
    go_wp2_with (fail)
    refine (gotR_no _ _ _ _).mono ?_
    rintro e w3 ⟨rfl, rfl⟩
    unfold thrown
    first | exact ⟨rfl, rfl, hG⟩ | (go_wp2_with (fail); exact ⟨rfl, rfl, hG⟩)

set_option maxRecDepth 100000 in
set_option maxHeartbeats 4000000 in
theorem riRow_some (b : Nat) (s : ByteArray) (p : Int) (x : List Int) (q : Nat) (w : World) (hc : RiAt w b s p) (hs : s.size ≤ 1000000) (ho : rdNums s p = some (x, q)) :
    Calls Tryz.prog 25 #[.pointer (some ⟨b, 0, none⟩)] w fun e w' => ∃ A c, e = .returned (.slice A x.length c) ∧ RiAt w' b s q ∧ w'.ownsRow w.heap.size 3 1 (.slice A x.length c) x.length (iv x) ∧ w.grownBy w' (some b) := by
  obtain ⟨c0, c1⟩ := hc.cells
  have HC := Lib.hid hc
  clear hc
  have HO := Lib.hid ho
  clear ho
  go_enter Tryz.func25, Tryz.ntmps25
  go_wp2_with (fail)
  go_region_law (go_simp; go_at_call 52; refine (readNumbersT s p _ hs).mono ?_; rintro e w2 ⟨⟨A, c, rfl, hown⟩, hB2⟩; rw [HO.out] at hown ⊢; simp [anRow, anPlace] at hown ⊢)
  all_goals
    rename_i Q' K hK
    have hc2 := (RiAt.below (w := w) HC.out ⟨hB2.os, hB2.tape, hB2.output, hB2.size, hB2.block⟩)
    have hG := Lib.hid (only_of_below (a := w) (w := w2) ⟨hB2.os, hB2.tape, hB2.output, hB2.size, hB2.block⟩ (some b))
    refine hK _ _ ?_
    clear hK K hB2 c0 c1
    have hc2 := Lib.hid hc2
    have hbl := HC.out.lt
    go_wp2_with (fail)
    refine (gotR_yes b s p q _ _ hc2.out).mono ?_
    rintro e w3 ⟨rfl, hr, hg⟩
    go_wp2_with (fail)
    go_ret
    exact ⟨A, c, rfl, hr, isF_own hown hg hbl, only_trans_row hG.out hg⟩

/-- So many texts, no more than may be. -/
def sevO (s : ByteArray) (n p : Nat) : Option (List ByteArray × Nat) := if n ≤ 8 then rdWords s n p else none
def SevDone (w w' : World) (b : Nat) (s : ByteArray) (e : Ending) : Option (List ByteArray × Nat) → Prop
  | some (l, q) => ∃ A c, e = .returned (.slice A l.length c) ∧ RiAt w' b s q ∧ w'.ownsRow w.heap.size 9 1 (.slice A l.length c) l.length (sv l) ∧ w.grownBy w' (some b)
  | none => e = thrown ∧ w.grownBy w' (some b)
theorem sev_no {w w' : World} {b n p : Nat} {s : ByteArray} (h : sevO s n p = none) (hg : w.grownBy w' (some b)) : SevDone w w' b s thrown (sevO s n p) := by
  rw [h]; exact ⟨rfl, hg⟩
theorem sev_yes {w w' : World} {b n p q c : Nat} {s : ByteArray} {l : List ByteArray} {A : Option Addr} (h : sevO s n p = some (l, q)) (hl : l.length = n) (hr : RiAt w' b s q) (ho : w'.ownsRow w.heap.size 9 1 (.slice A n c) n (sv l)) (hg : w.grownBy w' (some b)) : SevDone w w' b s (.returned (.slice A n c)) (sevO s n p) := by
  subst hl
  rw [h]; exact ⟨A, c, rfl, hr, ho, hg⟩

set_option maxRecDepth 100000 in
set_option maxHeartbeats 2000000 in
theorem several_c (b : Nat) (s : ByteArray) (n p : Nat) (w : World) (hc : RiAt w b s p) (hs : s.size ≤ 1000000) :
    Calls Tryz.prog 26 #[.pointer (some ⟨b, 0, none⟩), .int .i64 (n : Int), .int .i64 8, .func (.func 27) #[] #[]] w fun e w' => SevDone w w' b s e (sevO s n p) := by
  have hbl := hc.lt
  by_cases hn : n ≤ 8
  rotate_left
  · have H : Hid (sevO s n p = none) := by show _ = _; unfold sevO; rw [if_neg hn]
    go_enter Tryz.func26, Tryz.ntmps26
    go_wp2
    exact ⟨rfl, sev_no H.out (only_refl _ _)⟩
  · have HS : Hid (sevO s n p = rdWords s n p) := by show _ = _; unfold sevO; rw [if_pos hn]
    have HC := Lib.hid hc
    clear hc
    go_enter Tryz.func26, Tryz.ntmps26
    go_wp2_with (fail)
    go_loopw [9, 15] (fun out i wr => ∃ (k : Nat) (l : List ByteArray) (p3 : Nat) (A : Option Addr) (c : Nat), k ≤ n ∧ i = .int .i64 k ∧ out = .slice A k c ∧ Hid (l.length = k) ∧ Hid (rdWords s k p = some (l, p3)) ∧ RiAt wr b s p3 ∧ wr.ownsRow w.heap.size 9 1 (.slice A k c) k (sv l) ∧ w.grownBy wr (some b)) (fun _ i _ => n - (intOf i).toNat)
    case atStart => exact ⟨0, [], p, none, 0, Nat.zero_le _, rfl, rfl, rfl, rfl, HC.out, own_nil, only_refl _ _⟩
    case round =>
      clear HC
      obtain ⟨k, l, p3, A, c, hk, rfl, rfl, hll, hrd, hr, ho, hG⟩ := hrel
      have HG := Lib.hid hG
      have HR := Lib.hid hr
      clear hr hG
      by_cases hkn : k < n
      · rcases h3 : rdText s p3 with _ | ⟨t, p4⟩
        · have H : Hid (sevO s n p = none) := by show _ = _; rw [HS.out, rdWords_stop hrd.out h3 hkn]
          go_wp2_with (fail)
          refine (riText_none b s p3 _ HR.out hs h3).mono ?_
          rintro e w5 ⟨rfl, hG5⟩
          have HG5 := Lib.hid (only_trans_row HG.out hG5)
          unfold thrown
          first | exact ⟨rfl, sev_no H.out HG5.out⟩ | (go_wp2_with (fail); exact ⟨rfl, sev_no H.out HG5.out⟩)
        · have hrd2 := Lib.hid (rdWords_more hrd.out h3)
          go_wp2_with (fail)
          refine (riText_some b s p3 t p4 _ HR.out hs h3).mono ?_
          rintro e w5 ⟨rfl, hr5, hG5⟩
          have ho5 := isF_own ho hG5 hbl
          have hG6 := only_trans_row HG.out hG5
          have hs5 : w.heap.size ≤ w5.heap.size := hG6.size
          have HR5 := Lib.hid hr5
          have HG5 := Lib.hid hG6
          clear hr5 hG5 hG6 ho h3
          go_wp2_with (at_builtin; refine wpList_push elTexts rfl _ _ rfl ho5 rfl _ rfl rfl (one_str t) (by unfold maxLen; omega) (by omega) hs5 ?_; intro A8 c8 w8 ho8 p8)
          have hr8 : RiAt w8 b s p4 := (p8.heap HR5.out.lt (fun x hx => by have := (own_lt ho5 x hx).1; omega)).trans HR5.out
          have hG8 : w.grownBy w8 (some b) := p8.only HG5.out (fun x hx => (own_lt ho5 x hx).1)
          go_roundw
          case rel =>
            refine ⟨k + 1, l ++ [t], p4, A8, c8, by omega, by go_num, rfl, by show _ = _; rw [List.length_append, hll.out]; rfl, hrd2.out, hr8, ?_, hG8⟩
            rw [sv_append]
            exact ho8
          case measure => simp [intOf] <;> omega
      · obtain rfl : k = n := by omega
        have H : Hid (sevO s k p = some (l, p3)) := by show _ = _; rw [HS.out, hrd.out]
        go_wp2_with (fail)
        go_ret
        exact sev_yes H.out hll.out HR.out ho HG.out
end Go.Proofs.YtmnjlhifjjainaaGreat
