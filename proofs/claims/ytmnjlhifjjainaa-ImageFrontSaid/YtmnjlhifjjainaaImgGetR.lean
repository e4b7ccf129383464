/-
  The reference parses an image: a place.
-/
import Derived.Test.YtmnjlhifjjainaaImgBox
import Derived.Test.YtmnjlhifjjainaaImgPutR
import Derived.Test.YtmnjlhifjjainaaImgCatch
namespace Go.Proofs.Ytmnjlhifjjainaa
open Go.RowKit

/-- What a call that reads a place gives. -/
def PlDone (w w' : World) (e : Ending) : Option ((List Int × List ByteArray) × Nat) → Prop
  | some (x, q) => ∃ A n c A' n' c', e = .returned (.tuple #[.slice A n c, .slice A' n' c', .int .i64 (q : Int), .bool true]) ∧ w'.ownsRow w.heap.size 3 1 (.slice A n c) n (iv x.1) ∧ w'.ownsRow w.heap.size 9 1 (.slice A' n' c') n' (sv x.2) ∧ Below w.heap.size w w'
  | none => e = .returned (.tuple #[.slice none 0 0, .slice none 0 0, .int .i64 0, .bool false]) ∧ Below w.heap.size w w'
theorem pl_no {w w' : World} {s : ByteArray} {p : Nat} (h : rdPlace s p = none) (hB : Below w.heap.size w w') : PlDone w w' (.returned (.tuple #[.slice none 0 0, .slice none 0 0, .int .i64 0, .bool false])) (rdPlace s p) := by
  rw [h]; exact ⟨rfl, hB⟩
theorem pl_yes {w w' : World} {s : ByteArray} {p q n c n' c' : Nat} {x : List Int × List ByteArray} {A A' : Option Addr} (h : rdPlace s p = some (x, q)) (h1 : w'.ownsRow w.heap.size 3 1 (.slice A n c) n (iv x.1)) (h2 : w'.ownsRow w.heap.size 9 1 (.slice A' n' c') n' (sv x.2)) (hB : Below w.heap.size w w') :
    PlDone w w' (.returned (.tuple #[.slice A n c, .slice A' n' c', .int .i64 (q : Int), .bool true])) (rdPlace s p) := by
  rw [h]; exact ⟨A, n, c, A', n', c', rfl, h1, h2, hB⟩

theorem place_end {a : Act} {w5 : World} {R : Ending → World → Prop} {v0 v1 v2 v3 : Value} (h4 : a.tmps.getD 4 undef = v0) (h5 : a.tmps.getD 5 undef = v1) (h6 : a.tmps.getD 6 undef = v2) (h7 : a.tmps.getD 7 undef = v3) (hd : a.defers = [])
    (h : R (.returned (.tuple #[v0, v1, v2, v3])) w5) : bodyPost Try.prog Try.f74 R Exit.ret a w5 := by
  refine bodyPost_ret (v := .tuple #[v0, v1, v2, v3]) ?_ hd h
  subst h4 h5 h6 h7
  simp [results, Try.results74]

set_option maxRecDepth 100000 in
set_option maxHeartbeats 4000000 in
theorem refPlace_c (s : ByteArray) (p : Nat) (w : World) (hs : s.size ≤ 1000000) :
    Calls Try.prog 74 #[.string s, .int .i64 (p : Int)] w fun e w' => PlDone w w' e (rdPlace s p) := by
  rcases h1 : rdNums s p with _ | ⟨xs, p1⟩
  · have H : Hid (rdPlace s p = none) := by show _ = _; unfold rdPlace; rw [h1]
    have H1 := Lib.hid h1
    clear h1
    go_enter Try.func74, Try.ntmps74
    go_wp2_with (fail)
    refine (refReadNumbersT s p _ hs).mono ?_
    rintro e w1 ⟨⟨A, c, rfl, ho⟩, hB1⟩
    rw [H1.out]
    clear ho
    simp only [anRow, anPlace, Option.isSome_none, List.length_nil]
    go_wp2_with (fail)
    refine (refReadNumberT s 0 _ hs).mono ?_
    rintro e w2 ⟨rfl, hB2⟩
    have hB := Lib.hid (hB1.trans (hB2.mono hB1.size))
    clear hB1 hB2
    go_wp2_with (fail)
    refine place_end rfl rfl rfl rfl rfl ?_
    exact pl_no H.out hB.out
  · rcases h2 : rdAt s p1 with _ | ⟨m, p2⟩
    · have H : Hid (rdPlace s p = none) := by show _ = _; unfold rdPlace; rw [h1]; simp only []; rw [h2]
      have H1 := Lib.hid h1
      have H2 := Lib.hid h2
      clear h1 h2
      go_enter Try.func74, Try.ntmps74
      go_wp2_with (fail)
      refine (refReadNumbersT s p _ hs).mono ?_
      rintro e w1 ⟨⟨A, c, rfl, ho⟩, hB1⟩
      rw [H1.out]
      clear ho
      simp only [anRow, anPlace, Option.isSome_some]
      go_wp2_with (fail)
      refine (refReadNumberT s p1 _ hs).mono ?_
      rintro e w2 ⟨rfl, hB2⟩
      rw [H2.out]
      simp only [anNum, anPlace, Option.isSome_none]
      have hB := Lib.hid (hB1.trans (hB2.mono hB1.size))
      clear hB1 hB2
      go_wp2_with (fail)
      refine place_end rfl rfl rfl rfl rfl ?_
      exact pl_no H.out hB.out
    · have H1 := Lib.hid h1
      have H2 := Lib.hid h2
      clear h1 h2
      go_enter Try.func74, Try.ntmps74
      go_wp2_with (fail)
      refine (refReadNumbersT s p _ hs).mono ?_
      rintro e w1 ⟨⟨A, c, rfl, ho⟩, hB1⟩
      rw [H1.out] at ho ⊢
      simp only [anRow] at ho
      simp only [anRow, anPlace, Option.isSome_some]
      go_wp2_with (fail)
      refine (refReadNumberT s p1 _ hs).mono ?_
      rintro e w2 ⟨rfl, hB2⟩
      rw [H2.out]
      simp only [anNum, anPlace, Option.isSome_some]
      have hB := Lib.hid (hB1.trans (hB2.mono hB1.size))
      have ho2 := Lib.hid (own_below ho hB2)
      clear hB1 hB2 ho
      by_cases h8 : m ≤ 8
      rotate_left
      · have H : Hid (rdPlace s p = none) := by show _ = _; unfold rdPlace; rw [H1.out]; simp only []; rw [H2.out]; simp only []; rw [if_neg h8]
        go_wp2_with (fail)
        refine place_end rfl rfl rfl rfl rfl ?_
        exact pl_no H.out hB.out
      · have HW : Hid (rdPlace s p = match rdWords s m p2 with
            | some (l, q3) => some ((xs, l), q3)
            | none => none) := by show _ = _; unfold rdPlace; rw [H1.out]; simp only []; rw [H2.out]; simp only []; rw [if_pos h8]; cases rdWords s m p2 <;> rfl
        go_wp2_with (fail)
        go_loopw [12, 14, 15] (fun at_ out i wr => ∃ (k p3 : Nat) (l : List ByteArray) (A' : Option Addr) (c' : Nat), k ≤ m ∧ i = .int .i64 k ∧ at_ = .int .i64 p3 ∧ out = .slice A' k c' ∧ Hid (rdWords s k p2 = some (l, p3)) ∧ wr.ownsRow w.heap.size 9 1 (.slice A' k c') k (sv l) ∧
            wr.ownsRow w.heap.size 3 1 (.slice A xs.length c) xs.length (iv xs) ∧ Below w.heap.size w wr) (fun _ _ i _ => m - (intOf i).toNat)
        case atStart => exact ⟨0, p2, [], none, 0, Nat.zero_le _, rfl, rfl, rfl, rfl, own_nil, ho2.out, hB.out⟩
        case round =>
          clear ho2 hB
          obtain ⟨k, p3, l, A', c', hk, rfl, rfl, rfl, hrd, ho', ho, hB⟩ := hrel
          have hsz := hB.size
          have HO := Lib.hid ho
          have HB := Lib.hid hB
          clear ho hB
          by_cases hkm : k < m
          · rcases h3 : rdText s p3 with _ | ⟨t, p4⟩
            · have H : Hid (rdPlace s p = none) := by show _ = _; rw [HW.out, rdWords_stop hrd.out h3 hkm]
              have H3 := Lib.hid h3
              clear h3
              go_wp2_with (fail)
              refine (refReadTextT s p3 _ hs).mono ?_
              rintro e w5 ⟨rfl, hB5⟩
              rw [H3.out]
              simp only [anText, anPlace, Option.isSome_none]
              have HB5 := Lib.hid (HB.out.trans (hB5.mono hsz))
              clear hB5
              go_wp2_with (fail)
              refine place_end rfl rfl rfl rfl rfl ?_
              exact pl_no H.out HB5.out
            · have hrd2 := Lib.hid (rdWords_more hrd.out h3)
              have H3 := Lib.hid h3
              clear h3
              go_wp2_with (fail)
              refine (refReadTextT s p3 _ hs).mono ?_
              rintro e w5 ⟨rfl, hB5⟩
              rw [H3.out]
              simp only [anText, anPlace, Option.isSome_some]
              have hb5 := HB.out.trans (hB5.mono hsz)
              have hs5 := hb5.size
              have HB5 := Lib.hid hb5
              have ho5 := own_below ho' hB5
              have HO5 := Lib.hid (own_below HO.out hB5)
              clear hB5 hb5 ho'
              go_wp2_with (at_builtin; refine wpList_push elTexts rfl _ _ rfl ho5 rfl _ rfl rfl (one_str t) (by unfold maxLen; omega) (by omega) hs5 ?_; intro A8 c8 w8 ho8 p8)
              have hb8 := Lib.hid (p8.below ho5 HB5.out (Nat.le_refl _) hs5)
              have ho9 := Lib.hid (p8.keep HO5.out (own_ne HO5.out ho5 (by decide)))
              go_roundw
              case rel =>
                refine ⟨k + 1, p4, l ++ [t], A8, c8, by omega, by go_num, rfl, rfl, hrd2.out, ?_, ho9.out, hb8.out⟩
                rw [sv_append]
                exact ho8
              case measure => simp [intOf]; omega
          · obtain rfl : k = m := by omega
            have H : Hid (rdPlace s p = some ((xs, l), p3)) := by show _ = _; rw [HW.out, hrd.out]
            have HO' := Lib.hid ho'
            clear ho'
            go_wp2_with (fail)
            refine place_end rfl rfl rfl rfl rfl ?_
            exact pl_yes (x := (xs, l)) H.out HO.out HO'.out HB.out
end Go.Proofs.Ytmnjlhifjjainaa
