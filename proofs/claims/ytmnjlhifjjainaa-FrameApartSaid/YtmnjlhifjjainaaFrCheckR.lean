/-
  Check of a query: the walks.
-/
import Derived.Test.YtmnjlhifjjainaaFrCheck
namespace Go.Proofs.Ytmnjlhifjjainaa
open Go.RowKit

theorem below_one (w : World) (o1 : Obj) : Below w.heap.size w (w.alloc o1) := (Below.refl _ _).alloc (Nat.le_refl _) _
theorem chk_ok {q : Qry} (h : chkQ q) : chkErr q = 0 := if_pos h
theorem chk_bad {q : Qry} (h : ¬ chkQ q) : chkErr q = 180 := if_neg h
theorem chkQ_low {q : Qry} (h1 : 1 ≤ q.kind) (h2 : q.kind < 3) (h3 : place q.src) (h4 : place q.dst) : chkQ q := ⟨⟨h1, by omega⟩, h3, fun _ => h4, fun h => by omega⟩
def many (q : Qry) : Prop := (1 ≤ q.words.length ∧ q.words.length ≤ 8) ∧ (0 ≤ q.radius ∧ q.radius ≤ 200) ∧ (1 ≤ q.most ∧ q.most ≤ 100)
theorem chkQ_words {q : Qry} (h1 : q.kind = 3) (h3 : place q.src) (h4 : many q) (h5 : allWords q.words) : chkQ q := ⟨⟨by omega, by omega⟩, h3, fun h => by omega, fun _ => ⟨h4.1, h4.2.1, h4.2.2, h5⟩⟩
theorem chkQ_many {q : Qry} (h1 : q.kind = 3) (h : chkQ q) : many q ∧ allWords q.words := by
  obtain ⟨a, b, c, d⟩ := h.2.2.2 h1
  exact ⟨⟨a, b, c⟩, d⟩

set_option maxRecDepth 100000 in
set_option maxHeartbeats 4000000 in
theorem refCheck_c (q : Qry) (A : Option Addr) (n c : Nat) (w : World) (h1 : Reads w w.heap.size 1 A n (sv q.words)) (hn : n ≤ maxLen) (hb : Hid (bounded q.words)) :
    Calls Try.prog 86 #[.agg #[.int .i64 q.kind, .int .i64 q.src, .int .i64 q.dst, .slice A n c, .int .i64 q.radius, .int .i64 q.most], .int .i64 200] w fun e w' => e = .returned (.int .i64 (chkErr q)) ∧ Below w.heap.size w w' := by
  have l1 := Lib.hid h1.str_len
  have HR := Lib.hid h1
  clear h1
  unfold maxLen at hn
  have hqb := Lib.hid (QAt.new w q A n c)
  have hBq := below_one w (.cells #[.int .i64 q.kind, .int .i64 q.src, .int .i64 q.dst, .slice A n c, .int .i64 q.radius, .int .i64 q.most] 24)
  by_cases hk : 1 ≤ q.kind ∧ q.kind ≤ 3
  · obtain ⟨hk1, hk3⟩ := hk
    go_enter Try.func86, Try.ntmps86
    go_wp2_with (fail)
    refine (refPlace_c q.src _).mono ?_
    rintro e w2 ⟨rfl, hB2⟩
    have hq2 := hqb.out.below hB2 (by simp)
    have hBB := hBq.trans (hB2.mono hBq.size)
    clear hqb hBq hB2
    by_cases hp : place q.src
    · rw [decide_eq_true hp]
      have HP := Lib.hid hp
      clear hp
      obtain ⟨c0, c1, c2, c3, c4, c5⟩ := hq2.cells
      by_cases hk2 : q.kind < 3
      · have HQ := Lib.hid hq2
        clear hq2
        go_wp2_with (fail)
        refine (refPlace_c q.dst _).mono ?_
        rintro e w3 ⟨rfl, hB3⟩
        have hs : w.heap.size < w2.heap.size := HQ.out.lt
        obtain ⟨d0, d1, d2, d3, d4, d5⟩ := (HQ.out.below hB3 hs).cells
        have hBC := hBB.trans (hB3.mono hBB.size)
        clear hB3 hBB c0 c1 c2 c3 c4 c5
        by_cases hd : place q.dst
        · rw [decide_eq_true hd]
          have H := Lib.hid (chk_ok (chkQ_low hk1 hk2 HP.out hd))
          clear hd
          go_wp2_with (fail)
          go_ret
          exact ⟨ret_int H.out.symm, hBC⟩
        · rw [decide_eq_false hd]
          have H := Lib.hid (chk_bad (q := q) fun h => hd (h.2.2.1 hk2))
          clear hd
          go_wp2_with (fail)
          go_ret
          exact ⟨ret_int H.out.symm, hBC⟩
      · have hk4 : q.kind = 3 := by omega
        by_cases hm : many q
        · have HM := Lib.hid hm
          have e1 : ¬ (n : Int) < 1 := by have := hm.1.1; have := l1.out; omega
          have e2 : ¬ 8 < (n : Int) := by have := hm.1.2; have := l1.out; omega
          have e3 : ¬ q.radius < 0 := by have := hm.2.1.1; omega
          have e4 : ¬ 200 < q.radius := by have := hm.2.1.2; omega
          have e5 : ¬ q.most < 1 := by have := hm.2.2.1; omega
          have e6 : ¬ 100 < q.most := by have := hm.2.2.2; omega
          have HQ := Lib.hid hq2
          clear hq2 hm
          go_wp2_with (fail)
          go_loopw [5] (fun i wr => ∃ k : Nat, k ≤ n ∧ i = .int .i64 k ∧ Hid (allWords (q.words.take k)) ∧ QAt wr w.heap.size q A n c ∧ Below w.heap.size w wr) (fun i _ => n - (intOf i).toNat)
          case atStart => exact ⟨0, Nat.zero_le _, rfl, fun c hc => by simp at hc, HQ.out, hBB⟩
          case round =>
            clear HQ c0 c1 c2 c3 c4 c5 hBB
            obtain ⟨k, hk, rfl, hl, hqr, hB⟩ := hrel
            obtain ⟨c0, c1, c2, c3, c4, c5⟩ := hqr.cells
            by_cases hlt : k < n
            · obtain ⟨a1, o1, x, rfl, hx, hc1⟩ := (HR.out.below hB).str_at hlt
              have HQ := Lib.hid hqr
              clear hqr
              go_wp2_with (fail)
              refine (refWord_c x _ (bounded_at hb.out hx.out)).mono ?_
              rintro e w3 ⟨rfl, hB3⟩
              have hq3 := Lib.hid (HQ.out.below hB3 HQ.out.lt)
              have hBC := hB.trans (hB3.mono hB.size)
              clear hB3
              by_cases hm : isWord x
              · rw [decide_eq_true hm]
                have H := Lib.hid (allWords_more hl.out hx.out hm)
                clear hm
                go_wp2_with (fail)
                go_roundw
                case rel => exact ⟨k + 1, by omega, by go_num, H.out, hq3.out, hBC⟩
                case measure => simp [intOf]; omega
              · rw [decide_eq_false hm]
                have H := Lib.hid (chk_bad (q := q) fun h => not_all hx.out hm (chkQ_many hk4 h).2)
                clear hm
                go_wp2_with (fail)
                go_ret
                exact ⟨ret_int H.out.symm, hBC⟩
            · obtain rfl : k = n := by omega
              have hw : allWords q.words := by
                have := hl.out
                rw [List.take_of_length_le (by have := l1.out; omega)] at this
                exact this
              have H := Lib.hid (chk_ok (chkQ_words hk4 HP.out HM.out hw))
              clear hw hqr
              go_wp2_with (fail)
              go_ret
              exact ⟨ret_int H.out.symm, hB⟩
        · have H := Lib.hid (chk_bad (q := q) fun h => hm (chkQ_many hk4 h).1)
          have hm' : (n : Int) < 1 ∨ 8 < (n : Int) ∨ q.radius < 0 ∨ 200 < q.radius ∨ q.most < 1 ∨ 100 < q.most := by
            have := l1.out
            unfold many at hm
            omega
          have HM := Lib.hid hm'
          clear hm hm' hq2
          go_wp2_with (fail)
          all_goals first | (exfalso; have := HM.out; omega) | skip
          all_goals go_ret
          all_goals exact ⟨ret_int H.out.symm, hBB⟩
    · rw [decide_eq_false hp]
      have H := Lib.hid (chk_bad (q := q) fun h => hp h.2.1)
      clear hp hq2
      go_wp2_with (fail)
      go_ret
      exact ⟨ret_int H.out.symm, hBB⟩
  · have H := Lib.hid (chk_bad (q := q) fun h => hk h.1)
    clear hqb
    by_cases hk1 : 1 ≤ q.kind
    · have hk2 : 3 < q.kind := by omega
      clear hk
      go_enter Try.func86, Try.ntmps86
      go_wp2_with (fail)
      go_ret
      exact ⟨ret_int H.out.symm, hBq⟩
    · clear hk
      go_enter Try.func86, Try.ntmps86
      go_wp2_with (fail)
      go_ret
      exact ⟨ret_int H.out.symm, hBq⟩
end Go.Proofs.Ytmnjlhifjjainaa
