/-
  Check of a query: the walk of the program.
-/
import Derived.Test.YtmnjlhifjjainaaFrCheckR
namespace Go.Proofs.Ytmnjlhifjjainaa
open Go.RowKit

theorem int_new (w : World) (x : Int) : (w.alloc (.cells #[.int .i64 x] 3)).cell? ⟨w.heap.size, 0, none⟩ = some (.int .i64 x) := by simp

set_option maxRecDepth 100000 in
set_option maxHeartbeats 4000000 in
theorem check_c (q : Qry) (A : Option Addr) (n c : Nat) (w : World) (h1 : Reads w w.heap.size 1 A n (sv q.words)) (hn : n ≤ maxLen) (hb : Hid (bounded q.words)) :
    Calls Try.prog 82 #[.agg #[.int .i64 q.kind, .int .i64 q.src, .int .i64 q.dst, .slice A n c, .int .i64 q.radius, .int .i64 q.most], .int .i64 200] w fun e w' => e = .returned (.int .i64 (chkErr q)) ∧ Below w.heap.size w w' := by
  have l1 := Lib.hid h1.str_len
  have HR := Lib.hid h1
  clear h1
  have HN := Lib.hid hn
  unfold maxLen at hn
  have hmf : ∀ (fn : Fn) (first cap : Array Value) (w : World), (Instr.makeFunc fn first cap).run Try.prog w = .ok (.func fn first cap) w := fun _ _ _ _ => rfl
  have hqa := QAt.new w q A n c
  have hqb := Lib.hid (QAt.below hqa ((Below.refl _ _).alloc (Nat.le_refl _) (.cells #[.int .i64 200] 3)) hqa.lt)
  clear hqa
  have hi := Lib.hid (int_new (w.alloc (.cells #[.int .i64 q.kind, .int .i64 q.src, .int .i64 q.dst, .slice A n c, .int .i64 q.radius, .int .i64 q.most] 24)) 200)
  have hBq : Below w.heap.size w ((w.alloc (.cells #[.int .i64 q.kind, .int .i64 q.src, .int .i64 q.dst, .slice A n c, .int .i64 q.radius, .int .i64 q.most] 24)).alloc (.cells #[.int .i64 200] 3)) := ((Below.refl _ _).alloc (Nat.le_refl _) _).alloc (by simp) _
  by_cases hk2 : q.kind = 1 ∨ q.kind = 2
  · have hlow : q.kind < 3 ∧ 1 ≤ q.kind := by omega
    have HL := Lib.hid hlow
    clear hlow
    have HK := Lib.hid hk2
    by_cases hp : place q.src
    · have HP := Lib.hid hp
      by_cases hd : place q.dst
      · have H := Lib.hid (chk_ok (chkQ_low HL.out.2 HL.out.1 hp hd))
        have HD := Lib.hid hd
        clear hp hd
        rcases hk2 with hk2 | hk2
        all_goals
          simp only [hk2] at hqb hi hBq
          go_enter Try.func82, Try.ntmps82
          go_wp2_with (fail)
          refine (place_c q.src (w.heap.size + 1) _ (by simp)).mono ?_
          rintro e w2 ⟨rfl, hB2⟩
          rw [decide_eq_true HP.out]
          obtain ⟨c0, c1, c2, c3, c4, c5⟩ := (hqb.out.below hB2 (by simp; omega)).cells
          have hBB := hBq.trans (hB2.mono hBq.size)
          have hi2 : w2.cell? ⟨w.heap.size + 1, 0, none⟩ = some (.int .i64 200) := by rw [hB2.cell (by simp)]; simp
          clear hBq hB2
          go_wp2_with (fail)
          refine (place_c q.dst (w.heap.size + 1) _ hi2).mono ?_
          rintro e w3 ⟨rfl, hB3⟩
          rw [decide_eq_true HD.out]
          have hBC := hBB.trans (hB3.mono hBB.size)
          clear hB3
          go_wp2_with (fail)
          go_ret
          exact ⟨ret_int H.out.symm, hBC⟩
      · have H := Lib.hid (chk_bad (q := q) fun h => hd (h.2.2.1 HL.out.1))
        have HD := Lib.hid hd
        clear hp hd
        rcases hk2 with hk2 | hk2
        all_goals
          simp only [hk2] at hqb hi hBq
          go_enter Try.func82, Try.ntmps82
          go_wp2_with (fail)
          refine (place_c q.src (w.heap.size + 1) _ (by simp)).mono ?_
          rintro e w2 ⟨rfl, hB2⟩
          rw [decide_eq_true HP.out]
          obtain ⟨c0, c1, c2, c3, c4, c5⟩ := (hqb.out.below hB2 (by simp; omega)).cells
          have hBB := hBq.trans (hB2.mono hBq.size)
          have hi2 : w2.cell? ⟨w.heap.size + 1, 0, none⟩ = some (.int .i64 200) := by rw [hB2.cell (by simp)]; simp
          clear hBq hB2
          go_wp2_with (fail)
          refine (place_c q.dst (w.heap.size + 1) _ hi2).mono ?_
          rintro e w3 ⟨rfl, hB3⟩
          rw [decide_eq_false HD.out]
          have hBC := hBB.trans (hB3.mono hBB.size)
          clear hB3
          go_wp2_with (fail)
          go_ret
          exact ⟨ret_int H.out.symm, hBC⟩
    · have H := Lib.hid (chk_bad (q := q) fun h => hp h.2.1)
      have HP := Lib.hid hp
      clear hp
      rcases hk2 with hk2 | hk2
      all_goals
        simp only [hk2] at hqb hi hBq
        go_enter Try.func82, Try.ntmps82
        go_wp2_with (fail)
        refine (place_c q.src (w.heap.size + 1) _ (by simp)).mono ?_
        rintro e w2 ⟨rfl, hB2⟩
        rw [decide_eq_false HP.out]
        have hBB := hBq.trans (hB2.mono hBq.size)
        clear hBq hB2
        go_wp2_with (fail)
        go_ret
        exact ⟨ret_int H.out.symm, hBB⟩
  · have hk1 : ¬ q.kind = 1 := by omega
    have hk22 : ¬ q.kind = 2 := by omega
    clear hk2
    by_cases hk3 : q.kind = 3
    · simp only [hk3] at hqb hi hBq
      by_cases hlen : 1 ≤ n ∧ n ≤ 8
      · have HLn := Lib.hid hlen
        have e1 : 1 ≤ (n : Int) := by omega
        have e2 : (n : Int) ≤ 8 := by omega
        clear hlen
        go_enter Try.func82, Try.ntmps82
        go_wp2_with (fail)
        refine (contains_c A n c q.words _ ((HR.out.below hBq).more (by simp; omega)) HN.out hb).mono ?_
        rintro e w2 ⟨rfl, hB2⟩
        have hq2 := Lib.hid (hqb.out.below hB2 (by simp; omega))
        have hBB := hBq.trans (hB2.mono hBq.size)
        have hi2 : w2.cell? ⟨w.heap.size + 1, 0, none⟩ = some (.int .i64 200) := by rw [hB2.cell (by simp)]; simp
        have hs2 : w.heap.size + 2 ≤ w2.heap.size := by have := hB2.size; simp at this; omega
        clear hBq hB2
        obtain ⟨c0, c1, c2, c3, c4, c5⟩ := hq2.out.cells
        have HA : ∃ b, decide (allWords q.words) = b := ⟨_, rfl⟩
        obtain ⟨ba, hba⟩ := HA
        rw [hba]
        have HBA := Lib.hid hba
        clear hba
        have HP : ∃ b, decide (place q.src) = b := ⟨_, rfl⟩
        obtain ⟨bp, hbp⟩ := HP
        have HBP := Lib.hid hbp
        clear hbp
        go_wp2_with (fail)
        refine (place_c q.src (w.heap.size + 1) _ hi2).mono ?_
        rintro e w3 ⟨rfl, hB3⟩
        rw [HBP.out]
        have hs : w.heap.size < w2.heap.size := by omega
        obtain ⟨d0, d1, d2, d3, d4, d5⟩ := (hq2.out.below hB3 hs).cells
        have hBC := hBB.trans (hB3.mono hBB.size)
        clear hB3 hi2 c0 c1 c2 c3 c4 c5
        by_cases hgood : ba = true ∧ bp = true ∧ (0 ≤ q.radius ∧ q.radius ≤ 200) ∧ (1 ≤ q.most ∧ q.most ≤ 100)
        · obtain ⟨rfl, rfl, ⟨g1, g2⟩, g3, g4⟩ := hgood
          have H := Lib.hid (chk_ok (chkQ_words hk3 (of_decide_eq_true HBP.out) ⟨by have := l1.out; omega, ⟨g1, g2⟩, g3, g4⟩ (of_decide_eq_true HBA.out)))
          go_wp2_with (fail)
          go_ret
          exact ⟨ret_int H.out.symm, hBC⟩
        · have H := Lib.hid (chk_bad (q := q) fun h => hgood ⟨by rw [← HBA.out]; exact decide_eq_true (chkQ_many hk3 h).2, by rw [← HBP.out]; exact decide_eq_true h.2.1, (chkQ_many hk3 h).1.2.1, (chkQ_many hk3 h).1.2.2⟩)
          have HG := Lib.hid hgood
          clear hgood
          rcases bp with _ | _
          · go_wp2_with (fail)
            all_goals go_ret
            all_goals exact ⟨ret_int H.out.symm, hBC⟩
          · rcases ba with _ | _
            · go_wp2_with (fail)
              all_goals go_ret
              all_goals exact ⟨ret_int H.out.symm, hBC⟩
            · have HG2 := Lib.hid (fun h => HG.out ⟨rfl, rfl, h⟩)
              go_wp2_with (fail)
              all_goals first | (exfalso; exact HG2.out ⟨⟨by omega, by omega⟩, by omega, by omega⟩) | skip
              all_goals go_ret
              all_goals exact ⟨ret_int H.out.symm, hBC⟩
      · have H := Lib.hid (chk_bad (q := q) fun h => hlen (by have := (chkQ_many hk3 h).1.1; have := l1.out; omega))
        have HLn := Lib.hid hlen
        have HP : ∃ b, decide (place q.src) = b := ⟨_, rfl⟩
        obtain ⟨bp, hbp⟩ := HP
        have HBP := Lib.hid hbp
        clear hbp
        have hor : (n : Int) < 1 ∨ (1 ≤ (n : Int) ∧ 8 < (n : Int)) := by omega
        clear hlen
        rcases hor with hor | ⟨hor0, hor⟩
        all_goals
          go_enter Try.func82, Try.ntmps82
          go_wp2_with (fail)
          refine (place_c q.src (w.heap.size + 1) _ (by simp)).mono ?_
          rintro e w3 ⟨rfl, hB3⟩
          rw [HBP.out]
          have hBC := hBq.trans (hB3.mono hBq.size)
          clear hB3
          rcases bp with _ | _
          all_goals
            go_wp2_with (fail)
            go_ret
            exact ⟨ret_int H.out.symm, hBC⟩
    · have H := Lib.hid (chk_bad (q := q) fun h => by have := h.1; omega)
      go_enter Try.func82, Try.ntmps82
      go_wp2_with (fail)
      go_ret
      exact ⟨ret_int H.out.symm, hBq⟩
end Go.Proofs.Ytmnjlhifjjainaa
