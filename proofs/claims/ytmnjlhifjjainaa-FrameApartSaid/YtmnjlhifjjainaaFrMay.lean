/-
  May a request be: both sides.
-/
import Derived.Test.YtmnjlhifjjainaaFrCheckP
namespace Go.Proofs.Ytmnjlhifjjainaa
open Go.RowKit

def zeroN (x : Req) (n : Nat) : Prop := (x.kind = 4 → x.q.kind = 0 ∧ x.q.src = 0 ∧ x.q.dst = 0 ∧ n = 0 ∧ x.q.radius = 0 ∧ x.q.most = 0) ∧ (x.kind = 3 → x.q.dst = 0) ∧ (¬ x.kind = 3 → ¬ x.kind = 4 → n = 0 ∧ x.q.radius = 0 ∧ x.q.most = 0)
instance (x : Req) (n : Nat) : Decidable (zeroN x n) := by unfold zeroN; infer_instance

set_option maxRecDepth 100000 in
set_option maxHeartbeats 4000000 in
theorem zero_c (x : Req) (A : Option Addr) (n c : Nat) (w : World) :
    Calls Try.prog 83 #[.agg #[.int .i64 x.id, .int .i64 x.kind, .int .i64 x.q.kind, .int .i64 x.q.src, .int .i64 x.q.dst, .slice A n c, .int .i64 x.q.radius, .int .i64 x.q.most]] w fun e w' => e = .returned (.bool (decide (zeroN x n))) ∧ Below w.heap.size w w' := by
  go_enter Try.func83, Try.ntmps83
  go_wp2
  all_goals go_ret
  all_goals refine ⟨ret_bool ?_, ?_⟩
  all_goals first | exact ((Below.refl _ _).alloc (Nat.le_refl _) _).alloc (by simp) _ | (unfold zeroN; first | (refine Eq.symm (decide_eq_true ?_); simp_all; done) | (refine Eq.symm (decide_eq_true ?_); simp_all; omega) | (refine Eq.symm (decide_eq_false ?_); simp_all; done)| (refine Eq.symm (decide_eq_false ?_); simp_all; omega) | (rw [Bool.eq_iff_iff]; simp_all; done) | (rw [Bool.eq_iff_iff]; simp_all; omega))

theorem mayReq_iff {x : Req} {n : Nat} (hl : x.q.words.length = n) : mayReq x ↔ ((x.kind = 4 ∨ (x.q.kind = x.kind ∧ chkQ x.q)) ∧ good x.id ∧ zeroN x n) := by
  have hw : x.q.words = [] ↔ n = 0 := by rw [← hl]; exact List.length_eq_zero_iff.symm
  have hq : x.q = noQ ↔ (x.q.kind = 0 ∧ x.q.src = 0 ∧ x.q.dst = 0 ∧ n = 0 ∧ x.q.radius = 0 ∧ x.q.most = 0) := by
    rw [Qry.eq_iff]; simp only [noQ, hw]
  unfold mayReq zeroN
  rw [hq, hw]
  constructor
  · rintro ⟨a, b, c⟩
    refine ⟨?_, a, b, ?_, ?_⟩
    · by_cases h4 : x.kind = 4
      · exact .inl h4
      · exact .inr ⟨(c h4).1, (c h4).2.1⟩
    · intro h3
      exact (c (by omega)).2.2.1 h3
    · intro h3 h4
      exact (c h4).2.2.2 h3
  · rintro ⟨a, b, c, d, e⟩
    refine ⟨b, c, fun h4 => ?_⟩
    rcases a with a | a
    · exact absurd a h4
    · exact ⟨a.1, a.2, d, fun h3 => e h3 h4⟩
def RAt (w : World) (b : Nat) (x : Req) (A : Option Addr) (n c : Nat) : Prop :=
  w.heap[b]? = some (.cells #[.int .i64 x.id, .int .i64 x.kind, .int .i64 x.q.kind, .int .i64 x.q.src, .int .i64 x.q.dst, .slice A n c, .int .i64 x.q.radius, .int .i64 x.q.most] 26 (0, 0))
theorem RAt.new (w : World) (x : Req) (A : Option Addr) (n c : Nat) : RAt (w.alloc (.cells #[.int .i64 x.id, .int .i64 x.kind, .int .i64 x.q.kind, .int .i64 x.q.src, .int .i64 x.q.dst, .slice A n c, .int .i64 x.q.radius, .int .i64 x.q.most] 26)) w.heap.size x A n c := Array.getElem?_push_size
theorem RAt.lt {w : World} {b : Nat} {x : Req} {A : Option Addr} {n c : Nat} (h : RAt w b x A n c) : b < w.heap.size := (Array.getElem?_eq_some_iff.1 h).1
theorem RAt.below {w w' : World} {b B : Nat} {x : Req} {A : Option Addr} {n c : Nat} (h : RAt w b x A n c) (hB : Below B w w') (hb : b < B) : RAt w' b x A n c := (hB.block b hb).trans h
theorem RAt.cells {w : World} {b : Nat} {x : Req} {A : Option Addr} {n c : Nat} (h : RAt w b x A n c) :
    w.cell? ⟨b, 0, none⟩ = some (.int .i64 x.id) ∧ w.cell? ⟨b, 1, none⟩ = some (.int .i64 x.kind) ∧ w.cell? ⟨b, 2, none⟩ = some (.int .i64 x.q.kind) ∧ w.cell? ⟨b, 3, none⟩ = some (.int .i64 x.q.src) ∧ w.cell? ⟨b, 4, none⟩ = some (.int .i64 x.q.dst) ∧ w.cell? ⟨b, 5, none⟩ = some (.slice A n c) ∧ w.cell? ⟨b, 6, none⟩ = some (.int .i64 x.q.radius) ∧ w.cell? ⟨b, 7, none⟩ = some (.int .i64 x.q.most) := by
  unfold RAt at h
  refine ⟨?_, ?_, ?_, ?_, ?_, ?_, ?_, ?_⟩ <;> · rw [Lib.cell_of_heap h]; rfl

theorem chk_dec (q : Qry) : (chkErr q == 0) = decide (chkQ q) := by
  unfold chkErr
  split <;> rename_i h
  · rw [decide_eq_true h]; rfl
  · rw [decide_eq_false h]; rfl

set_option maxRecDepth 100000 in
set_option maxHeartbeats 4000000 in
theorem may_c (x : Req) (A : Option Addr) (n c : Nat) (w : World) (h1 : Reads w w.heap.size 1 A n (sv x.q.words)) (hn : n ≤ maxLen) (hb : Hid (bounded x.q.words)) :
    Calls Try.prog 35 #[.agg #[.int .i64 x.id, .int .i64 x.kind, .int .i64 x.q.kind, .int .i64 x.q.src, .int .i64 x.q.dst, .slice A n c, .int .i64 x.q.radius, .int .i64 x.q.most]] w fun e w' => e = .returned (.bool (decide (mayReq x))) ∧ Below w.heap.size w w' := by
  have HI := Lib.hid (mayReq_iff h1.str_len)
  have HR := Lib.hid h1
  clear h1
  have HN := Lib.hid hn
  have hqb := Lib.hid (RAt.new w x A n c)
  have hBq := below_one w (.cells #[.int .i64 x.id, .int .i64 x.kind, .int .i64 x.q.kind, .int .i64 x.q.src, .int .i64 x.q.dst, .slice A n c, .int .i64 x.q.radius, .int .i64 x.q.most] 26)
  obtain ⟨z, hz⟩ : ∃ z, decide (zeroN x n) = z := ⟨_, rfl⟩
  have HZ := Lib.hid hz
  clear hz
  by_cases hg : good x.id
  · have hg1 : 0 ≤ x.id := hg.1
    have hg2 : x.id ≤ 2147483647 := hg.2
    have HG := Lib.hid hg
    clear hg
    by_cases h4 : x.kind = 4
    · have H : Hid (decide (mayReq x) = z) := by
        show _ = _
        rw [← HZ.out]
        refine decide_eq_decide.2 (HI.out.trans ⟨fun h => h.2.2, fun h => ⟨.inl h4, HG.out, h⟩⟩)
      have H4 : (x.kind == 4) = true := by simpa using h4
      clear h4
      go_enter Try.func35, Try.ntmps35
      go_wp2_with (fail)
      refine (zero_c x A n c _).mono ?_
      rintro e w2 ⟨rfl, hB2⟩
      rw [HZ.out]
      have hBB := hBq.trans (hB2.mono hBq.size)
      go_wp2_with (fail)
      go_ret
      exact ⟨ret_bool (H.out.symm), hBB⟩
    · have H4 : (x.kind == 4) = false := by simpa using h4
      have HN4 := Lib.hid h4
      clear h4
      by_cases hk : x.q.kind = x.kind
      · have HK : (x.q.kind == x.kind) = true := by simpa using hk
        have HK2 := Lib.hid hk
        clear hk
        obtain ⟨d, hd⟩ : ∃ d, decide (chkQ x.q) = d := ⟨_, rfl⟩
        have HD := Lib.hid hd
        clear hd
        have H : Hid (decide (mayReq x) = (d && z)) := by
          show _ = _
          rw [← HZ.out, ← HD.out, ← Bool.decide_and]
          refine decide_eq_decide.2 (HI.out.trans ⟨fun h => ⟨?_, h.2.2⟩, fun h => ⟨.inr ⟨HK2.out, h.1⟩, HG.out, h.2⟩⟩)
          rcases h.1 with h | h
          · exact absurd h HN4.out
          · exact h.2
        go_enter Try.func35, Try.ntmps35
        go_wp2_with (fail)
        refine (check_c x.q A n c _ ((HR.out.below hBq).more (by simp)) HN.out hb).mono ?_
        rintro e w2 ⟨rfl, hB2⟩
        have hBB := hBq.trans (hB2.mono hBq.size)
        obtain ⟨c0, c1, c2, c3, c4, c5, c6, c7⟩ := (hqb.out.below hB2 (by simp)).cells
        have hce : (chkErr x.q == 0) = d := (chk_dec x.q).trans HD.out
        clear hB2
        rcases d with _ | _
        · go_wp2_with (fail)
          go_ret
          exact ⟨ret_bool (by rw [H.out]; rfl), hBB⟩
        · go_wp2_with (fail)
          refine (zero_c x A n c _).mono ?_
          rintro e w3 ⟨rfl, hB3⟩
          rw [HZ.out]
          have hBC := hBB.trans (hB3.mono hBB.size)
          go_wp2_with (fail)
          go_ret
          exact ⟨ret_bool (by rw [H.out]; cases z <;> rfl), hBC⟩
      · have HK : (x.q.kind == x.kind) = false := by simpa using hk
        have H := Lib.hid (fun h : mayReq x => hk (by
          rcases (HI.out.1 h).1 with h | h
          · exact absurd h HN4.out
          · exact h.1))
        clear hk
        go_enter Try.func35, Try.ntmps35
        go_wp2_with (fail)
        go_ret
        exact ⟨ret_bool (decide_eq_false H.out).symm, hBq⟩
  · have H := Lib.hid (fun h : mayReq x => hg h.1)
    have HG := Lib.hid hg
    clear hg
    obtain ⟨k4, hk4⟩ : ∃ k4, (x.kind == 4) = k4 := ⟨_, rfl⟩
    obtain ⟨kk, hkk⟩ : ∃ kk, (x.q.kind == x.kind) = kk := ⟨_, rfl⟩
    obtain ⟨d, hd⟩ : ∃ d, (chkErr x.q == 0) = d := ⟨_, rfl⟩
    have hor : x.id < 0 ∨ (0 ≤ x.id ∧ 2147483647 < x.id) := by have := HG.out; unfold good at this; omega
    have HO := Lib.hid hor
    clear hor
    rcases k4 with _ | _
    · rcases kk with _ | _
      · go_enter Try.func35, Try.ntmps35
        go_wp2_with (fail)
        go_ret
        exact ⟨ret_bool (decide_eq_false H.out).symm, hBq⟩
      · go_enter Try.func35, Try.ntmps35
        go_wp2_with (fail)
        refine (check_c x.q A n c _ ((HR.out.below hBq).more (by simp)) HN.out hb).mono ?_
        rintro e w2 ⟨rfl, hB2⟩
        have hBB := hBq.trans (hB2.mono hBq.size)
        obtain ⟨c0, c1, c2, c3, c4, c5, c6, c7⟩ := (hqb.out.below hB2 (by simp)).cells
        clear hB2
        rcases d with _ | _
        · go_wp2_with (fail)
          go_ret
          exact ⟨ret_bool (decide_eq_false H.out).symm, hBB⟩
        · rcases HO.out with ho | ⟨ho1, ho2⟩
          all_goals
            go_wp2_with (fail)
            go_ret
            exact ⟨ret_bool (decide_eq_false H.out).symm, hBB⟩
    · rcases HO.out with ho | ⟨ho1, ho2⟩
      all_goals
        go_enter Try.func35, Try.ntmps35
        go_wp2_with (fail)
        go_ret
        exact ⟨ret_bool (decide_eq_false H.out).symm, hBq⟩
end Go.Proofs.Ytmnjlhifjjainaa
