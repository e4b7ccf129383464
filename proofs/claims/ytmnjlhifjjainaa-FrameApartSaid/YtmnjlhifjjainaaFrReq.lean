/-
  Requests: may one be (the reference), are two the same, is a query too big.
-/
import Derived.Test.YtmnjlhifjjainaaFrSame
namespace Go.Proofs.Ytmnjlhifjjainaa
open Go.RowKit

theorem mayReq_ref {x : Req} {n : Nat} (hl : x.q.words.length = n) : decide (mayReq x) = (decide (good x.id) && (if x.kind = 4 then decide (x.q = noQ) else ((x.q.kind == x.kind) && (chkErr x.q == 0) && (if x.kind = 3 then (x.q.dst == 0) else (((n : Int) == 0) && (x.q.radius == 0) && (x.q.most == 0)))))) := by
  have hw : x.q.words = [] ↔ n = 0 := by rw [← hl]; exact List.length_eq_zero_iff.symm
  rw [chk_dec]
  by_cases h4 : x.kind = 4
  · rw [if_pos h4, ← Bool.decide_and, decide_eq_decide]
    unfold mayReq
    exact ⟨fun h => ⟨h.1, h.2.1 h4⟩, fun h => ⟨h.1, fun _ => h.2, fun h => absurd h4 h⟩⟩
  · rw [if_neg h4]
    by_cases h3 : x.kind = 3
    · rw [if_pos h3, Bool.eq_iff_iff]
      simp only [Bool.and_eq_true, decide_eq_true_iff, beq_iff_eq]
      unfold mayReq
      exact ⟨fun h => ⟨h.1, ⟨(h.2.2 h4).1, (h.2.2 h4).2.1⟩, (h.2.2 h4).2.2.1 h3⟩, fun h => ⟨h.1, fun h => absurd h h4, fun _ => ⟨h.2.1.1, h.2.1.2, fun _ => h.2.2, fun h => absurd h3 h⟩⟩⟩
    · rw [if_neg h3, Bool.eq_iff_iff]
      simp only [Bool.and_eq_true, decide_eq_true_iff, beq_iff_eq]
      unfold mayReq
      rw [hw]
      exact ⟨fun h => ⟨h.1, ⟨(h.2.2 h4).1, (h.2.2 h4).2.1⟩, ⟨by have := ((h.2.2 h4).2.2.2 h3).1; omega, ((h.2.2 h4).2.2.2 h3).2.1⟩, ((h.2.2 h4).2.2.2 h3).2.2⟩,
        fun h => ⟨h.1, fun h => absurd h h4, fun _ => ⟨h.2.1.1, h.2.1.2, fun h => absurd h h3, fun _ => ⟨by have := h.2.2.1.1; omega, h.2.2.1.2, h.2.2.2⟩⟩⟩⟩

theorem below_two (w : World) (o1 o2 : Obj) : Below w.heap.size w ((w.alloc o1).alloc o2) := ((Below.refl _ _).alloc (Nat.le_refl _) _).alloc (by simp) _
set_option maxRecDepth 100000 in
set_option maxHeartbeats 1000000 in
theorem request_c (x : Req) (A : Option Addr) (n c : Nat) (w : World) (h1 : Reads w w.heap.size 1 A n (sv x.q.words)) (hn : n ≤ maxLen) (hb : Hid (bounded x.q.words)) :
    Calls Try.prog 40 #[.agg #[.int .i64 x.id, .int .i64 x.kind, .int .i64 x.q.kind, .int .i64 x.q.src, .int .i64 x.q.dst, .slice A n c, .int .i64 x.q.radius, .int .i64 x.q.most]] w fun e w' => e = .returned (.bool (decide (mayReq x))) ∧ Below w.heap.size w w' := by
  have HI := Lib.hid (mayReq_ref h1.str_len)
  have HR := Lib.hid h1
  clear h1
  have HN := Lib.hid hn
  have hqa := RAt.new w x A n c
  have hqb := Lib.hid (RAt.below hqa ((Below.refl _ _).alloc (Nat.le_refl _) (.cells #[.int .i64 x.q.kind, .int .i64 x.q.src, .int .i64 x.q.dst, .slice A n c, .int .i64 x.q.radius, .int .i64 x.q.most] 24)) hqa.lt)
  clear hqa
  have hqc := (QAt.new (w.alloc (.cells #[.int .i64 x.id, .int .i64 x.kind, .int .i64 x.q.kind, .int .i64 x.q.src, .int .i64 x.q.dst, .slice A n c, .int .i64 x.q.radius, .int .i64 x.q.most] 26)) x.q A n c)
  rw [show (w.alloc (.cells #[.int .i64 x.id, .int .i64 x.kind, .int .i64 x.q.kind, .int .i64 x.q.src, .int .i64 x.q.dst, .slice A n c, .int .i64 x.q.radius, .int .i64 x.q.most] 26)).heap.size = w.heap.size + 1 by simp] at hqc
  have hqc := Lib.hid hqc
  have hBq := below_two w (.cells #[.int .i64 x.id, .int .i64 x.kind, .int .i64 x.q.kind, .int .i64 x.q.src, .int .i64 x.q.dst, .slice A n c, .int .i64 x.q.radius, .int .i64 x.q.most] 26) (.cells #[.int .i64 x.q.kind, .int .i64 x.q.src, .int .i64 x.q.dst, .slice A n c, .int .i64 x.q.radius, .int .i64 x.q.most] 24)
  obtain ⟨g, hg⟩ : ∃ g, decide (good x.id) = g := ⟨_, rfl⟩
  obtain ⟨k4, hk4⟩ : ∃ g, (x.kind == 4) = g := ⟨_, rfl⟩
  obtain ⟨k3, hk3⟩ : ∃ g, (x.kind == 3) = g := ⟨_, rfl⟩
  obtain ⟨kk, hkk⟩ : ∃ g, (x.q.kind != x.kind) = g := ⟨_, rfl⟩
  obtain ⟨ck, hck⟩ : ∃ g, (chkErr x.q != 0) = g := ⟨_, rfl⟩
  obtain ⟨d0, hd0⟩ : ∃ g, (x.q.dst == 0) = g := ⟨_, rfl⟩
  obtain ⟨n0, hn0⟩ : ∃ g, ((n : Int) == 0) = g := ⟨_, rfl⟩
  obtain ⟨r0, hr0⟩ : ∃ g, (x.q.radius == 0) = g := ⟨_, rfl⟩
  obtain ⟨m0, hm0⟩ : ∃ g, (x.q.most == 0) = g := ⟨_, rfl⟩
  obtain ⟨sq, hsq⟩ : ∃ g, decide (x.q = noQ) = g := ⟨_, rfl⟩
  have H : Hid (decide (mayReq x) = (g && (if k4 then sq else (!kk && !ck && (if k3 then d0 else (n0 && r0 && m0)))))) := by
    show _ = _
    rw [HI.out, hg, hsq, ← hkk, ← hck, hd0, hn0, hr0, hm0, ← hk4, ← hk3]
    simp only [beq_iff_eq, bne, Bool.not_not]
  clear HI
  have HS := Lib.hid hsq
  clear hsq
  have HG := Lib.hid hg
  clear hg
  go_enter Try.func40, Try.ntmps40
  go_wp2_with (fail)
  refine (refNum_c x.id _).mono ?_
  rintro e w2 ⟨rfl, hB2⟩
  rw [HG.out]
  have hBB := hBq.trans (hB2.mono hBq.size)
  have hR2 := Lib.hid (hqb.out.below hB2 (by simp; omega))
  have hQ2 := Lib.hid (hqc.out.below hB2 (by simp))
  have hW2 := Lib.hid ((HR.out.below hBB).more (B' := w2.heap.size) hBB.size)
  clear hB2 hBq
  obtain ⟨c0, c1, c2, c3, c4, c5, c6, c7⟩ := hR2.out.cells
  obtain ⟨q0, q1, q2, q3, q4, q5⟩ := hQ2.out.cells
  clear c2 c3 c4 c5 c6 c7
  rcases g with _ | _
  · go_wp2_with (fail)
    go_ret
    exact ⟨ret_bool (by rw [H.out]; rfl), hBB⟩
  · rcases k4 with _ | _
    · rcases kk with _ | _
      rotate_left
      · go_wp2_with (fail)
        go_ret
        exact ⟨ret_bool (by rw [H.out]; rfl), hBB⟩
      · go_wp2_with (fail)
        refine (refCheck_c x.q A n c _ hW2.out HN.out hb).mono ?_
        rintro e w3 ⟨rfl, hB3⟩
        have hBC := hBB.trans (hB3.mono hBB.size)
        have hs2 := hQ2.out.lt
        have hR3 := Lib.hid (hR2.out.below hB3 (by omega))
        have hQ3 := Lib.hid (hQ2.out.below hB3 hs2)
        clear hB3 hBB c0 c1 q0 q1 q2 q3 q4 q5 hR2 hQ2 hs2
        obtain ⟨c0, c1, c2, c3, c4, c5, c6, c7⟩ := hR3.out.cells
        obtain ⟨q0, q1, q2, q3, q4, q5⟩ := hQ3.out.cells
        clear c2 c3 c4 c5 c6 c7
        rcases ck with _ | _
        rotate_left
        · go_wp2_with (fail)
          go_ret
          exact ⟨ret_bool (by rw [H.out]; rfl), hBC⟩
        · rcases k3 with _ | _
          · rcases n0 with _ | _
            · go_wp2_with (fail)
              go_ret
              exact ⟨ret_bool (by rw [H.out]; rfl), hBC⟩
            · rcases r0 with _ | _
              · go_wp2_with (fail)
                go_ret
                exact ⟨ret_bool (by rw [H.out]; rfl), hBC⟩
              · go_wp2_with (fail)
                go_ret
                exact ⟨ret_bool (by rw [H.out]; first | rfl | simp [hm0]), hBC⟩
          · go_wp2_with (fail)
            go_ret
            exact ⟨ret_bool (by rw [H.out]; first | rfl | simp [hd0]), hBC⟩
    · go_wp2_with (fail)
      refine (sameQuery_c x.q noQ A none n 0 c 0 _ hW2.out Reads.none_ HN.out (by simp [maxLen])).mono ?_
      rintro e w3 ⟨rfl, hB3⟩
      rw [HS.out]
      have hBC := hBB.trans (hB3.mono hBB.size)
      go_wp2_with (fail)
      go_ret
      exact ⟨ret_bool (by rw [H.out]; first | rfl | simp), hBC⟩

set_option maxRecDepth 100000 in
set_option maxHeartbeats 1000000 in
theorem sameRequest_c (x y : Req) (A1 A2 : Option Addr) (n1 n2 c1 c2 : Nat) (w : World) (h1 : Reads w w.heap.size 1 A1 n1 (sv x.q.words)) (h2 : Reads w w.heap.size 1 A2 n2 (sv y.q.words)) (hn1 : n1 ≤ maxLen) (hn2 : n2 ≤ maxLen) :
    Calls Try.prog 18 #[.agg #[.int .i64 x.id, .int .i64 x.kind, .int .i64 x.q.kind, .int .i64 x.q.src, .int .i64 x.q.dst, .slice A1 n1 c1, .int .i64 x.q.radius, .int .i64 x.q.most], .agg #[.int .i64 y.id, .int .i64 y.kind, .int .i64 y.q.kind, .int .i64 y.q.src, .int .i64 y.q.dst, .slice A2 n2 c2, .int .i64 y.q.radius, .int .i64 y.q.most]] w fun e w' => e = .returned (.bool (decide (x = y))) ∧ Below w.heap.size w w' := by
  have HI := Lib.hid (Req.eq_iff x y)
  have HR1 := Lib.hid h1
  have HR2 := Lib.hid h2
  have HN1 := Lib.hid hn1
  have HN2 := Lib.hid hn2
  clear h1 h2 hn1 hn2
  have hBq := below_two w (.cells #[.int .i64 x.id, .int .i64 x.kind, .int .i64 x.q.kind, .int .i64 x.q.src, .int .i64 x.q.dst, .slice A1 n1 c1, .int .i64 x.q.radius, .int .i64 x.q.most] 26) (.cells #[.int .i64 y.id, .int .i64 y.kind, .int .i64 y.q.kind, .int .i64 y.q.src, .int .i64 y.q.dst, .slice A2 n2 c2, .int .i64 y.q.radius, .int .i64 y.q.most] 26)
  obtain ⟨b0, hb0⟩ : ∃ b, (x.id == y.id) = b := ⟨_, rfl⟩
  obtain ⟨b1, hb1⟩ : ∃ b, (x.kind == y.kind) = b := ⟨_, rfl⟩
  obtain ⟨b2, hb2⟩ : ∃ b, decide (x.q = y.q) = b := ⟨_, rfl⟩
  have H : Hid (decide (x = y) = (b0 && b1 && b2)) := by
    show _ = _
    rw [← hb0, ← hb1, ← hb2, Bool.eq_iff_iff, decide_eq_true_iff, HI.out]
    simp [and_assoc]
  have H2 := Lib.hid hb2
  clear hb2
  rcases b0 with _ | _
  · go_enter Try.func18, Try.ntmps18
    go_wp2_with (fail)
    go_ret
    exact ⟨ret_bool (by rw [H.out]; rfl), hBq⟩
  · rcases b1 with _ | _
    · go_enter Try.func18, Try.ntmps18
      go_wp2_with (fail)
      go_ret
      exact ⟨ret_bool (by rw [H.out]; rfl), hBq⟩
    · go_enter Try.func18, Try.ntmps18
      go_wp2_with (fail)
      refine (sameQuery_c x.q y.q A1 A2 n1 n2 c1 c2 _ ((HR1.out.below hBq).more (by simp; omega)) ((HR2.out.below hBq).more (by simp; omega)) HN1.out HN2.out).mono ?_
      rintro e w2 ⟨rfl, hB2⟩
      rw [H2.out]
      have hBB := hBq.trans (hB2.mono hBq.size)
      rcases b2 with _ | _
      all_goals
        go_wp2_with (fail)
        go_ret
        exact ⟨ret_bool (by rw [H.out]; rfl), hBB⟩

/-- Not too big a query. -/
def small (l : List ByteArray) : Prop := l.length ≤ 20 ∧ ∀ x ∈ l, x.size ≤ 60
theorem small_bounded {l : List ByteArray} (h : small l) : bounded l := fun x hx => by have := h.2 x hx; omega
theorem small_all {l : List ByteArray} {k : Nat} (h : ∀ x ∈ l.take k, x.size ≤ 60) (hl : l.length = k) (hk : k ≤ 20) : small l := ⟨by omega, fun x hx => h x (by rw [List.take_of_length_le (by omega)]; exact hx)⟩
theorem small_more {l : List ByteArray} {k : Nat} {x : ByteArray} (h : ∀ x ∈ l.take k, x.size ≤ 60) (hx : l[k]? = some x) (hs : x.size ≤ 60) : ∀ x ∈ l.take (k + 1), x.size ≤ 60 := by
  intro d hd
  rw [List.take_add_one, hx, List.mem_append] at hd
  rcases hd with hd | hd
  · exact h d hd
  · simp at hd; subst hd; exact hs

set_option maxRecDepth 100000 in
set_option maxHeartbeats 1000000 in
theorem big_c (q : Qry) (A : Option Addr) (n c : Nat) (w : World) (h1 : Reads w w.heap.size 1 A n (sv q.words)) (hn : n ≤ maxLen) :
    Calls Try.prog 12 #[.agg #[.int .i64 q.kind, .int .i64 q.src, .int .i64 q.dst, .slice A n c, .int .i64 q.radius, .int .i64 q.most]] w fun e w' => ∃ b, e = .returned (.bool b) ∧ (b = false → small q.words) ∧ Below w.heap.size w w' := by
  have HL := Lib.hid h1.str_len
  have hqb := QAt.new w q A n c
  have hBq := below_one w (.cells #[.int .i64 q.kind, .int .i64 q.src, .int .i64 q.dst, .slice A n c, .int .i64 q.radius, .int .i64 q.most] 24)
  unfold maxLen at hn
  by_cases h20 : n ≤ 20
  · go_enter Try.func12, Try.ntmps12
    go_wp2_with (fail)
    go_loopw [3] (fun i wr => ∃ k : Nat, k ≤ n ∧ i = .int .i64 k ∧ Hid (∀ x ∈ q.words.take k, x.size ≤ 60) ∧ QAt wr w.heap.size q A n c ∧ Below w.heap.size w wr) (fun i _ => n - (intOf i).toNat)
    case atStart => exact ⟨0, Nat.zero_le _, rfl, fun c hc => by simp at hc, hqb, hBq⟩
    case round =>
      clear hqb hBq
      obtain ⟨k, hk, rfl, hall, hqr, hB⟩ := hrel
      obtain ⟨c0, c1, c2, c3, c4, c5⟩ := hqr.cells
      have hq2 := Lib.hid hqr
      clear hqr
      by_cases hlt : k < n
      · obtain ⟨a1, o1, x, rfl, hx, hc1⟩ := (h1.below hB).str_at hlt
        clear h1
        by_cases h60 : x.size ≤ 60
        · have H := Lib.hid (small_more hall.out hx.out h60)
          go_wp2_with (fail)
          go_roundw
          case rel => exact ⟨k + 1, by omega, by go_num, H.out, hq2.out, hB⟩
          case measure => simp [intOf] <;> omega
        · go_wp2_with (fail)
          go_ret
          exact ⟨true, rfl, (fun h => by cases h), hB⟩
      · obtain rfl : k = n := by omega
        have H := Lib.hid (small_all hall.out HL.out h20)
        clear h1
        go_wp2_with (fail)
        go_ret
        exact ⟨_, rfl, fun _ => H.out, hB⟩
  · obtain ⟨c0, c1, c2, c3, c4, c5⟩ := hqb.cells
    clear hqb h1
    go_enter Try.func12, Try.ntmps12
    go_wp2_with (fail)
    go_loopw [3] (fun i wr => i = .int .i64 0 ∧ wr = w.alloc (.cells #[.int .i64 q.kind, .int .i64 q.src, .int .i64 q.dst, .slice A n c, .int .i64 q.radius, .int .i64 q.most] 24)) (fun i _ => 0)
    case atStart => exact ⟨rfl, rfl⟩
    case round =>
      obtain ⟨rfl, rfl⟩ := hrel
      go_wp2_with (fail)
      go_ret
      exact ⟨_, rfl, (fun h => by simp at h <;> omega), hBq⟩
end Go.Proofs.Ytmnjlhifjjainaa
