/-
  The reference's put of chapter 19: the walk.
  The reference's Step where it is refused: the walk.
  The reference's Step where it goes through: the walk.
  Step and Each, whatever they are asked: one contract each for the program and the reference.
  Queries, rows and states that came in.
-/
import Derived.Test.YtichoidkemeibaaGreatJ16
import Derived.Test.YtichoidkemeibaaGreatJ04
import Derived.Test.YtichoidkemeibaaGreatJ07
import Derived.Test.YtichoidkemeibaaGreatJ15
import Derived.Test.YtichoidkemeibaaGreatJ17
import Derived.Test.YtichoidkemeibaaGreatJ20
import Derived.Test.YtichoidkemeibaaGreatJ11
import Derived.Test.YtichoidkemeibaaGreatJ13
import Derived.Test.YtichoidkemeibaaGreatJ14
import Derived.Test.YtichoidkemeibaaGreatJ05
import Derived.Test.YtichoidkemeibaaGreatJ10
import Derived.StillTailTactics
import Derived.BigQuiet
import Derived.Deep.RegionLaw
import Derived.Deep.Fields
namespace Go.Proofs.YtichoidkemeibaaGreat
open Go.RowKit

theorem state_box {w : World} {b : Nat} {x : Msg} (h : w.heap[b]? = some (.cells #[.int .i64 x.slot, .int .i64 x.dir, .int .i64 x.v, .int .i64 x.d] 43 (0, 0))) :
    w.cell? ⟨b, 0, none⟩ = some (.int .i64 x.slot) ∧ w.cell? ⟨b, 1, none⟩ = some (.int .i64 x.dir) ∧ w.cell? ⟨b, 2, none⟩ = some (.int .i64 x.v) ∧ w.cell? ⟨b, 3, none⟩ = some (.int .i64 x.d) := by
  refine ⟨?_, ?_, ?_, ?_⟩ <;> · rw [Lib.cell_of_heap h]; rfl

set_option maxRecDepth 100000 in
set_option maxHeartbeats 2000000 in
theorem put19_c (A : Option Addr) (n c : Nat) (xs : List Msg) (x : Msg) (w : World) (hr : Reads w w.heap.size 4 A n (mv xs)) (hn : n ≤ 1000000) (hcap : n ≤ c) (hfr : fresh xs x) :
    Calls Tryz.prog 60 #[.slice A n c, .agg #[.int .i64 x.slot, .int .i64 x.dir, .int .i64 x.v, .int .i64 x.d]] w fun e w' => ∃ A' c', e = .returned (.slice A' (n + 1) c') ∧ w'.ownsRow w.heap.size 43 4 (.slice A' (n + 1) c') (n + 1) (mv (putM xs x)) ∧ Below w.heap.size w w' := by
  have hl := hr.mail_len
  have HF := Lib.hid hfr
  clear hfr
  go_enter Tryz.func60, Tryz.ntmps60
  go_wp2_with (fail)
  have HL := Lib.hid hl
  clear hl
  go_loopw [5] (fun i wr => ∃ k : Nat, k ≤ n ∧ i = .int .i64 k ∧ Hid (∀ y ∈ xs.take k, kless y x) ∧ Below w.heap.size w wr ∧ wr.heap[w.heap.size]? = some (.cells #[.int .i64 x.slot, .int .i64 x.dir, .int .i64 x.v, .int .i64 x.d] 43 (0, 0))) (fun i _ => n - (intOf i).toNat)
  case atStart => exact ⟨0, Nat.zero_le _, rfl, fun m hm => by simp at hm, below_one _ _, Array.getElem?_push_size⟩
  case round =>
    obtain ⟨k, hk, rfl, ht, hB, hbx⟩ := hrel
    obtain ⟨d0, d1, d2, d3⟩ := state_box hbx
    by_cases hlt : k < n
    · obtain ⟨a1, o1, y, rfl, hy, c0, c1, c2, c3⟩ := (hr.below hB).mail_at hlt
      have hdec : decide ((k : Int) < (n : Int)) = true := by simpa using hlt
      go_wp2_with (fail)
      refine wp_region_still_tail 12 (by kernel_rfl) (by kernel_rfl) ?_
      simp only [List.take_succ_cons, List.take_zero, List.drop_succ_cons, List.drop_zero]
      obtain ⟨wd, hwd⟩ : ∃ wd, wd = wr.drew := ⟨_, rfl⟩
      change wr.drew.cell? _ = _ at c0 c1 c2 c3 d0 d1 d2 d3
      change wr.drew.heap[_]? = _ at hbx
      have hBd : Below w.heap.size w wr.drew := hB.drew
      rw [← hwd] at c0 c1 c2 c3 d0 d1 d2 d3 hbx hBd
      change wpStill _ _ wr.drew (fun a' => wpList _ _ _ _ a' wr.drew) _ _
      rw [← hwd]
      clear hwd hB
      repeat still_step
      refine wpStill_nil ?_
      go_wp2_with (fail)
      refine (less14_c y x _).mono ?_
      rintro e w3 ⟨rfl, hB3⟩
      have hBB := hBd.trans (hB3.mono hBd.size)
      have hbx3 := (hB3.block _ (Array.getElem?_eq_some_iff.1 hbx).1).trans hbx
      by_cases hless : kless y x
      · rw [decide_eq_true hless]
        have HS := Lib.hid hless
        clear hless hdec
        go_wp2_with (fail)
        go_roundw
        case rel =>
          refine ⟨k + 1, by omega, by go_num, fun m hm => ?_, hBB, hbx3⟩
          rw [List.take_add_one, hy.out] at hm
          rcases List.mem_append.1 hm with h | h
          · exact ht.out m h
          · simp at h; subst h; exact HS.out
        case measure => simp [intOf]; omega
      · rw [decide_eq_false hless]
        have HS := Lib.hid hless
        clear hless hdec d0 d1 d2 d3 c0 c1 c2 c3 hbx
        have hbs : w.heap.size + 1 ≤ w3.heap.size := (Array.getElem?_eq_some_iff.1 hbx3).1
        have hr3 : Reads w3 w.heap.size 4 (some ⟨a1, o1, none⟩) k (mv (xs.take k)) := by rw [← mv_take]; exact (hr.below hBB).first hk
        have hkc : k ≤ c := by omega
        go_wp2_with (at_builtin; refine wpList_cat elState rfl _ _ rfl (own_nil (base := w.heap.size + 1)) rfl hr3 rfl (mv_one _) (by unfold maxLen; omega) (by omega) hbs ?_)
        intro A4 c4 w4 ho4 p4
        have hB4 : Below w.heap.size w w4 := p4.below0 hBB hBB.size
        have hbx4 := (p4.grown.block _ (Array.getElem?_eq_some_iff.1 hbx3).1 (by simp)).trans hbx3
        obtain ⟨d0, d1, d2, d3⟩ := state_box hbx4
        have hs4 : w.heap.size + 1 ≤ w4.heap.size := (Array.getElem?_eq_some_iff.1 hbx4).1
        clear hr3 hB3 hbx3
        go_wp2_with (at_builtin; refine wpList_push elState rfl _ _ rfl ho4 rfl _ rfl rfl (mc_one x) (by unfold maxLen; omega) (by omega) hs4 ?_)
        intro A6 c6 w6 ho6 p6
        have hB6 := p6.below ho4 hB4 (Nat.le_succ _) hB4.size
        have hs6 := Nat.le_trans hs4 p6.larger
        clear d0 d1 d2 d3
        go_wp2_with (at_builtin; refine wpList_cat elState rfl _ _ rfl ho6 rfl ((hr.below hB6).cut (k := k) hk (fun h b o e => by cases e; rfl)) rfl (fun u hu => mv_one _ _ (List.mem_of_mem_drop hu)) (by unfold maxLen; omega) (by omega) hs6 ?_)
        intro A7 c7 w7 ho7 p7
        have hkn : k + 1 + (n - k) = n + 1 := by omega
        rw [hkn] at ho7 ⊢
        have hp : Hid (putM xs x = xs.take k ++ x :: xs.drop k) := put_new HL.out hlt hy.out ht.out HS.out (HF.out y (List.mem_of_getElem? hy.out))
        have HB7 := Lib.hid (p7.below ho6 hB6 (Nat.le_succ _) hB6.size)
        have HO7 : Hid (w7.ownsRow w.heap.size 43 4 (.slice A7 (n + 1) c7) (n + 1) (mv (putM xs x))) := by
          show World.ownsRow _ _ _ _ _ _ _
          rw [hp.out, show mv (xs.take k ++ x :: xs.drop k) = mv (xs.take k) ++ mc x ++ (mv xs).drop (k * 4) by rw [mv_drop]; simp [mv]]
          refine own_more (base := w.heap.size) ?_ (Nat.le_succ _)
          simpa [mc] using ho7
        clear ho7 p7 hkn
        go_wp2_with (fail)
        go_ret
        exact ⟨A7, c7, rfl, HO7.out, HB7.out⟩
    · obtain rfl : k = n := by omega
      have hdec : decide ((k : Int) < (k : Int)) = false := by simp
      have hall : Hid (∀ y ∈ xs, kless y x) := by
        have := ht.out
        rw [List.take_of_length_le (by rw [HL.out]; exact Nat.le_refl _)] at this
        exact this
      have hp := Lib.hid (put_last hall.out)
      have hrr := hr.below hB
      have hbs : w.heap.size + 1 ≤ wr.heap.size := (Array.getElem?_eq_some_iff.1 hbx).1
      clear d0 d1 d2 d3
      go_wp2_with (fail)
      go_quiet (fail)
      rename_i nq
      obtain ⟨wd, hwd⟩ : ∃ wd, wd = wr.drewN nq := ⟨_, rfl⟩
      have hBd : Below w.heap.size w wd := by rw [hwd]; exact below_drewN hB _
      have hbd : wd.heap[w.heap.size]? = some (.cells #[.int .i64 x.slot, .int .i64 x.dir, .int .i64 x.v, .int .i64 x.d] 43 (0, 0)) := by rw [hwd]; exact hbx
      have hrd : Reads wd w.heap.size 4 A k ((mv xs).take (k * 4)) := (hr.below hBd).first (Nat.le_refl _)
      rw [← hwd]
      clear hwd hB hbx hrr hbs
      have hbs : w.heap.size + 1 ≤ wd.heap.size := (Array.getElem?_eq_some_iff.1 hbd).1
      have hkc : k ≤ c := by omega
      go_wp2_with (at_builtin; refine wpList_cat elState rfl _ _ rfl (own_nil (base := w.heap.size + 1)) rfl hrd rfl (fun u hu => mv_one _ _ (List.mem_of_mem_take hu)) (by unfold maxLen; omega) (by omega) hbs ?_)
      intro A4 c4 w4 ho4 p4
      have hB4 : Below w.heap.size w w4 := p4.below0 hBd hBd.size
      have hb4 := (p4.grown.block _ (Array.getElem?_eq_some_iff.1 hbd).1 (by simp)).trans hbd
      have he4 : w4.ownsRow (w.heap.size + 1) 43 4 (.slice A4 k c4) k (mv xs) := by
        have e : (mv xs).take (k * 4) = mv xs := List.take_of_length_le (by rw [mv_len, HL.out]; exact Nat.le_refl _)
        simpa [e] using ho4
      obtain ⟨d0, d1, d2, d3⟩ := state_box hb4
      have hs4 : w.heap.size + 1 ≤ w4.heap.size := (Array.getElem?_eq_some_iff.1 hb4).1
      clear ho4
      go_wp2_with (at_builtin; refine wpList_push elState rfl _ _ rfl he4 rfl _ rfl rfl (mc_one x) (by unfold maxLen; omega) (by omega) hs4 ?_)
      intro A6 c6 w6 ho6 p6
      have hB6 := p6.below he4 hB4 (Nat.le_succ _) hB4.size
      have hs6 := Nat.le_trans hs4 p6.larger
      clear d0 d1 d2 d3
      go_wp2_with (at_builtin; refine wpList_cat elState rfl _ _ rfl ho6 rfl (show Reads w6 0 4 _ 0 [] from ⟨by simp, fun h => absurd h (by omega)⟩) rfl (fun u hu => by simp at hu) (by unfold maxLen; omega) (by omega) hs6 ?_)
      all_goals
        intro A7 c7 w7 ho7 p7
        have HB7 := Lib.hid (p7.below ho6 hB6 (Nat.le_succ _) hB6.size)
        have HO7 : Hid (w7.ownsRow w.heap.size 43 4 (.slice A7 (k + 1) c7) (k + 1) (mv (putM xs x))) := by
          show World.ownsRow _ _ _ _ _ _ _
          rw [hp.out, show mv (xs ++ [x]) = mv xs ++ mc x by simp [mv]]
          refine own_more (base := w.heap.size) ?_ (Nat.le_succ _)
          simpa [mc] using ho7
        clear ho7 p7
        go_wp2_with (fail)
        go_ret
        exact ⟨A7, c7, rfl, HO7.out, HB7.out⟩
end Go.Proofs.YtichoidkemeibaaGreat

namespace Go.Proofs.YtichoidkemeibaaGreat
open Go.RowKit

/-- The boxes that the reference's Step begins with. -/
structure QrAt (w : World) (q : QuA) (a : RwA) (W : World) : Prop where
  q_ : W.heap[w.heap.size]? = some (quBox q)
  r_ : W.heap[w.heap.size + 1]? = some (rwBox a)
  bel : Below w.heap.size w W
section
variable {w W W' : World} {q : QuA} {a : RwA}
theorem QrAt.lt (h : QrAt w q a W) : w.heap.size + 1 < W.heap.size := (Array.getElem?_eq_some_iff.1 h.r_).1
theorem QrAt.step (h : QrAt w q a W) (hB : Below W.heap.size W W') : QrAt w q a W' :=
  have hl := h.lt
  ⟨(hB.block _ (by omega)).trans h.q_, (hB.block _ (by omega)).trans h.r_, h.bel.trans (hB.mono (by omega))⟩
theorem qrAt_new (w : World) (q : QuA) (a : RwA) : QrAt w q a ((w.alloc (quBox q)).alloc (rwBox a)) := by
  have h1 := (w.alloc (quBox q)).alloc_heap_new (rwBox a)
  rw [World.size_alloc] at h1
  refine ⟨?_, h1, (below_one w _).trans ((below_one _ _).mono (by simp))⟩
  rw [Below.heap_alloc _ _ _ (by simp)]
  exact w.alloc_heap_new _
theorem QrAt.rw_ (h : QrAt w q a W) (hr : RwIn w w.heap.size a) : RwIn W W.heap.size a := (hr.below h.bel).more h.bel.size
theorem QrAt.rc (h : QrAt w q a W) : W.cell? ⟨w.heap.size + 1, 0, none⟩ = some (.slice a.A1 a.n1 a.c1) ∧ W.cell? ⟨w.heap.size + 1, 1, none⟩ = some (.slice a.A2 a.n2 a.c2) ∧ W.cell? ⟨w.heap.size + 1, 2, none⟩ = some (.slice a.A3 a.n3 a.c3) ∧ W.cell? ⟨w.heap.size + 1, 3, none⟩ = some (.slice a.A4 a.n4 a.c4) := by
  refine ⟨?_, ?_, ?_, ?_⟩ <;> · rw [Lib.cell_of_heap h.r_]; rfl
theorem QrAt.qc (h : QrAt w q a W) : W.cell? ⟨w.heap.size, 0, none⟩ = some (.int .i64 q.kind) ∧ W.cell? ⟨w.heap.size, 1, none⟩ = some (.int .i64 q.src) ∧ W.cell? ⟨w.heap.size, 2, none⟩ = some (.int .i64 q.dst) ∧ W.cell? ⟨w.heap.size, 3, none⟩ = some (.slice q.W q.nw q.cw) ∧ W.cell? ⟨w.heap.size, 4, none⟩ = some (.int .i64 q.radius) ∧ W.cell? ⟨w.heap.size, 5, none⟩ = some (.int .i64 q.most) := by
  refine ⟨?_, ?_, ?_, ?_, ?_, ?_⟩ <;> · rw [Lib.cell_of_heap h.q_]; rfl
end
theorem stepOk_iff {S M : List Msg} {k n : Int} : stepOk S M k n ↔ rightR S ∧ allMay M ∧ ((∀ x ∈ S, x.v < n) ∧ ∀ x ∈ M, x.v < n) ∧ (1 ≤ k ∧ k ≤ 16) := by
  unfold stepOk rightP rightR
  constructor
  · rintro ⟨⟨h1, h2⟩, h3, h4, h5⟩
    exact ⟨⟨fun x hx => (h1 x hx).1, h2⟩, h3, ⟨fun x hx => (h1 x hx).2, h4⟩, h5⟩
  · rintro ⟨⟨h1, h2⟩, h3, ⟨h4, h5⟩, h6⟩
    exact ⟨⟨fun x hx => ⟨h1 x hx, h4 x hx⟩, h2⟩, h3, h5, h6⟩

set_option maxRecDepth 100000 in
set_option maxHeartbeats 4000000 in
theorem step19_err (q : QuA) (a : RwA) (As Am : Option Addr) (ns cs nm cm : Nat) (k : Int) (S M : List Msg) (w : World) (ha : RwIn w w.heap.size a) (hS : Reads w w.heap.size 4 As ns (mv S)) (hM : Reads w w.heap.size 4 Am nm (mv M))
    (hns : ns ≤ 500000) (hnm : nm ≤ 4000) (hno : ¬ (chkR a.r ∧ stepOk S M k ((a.n1 : Int) - 1))) :
    Calls Tryz.prog 20 #[quVal q, rwVal a, .slice As ns cs, .slice Am nm cm, .int .i64 k] w fun e w' => e = .returned (.tuple #[.slice none 0 0, .slice none 0 0, .int .i64 (if chkR a.r then 1 else 40)]) ∧ Below w.heap.size w w' := by
  show Calls Tryz.prog 20 #[.agg #[.int .i64 q.kind, .int .i64 q.src, .int .i64 q.dst, .slice q.W q.nw q.cw, .int .i64 q.radius, .int .i64 q.most], .agg #[.slice a.A1 a.n1 a.c1, .slice a.A2 a.n2 a.c2, .slice a.A3 a.n3 a.c3, .slice a.A4 a.n4 a.c4], .slice As ns cs, .slice Am nm cm, .int .i64 k] w _
  have hx := qrAt_new w q a
  obtain ⟨r0, r1, r2, r3⟩ := hx.rc
  have hm1 := ha.m1
  unfold maxLen at hm1
  unfold quBox rwBox at r0 r1 r2 r3
  have HX := Lib.hid hx
  have HA := Lib.hid ha
  have HS := Lib.hid hS
  have HM := Lib.hid hM
  have HNO := Lib.hid hno
  clear hx ha hS hM hno
  by_cases hc : chkR a.r
  rotate_left
  · rw [if_neg hc]
    have hd : decide (chkR a.r) = false := decide_eq_false hc
    clear hc
    go_enter Tryz.func20, Tryz.ntmps20
    go_wp2_with (fail)
    refine (check04_c a _ (HX.out.rw_ HA.out)).mono ?_
    rintro e w1 ⟨rfl, hB1⟩
    have HX1 := Lib.hid (HX.out.step hB1)
    clear hB1 r0 r1 r2 r3 HX
    rw [hd]
    clear hd
    go_wp2_with (fail)
    refine bodyPost_ret (v := .tuple #[.slice none 0 0, .slice none 0 0, .int .i64 40]) ?_ rfl ⟨rfl, HX1.out.bel⟩
    simp [results, Tryz.results20, go_sem]
  rw [if_pos hc]
  have hd : decide (chkR a.r) = true := decide_eq_true hc
  have hno : Hid (¬ (rightR S ∧ allMay M ∧ ((∀ x ∈ S, x.v < (a.n1 : Int) - 1) ∧ ∀ x ∈ M, x.v < (a.n1 : Int) - 1) ∧ (1 ≤ k ∧ k ≤ 16))) := fun h => HNO.out ⟨hc, stepOk_iff.2 h⟩
  clear hc HNO
  go_enter Tryz.func20, Tryz.ntmps20
  go_wp2_with (fail)
  refine (check04_c a _ (HX.out.rw_ HA.out)).mono ?_
  rintro e w1 ⟨rfl, hB1⟩
  have HX1 := Lib.hid (HX.out.step hB1)
  clear hB1 r0 r1 r2 r3 HX
  rw [hd]
  clear hd
  go_wp2_with (fail)
  refine (right19_c As ns cs S _ ((HS.out.below HX1.out.bel).more HX1.out.bel.size) (by omega)).mono ?_
  rintro e w2 ⟨rfl, hB2⟩
  have HX2 := Lib.hid (HX1.out.step hB2)
  clear hB2 HX1
  by_cases t1 : rightR S
  rotate_left
  · rw [decide_eq_false t1]
    clear t1
    go_wp2_with (fail)
    refine bodyPost_ret (v := .tuple #[.slice none 0 0, .slice none 0 0, .int .i64 1]) ?_ rfl ⟨rfl, HX2.out.bel⟩
    simp [results, Tryz.results20, go_sem]
  rw [decide_eq_true t1]
  have HT1 := Lib.hid t1
  clear t1
  go_wp2_with (fail)
  refine (check16_c Am nm cm M _ ((HM.out.below HX2.out.bel).more HX2.out.bel.size) (by unfold maxLen; omega)).mono ?_
  rintro e w3 ⟨rfl, hB3⟩
  have HX3 := Lib.hid (HX2.out.step hB3)
  clear hB3 HX2
  by_cases t2 : allMay M
  rotate_left
  · rw [decide_eq_false t2]
    clear t2
    go_wp2_with (fail)
    refine bodyPost_ret (v := .tuple #[.slice none 0 0, .slice none 0 0, .int .i64 1]) ?_ rfl ⟨rfl, HX3.out.bel⟩
    simp [results, Tryz.results20, go_sem]
  rw [decide_eq_true t2]
  have HT2 := Lib.hid t2
  clear t2
  obtain ⟨r0, r1, r2, r3⟩ := HX3.out.rc
  go_wp2_with (fail)
  refine (within19_c As Am ns cs nm cm S M ((a.n1 : Int) - 1) _ ((HS.out.below HX3.out.bel).more HX3.out.bel.size) ((HM.out.below HX3.out.bel).more HX3.out.bel.size) (by unfold maxLen; omega) (by unfold maxLen; omega)).mono ?_
  rintro e w4 ⟨rfl, hB4⟩
  have HX4 := Lib.hid (HX3.out.step hB4)
  clear hB4 HX3 r0 r1 r2 r3
  by_cases t3 : (∀ x ∈ S, x.v < (a.n1 : Int) - 1) ∧ ∀ x ∈ M, x.v < (a.n1 : Int) - 1
  rotate_left
  · rw [decide_eq_false t3]
    clear t3
    go_wp2_with (fail)
    refine bodyPost_ret (v := .tuple #[.slice none 0 0, .slice none 0 0, .int .i64 1]) ?_ rfl ⟨rfl, HX4.out.bel⟩
    simp [results, Tryz.results20, go_sem]
  rw [decide_eq_true t3]
  have hk : k < 1 ∨ 16 < k := by
    rcases Classical.em (k < 1 ∨ 16 < k) with h | h
    · exact h
    · exact absurd ⟨HT1.out, HT2.out, t3, by omega⟩ hno.out
  clear t3
  rcases hk with hk | hk
  · go_wp2_with (fail)
    refine bodyPost_ret (v := .tuple #[.slice none 0 0, .slice none 0 0, .int .i64 1]) ?_ rfl ⟨rfl, HX4.out.bel⟩
    simp [results, Tryz.results20, go_sem]
  · have hk1 : ¬ k < 1 := by omega
    go_wp2_with (fail)
    refine bodyPost_ret (v := .tuple #[.slice none 0 0, .slice none 0 0, .int .i64 1]) ?_ rfl ⟨rfl, HX4.out.bel⟩
    simp [results, Tryz.results20, go_sem]
end Go.Proofs.YtichoidkemeibaaGreat

namespace Go.Proofs.YtichoidkemeibaaGreat
open Go.RowKit

theorem nowL_snoc (S l : List Msg) (x : Msg) : nowL S (l ++ [x]) = putM (nowL S l) x := by unfold nowL; rw [List.foldl_append]; rfl
theorem nowL_take {S f : List Msg} (hS : S.Pairwise kless) (hf : f.Pairwise kless) (hx : ∀ m ∈ f, fresh S m) (j : Nat) : (nowL S (f.take j)).Pairwise kless ∧ (∀ m, m ∈ nowL S (f.take j) ↔ m ∈ S ∨ m ∈ f.take j) ∧ (nowL S (f.take j)).length = S.length + (f.take j).length :=
  nowL_is hS (hf.sublist (List.take_sublist _ _)) fun m hm => hx m (List.mem_of_mem_take hm)
theorem nowL_fresh {S f : List Msg} (hS : S.Pairwise kless) (hf : f.Pairwise kless) (hx : ∀ m ∈ f, fresh S m) {j : Nat} {x : Msg} (h : f[j]? = some x) : fresh (nowL S (f.take j)) x := fun y hy => by
  rcases ((nowL_take hS hf hx j).2.1 y).1 hy with hy | hy
  · exact hx x (List.mem_of_getElem? h) y hy
  · obtain ⟨h1, h2⟩ := List.getElem?_eq_some_iff.1 h
    have h3 : f = f.take j ++ x :: f.drop (j + 1) := by rw [← h2, ← List.drop_eq_getElem_cons h1, List.take_append_drop]
    rw [h3] at hf
    exact kless_ne ((List.pairwise_append.1 hf).2.2 y hy x (by simp))

set_option maxRecDepth 100000 in
set_option maxHeartbeats 8000000 in
theorem step19_ok (q : QuA) (a : RwA) (As Am : Option Addr) (ns cs nm cm : Nat) (k : Int) (S M : List Msg) (w : World) (ha : RwIn w w.heap.size a) (hS : Reads w w.heap.size 4 As ns (mv S)) (hM : Reads w w.heap.size 4 Am nm (mv M))
    (hns : ns ≤ 500000) (hnm : nm ≤ 400) (hc : chkR a.r) (hok : stepOk S M k ((a.n1 : Int) - 1)) :
    Calls Tryz.prog 20 #[quVal q, rwVal a, .slice As ns cs, .slice Am nm cm, .int .i64 k] w fun e w' =>
      ∃ A1 k1 c1 A2 k2 c2, e = .returned (.tuple #[.slice A1 k1 c1, .slice A2 k2 c2, .int .i64 0]) ∧ w'.ownsRow w.heap.size 43 4 (.slice A1 k1 c1) k1 (mv (stepS S M)) ∧ w'.ownsRow w.heap.size 44 4 (.slice A2 k2 c2) k2 (mv (stepM (nxM q.kind q.radius a.r) S M)) ∧ Below w.heap.size w w' := by
  show Calls Tryz.prog 20 #[.agg #[.int .i64 q.kind, .int .i64 q.src, .int .i64 q.dst, .slice q.W q.nw q.cw, .int .i64 q.radius, .int .i64 q.most], .agg #[.slice a.A1 a.n1 a.c1, .slice a.A2 a.n2 a.c2, .slice a.A3 a.n3 a.c3, .slice a.A4 a.n4 a.c4], .slice As ns cs, .slice Am nm cm, .int .i64 k] w _
  obtain ⟨t1, t2, t3, t4⟩ := stepOk_iff.1 hok
  have hk1 : ¬ k < 1 := by omega
  have hk2 : ¬ 16 < k := by omega
  have hx := qrAt_new w q a
  obtain ⟨r0, r1, r2, r3⟩ := hx.rc
  have hm1 := ha.m1
  unfold maxLen at hm1
  unfold quBox rwBox at r0 r1 r2 r3
  have HN1 := Lib.hid (rw_n ha hc)
  have HX := Lib.hid hx
  have HA := Lib.hid ha
  have HS := Lib.hid hS
  have HM := Lib.hid hM
  have HOK := Lib.hid hok
  have HC := Lib.hid hc
  have HT1 := Lib.hid t1
  have HT2 := Lib.hid t2
  have HT3 := Lib.hid t3
  clear hx ha hS hM hok hc t1 t2 t3 t4
  go_enter Tryz.func20, Tryz.ntmps20
  go_wp2_with (fail)
  refine (check04_c a _ (HX.out.rw_ HA.out)).mono ?_
  rintro e w1 ⟨rfl, hB1⟩
  rw [decide_eq_true HC.out]
  have HX1 := Lib.hid (HX.out.step hB1)
  clear hB1 r0 r1 r2 r3 HX
  go_wp2_with (fail)
  refine (right19_c As ns cs S _ ((HS.out.below HX1.out.bel).more HX1.out.bel.size) (by omega)).mono ?_
  rintro e w2 ⟨rfl, hB2⟩
  rw [decide_eq_true HT1.out]
  have HX2 := Lib.hid (HX1.out.step hB2)
  clear hB2 HX1
  go_wp2_with (fail)
  refine (check16_c Am nm cm M _ ((HM.out.below HX2.out.bel).more HX2.out.bel.size) (by unfold maxLen; omega)).mono ?_
  rintro e w3 ⟨rfl, hB3⟩
  rw [decide_eq_true HT2.out]
  have HX3 := Lib.hid (HX2.out.step hB3)
  clear hB3 HX2
  obtain ⟨r0, r1, r2, r3⟩ := HX3.out.rc
  go_wp2_with (fail)
  refine (within19_c As Am ns cs nm cm S M ((a.n1 : Int) - 1) _ ((HS.out.below HX3.out.bel).more HX3.out.bel.size) ((HM.out.below HX3.out.bel).more HX3.out.bel.size) (by unfold maxLen; omega) (by unfold maxLen; omega)).mono ?_
  rintro e w4 ⟨rfl, hB4⟩
  rw [decide_eq_true HT3.out]
  have HX4 := Lib.hid (HX3.out.step hB4)
  clear hB4 HX3 r0 r1 r2 r3
  go_wp2_with (fail)
  refine (fresh19_c As Am ns cs nm cm S M _ ((HS.out.below HX4.out.bel).more HX4.out.bel.size) ((HM.out.below HX4.out.bel).more HX4.out.bel.size) (by omega) (by omega)).mono ?_
  rintro e w5 ⟨A5, k5, c5, rfl, hk5, ho5, hB5⟩
  have HX5 := Lib.hid (HX4.out.step hB5)
  have HR5 := Lib.hid (own_reads ho5)
  have hk5' : k5 ≤ 400 := by
    rw [hk5]
    have h1 : (freshL S M).length ≤ (combine M).length := List.length_filter_le _ _
    have h2 := combine_lenR M
    have h3 := HM.out.mail_len
    omega
  have HK5 := Lib.hid hk5
  clear ho5 hk5 hB5 HX4
  have hs5 : w.heap.size ≤ w5.heap.size := HX5.out.bel.size
  go_wp2_with (at_builtin; refine wpList_cat elState rfl _ _ rfl (own_nil (base := w5.heap.size)) rfl ((HS.out.below HX5.out.bel).more HX5.out.bel.size) rfl (mv_one _) (by unfold maxLen; omega) (by omega) (Nat.le_refl _) ?_)
  intro A6 c6 w6 ho6 p6
  have hB6 := p6.below0 (Below.refl _ _) (Nat.le_refl _)
  have HX6 := Lib.hid (HX5.out.step hB6)
  have HR6 := Lib.hid ((HR5.out.below hB6).more hB6.size)
  have HO6 : Hid (w6.ownsRow w.heap.size 43 4 (.slice A6 ns c6) ns (mv S)) := own_more (by simpa using ho6) hs5
  clear ho6 p6 hB6 HX5 HR5 hs5
  go_wp2_with (fail)
  go_loopw [16, 14, 15] (fun i v u wr => ∃ (j nn nt : Nat) (An At : Option Addr) (cn ct : Nat), j ≤ k5 ∧ i = .int .i64 j ∧ v = .slice An nn cn ∧ u = .slice At nt ct ∧ wr.ownsRow w.heap.size 43 4 (.slice An nn cn) nn (mv (nowL S ((freshL S M).take j))) ∧ wr.ownsRow w6.heap.size 44 4 (.slice At nt ct) nt (mv (((freshL S M).take j).flatMap (nxM q.kind q.radius a.r))) ∧ Below w6.heap.size w6 wr) (fun i _ _ _ => k5 - (intOf i).toNat)
  case atStart => exact ⟨0, ns, 0, A6, none, c6, 0, Nat.zero_le _, rfl, rfl, rfl, HO6.out, own_nil, Below.refl _ _⟩
  case round =>
    obtain ⟨j, nn, nt, An, At, cn, ct, hj, rfl, rfl, rfl, hon, hot, hB⟩ := hrel
    clear HO6
    have hnl := nowL_take HOK.out.1.2 (freshL_rise S M) (freshL_fresh S M) j
    have hnn : nn ≤ 500400 := by
      have h1 := (own_reads hon).mail_len
      rw [hnl.2.2, List.length_take] at h1
      have h2 := HS.out.mail_len
      omega
    have hgd : Hid (∀ y ∈ freshL S M, (y.dir = 0 ∨ y.dir = 1) ∧ (0 ≤ y.v ∧ y.v < (a.r.n : Int)) ∧ (0 ≤ y.d ∧ y.d ≤ 200)) := fun y hy => by
      have h1 := good_fresh HOK.out y hy
      rw [HN1.out] at h1
      exact h1
    have hnt : nt ≤ 80000 := by
      have h1 := (own_reads hot).mail_len
      have h2 := flat_nx_len (kind := q.kind) (radius := q.radius) HC.out ((freshL S M).take j) (fun y hy => (hgd.out y (List.mem_of_mem_take hy)).2.1)
      rw [List.length_take] at h2
      omega
    have hcn := (own_cap hon).1
    have HXR := Lib.hid (HX6.out.step hB)
    clear hnl
    by_cases hlt : j < k5
    · obtain ⟨b, o, x, rfl, hx, d0, d1, d2, d3⟩ := (HR6.out.below hB).mail_at hlt
      have HX := Lib.hid hx.out
      have HB := Lib.hid hB
      have HON := Lib.hid hon
      have HOT := Lib.hid hot
      have hbl : b < wr.heap.size := block_lt_of_cell d0
      clear hx hB hon hot
      have f1 : (0 : Int) ≤ (j : Int) := by omega
      have f2 : (j : Int) < (k5 : Int) := by omega
      go_wp2_with (fail)
      go_region_law (fail)
      all_goals
        have hbw : Below wr.heap.size wr (wr.alloc (stBox x)).drew := (below_one wr (stBox x)).drew
        have hbx : (wr.alloc (stBox x)).drew.heap[wr.heap.size]? = some (stBox x) := wr.alloc_heap_new (stBox x)
        change Exit.then _ _ _ _ (wr.alloc (stBox x)).drew
        generalize (wr.alloc (stBox x)).drew = wx at *
        have HBW := Lib.hid hbw
        have HXX := Lib.hid (HXR.out.step hbw)
        have HONX := Lib.hid (own_below HON.out hbw)
        have HOTX := Lib.hid (own_below HOT.out hbw)
        have HBX := Lib.hid hbx
        obtain ⟨q0, q1, q2, q3, q4, q5⟩ := HXX.out.qc
        obtain ⟨r0, r1, r2, r3⟩ := HXX.out.rc
        obtain ⟨x0, x1, x2, x3⟩ := state_box hbx
        have hgx := hgd.out x (List.mem_of_getElem? HX.out)
        have HGX := Lib.hid hgx
        clear hgx hbw hbx d0 d1 d2 d3
        go_wp2_with (fail)
        refine (next18_c q a x _ (HXX.out.rw_ HA.out) HC.out HGX.out.1 HGX.out.2.1 HGX.out.2.2).mono ?_
        rintro e w8 ⟨A8, k8, c8, rfl, hk8, ho8, hB8⟩
        have HX8 := Lib.hid (HXX.out.step hB8)
        have HON8 := Lib.hid (own_below HONX.out hB8)
        have HOT8 := Lib.hid (own_below HOTX.out hB8)
        have HBX8 : Hid (w8.heap[wr.heap.size]? = some (stBox x)) := (hB8.block _ (Array.getElem?_eq_some_iff.1 HBX.out).1).trans HBX.out
        have HR8 := Lib.hid (own_reads ho8)
        have HB8 := Lib.hid (HB.out.trans ((HBW.out.trans (hB8.mono HBW.out.size)).mono HB.out.size))
        have hk8' : k8 ≤ 200 := by rw [hk8]; exact nxM_len HC.out x HGX.out.2.1
        have HK8 := Lib.hid hk8
        clear q0 q1 q2 q3 q4 q5 r0 r1 r2 r3 x0 x1 x2 x3 hk8 ho8 hB8 HXX HONX HOTX HBX HON HOT HXR HB HBW
        obtain ⟨x0, x1, x2, x3⟩ := state_box HBX8.out
        have HFR : Hid (fresh (nowL S ((freshL S M).take j)) x) := nowL_fresh HOK.out.1.2 (freshL_rise S M) (freshL_fresh S M) HX.out
        go_wp2_with (fail)
        refine (put19_c An nn cn (nowL S ((freshL S M).take j)) x _ (own_reads HON8.out) (by omega) hcn HFR.out).mono ?_
        rintro e w9 ⟨A9, c9, rfl, ho9, hB9⟩
        have HON9 := Lib.hid (own_more (base := w.heap.size) ho9 HX8.out.bel.size)
        have HOT9 := Lib.hid (own_below HOT8.out hB9)
        have HR9 := Lib.hid ((HR8.out.below hB9).more hB9.size)
        have HB9 := Lib.hid (HB8.out.trans (hB9.mono HB8.out.size))
        have hs9 : w6.heap.size ≤ w9.heap.size := HB9.out.size
        clear x0 x1 x2 x3 ho9 hB9 HON8 HOT8 HR8 HB8 HBX8
        go_wp2_with (at_builtin; refine wpList_cat elMail rfl _ _ rfl HOT9.out rfl HR9.out rfl (mv_one _) (by unfold maxLen; omega) (by omega) hs9 ?_)
        intro A10 c10 w10 ho10 p10
        have HON10 := Lib.hid (p10.keep HON9.out (own_ne HON9.out HOT9.out (by decide)))
        have HB10 := Lib.hid (p10.below HOT9.out HB9.out (Nat.le_refl _) HB9.out.size)
        have HOT10 := Lib.hid ho10
        clear p10 ho10 HON9 HOT9 HR9 hs9
        go_wp2_with (fail)
        go_roundw
        case rel =>
          refine ⟨j + 1, nn + 1, nt + k8, A9, A10, c9, c10, by omega, by go_num, rfl, rfl, ?_, ?_, HB10.out⟩
          · rw [List.take_add_one, HX.out, Option.toList_some, nowL_snoc]
            exact HON10.out
          · rw [List.take_add_one, HX.out, Option.toList_some, List.flatMap_append, mv_append]
            simpa using HOT10.out
        case measure => simp [intOf]; omega
    · obtain rfl : j = k5 := by omega
      have e1 : (freshL S M).take j = freshL S M := List.take_of_length_le (by rw [HK5.out]; exact Nat.le_refl _)
      rw [e1] at hon hot
      have HON := Lib.hid hon
      have HOT := Lib.hid hot
      have HB := Lib.hid hB
      clear hon hot hB e1
      go_wp2_with (fail)
      refine (fresh19_c An At nn cn nt ct (nowL S (freshL S M)) ((freshL S M).flatMap (nxM q.kind q.radius a.r)) _ (own_reads HON.out) (own_reads HOT.out) (by omega) (by omega)).mono ?_
      rintro e w8 ⟨A8, k8, c8, rfl, hk8, ho8, hB8⟩
      have HON8 := Lib.hid (own_below HON.out hB8)
      have HO8 := Lib.hid (own_more (base := w.heap.size) ho8 HXR.out.bel.size)
      have HB8 := Lib.hid (HXR.out.step hB8).bel
      clear ho8 hB8 hk8
      go_wp2_with (fail)
      refine bodyPost_ret (v := .tuple #[.slice An nn cn, .slice A8 k8 c8, .int .i64 0]) ?_ rfl ⟨An, nn, cn, A8, k8, c8, rfl, HON8.out, HO8.out, HB8.out⟩
      simp [results, Tryz.results20, go_sem]
end Go.Proofs.YtichoidkemeibaaGreat

namespace Go.Proofs.YtichoidkemeibaaGreat
open Go.RowKit

/-- A step's states, messages and error. -/
def stepR (kind radius : Int) (r : Rws) (S M : List Msg) (k n : Int) : List Msg × List Msg × Int :=
  if chkR r then if stepOk S M k n then (stepS S M, stepM (nxM kind radius r) S M, 0) else ([], [], 1) else ([], [], 40)
theorem stepR_yes {kind radius : Int} {r : Rws} {S M : List Msg} {k n : Int} (hc : chkR r) (h : stepOk S M k n) : stepR kind radius r S M k n = (stepS S M, stepM (nxM kind radius r) S M, 0) := by unfold stepR; rw [if_pos hc, if_pos h]
theorem stepR_no {kind radius : Int} {r : Rws} {S M : List Msg} {k n : Int} (h : ¬ (chkR r ∧ stepOk S M k n)) : stepR kind radius r S M k n = ([], [], if chkR r then 1 else 40) := by
  unfold stepR
  by_cases hc : chkR r
  · rw [if_pos hc, if_neg (fun k => h ⟨hc, k⟩), if_pos hc]
  · rw [if_neg hc, if_neg hc]
theorem stepR_workers {kind radius : Int} {r : Rws} {S M : List Msg} {k k' n : Int} (h : 1 ≤ k ∧ k ≤ 16) (h' : 1 ≤ k' ∧ k' ≤ 16) : stepR kind radius r S M k n = stepR kind radius r S M k' n := by
  have e : stepOk S M k n ↔ stepOk S M k' n := ⟨fun x => ⟨x.1, x.2.1, x.2.2.1, h'⟩, fun x => ⟨x.1, x.2.1, x.2.2.1, h⟩⟩
  unfold stepR
  by_cases hc : chkR r
  · rw [if_pos hc, if_pos hc]
    by_cases hk : stepOk S M k n
    · rw [if_pos hk, if_pos (e.1 hk)]
    · rw [if_neg hk, if_neg (fun x => hk (e.2 x))]
  · rw [if_neg hc, if_neg hc]
theorem stepR_code {kind radius : Int} {r : Rws} {S M : List Msg} {k n : Int} : (stepR kind radius r S M k n).2.2 = 0 ∧ (chkR r ∧ stepOk S M k n) ∨ (stepR kind radius r S M k n).2.2 ≠ 0 ∧ ¬ (chkR r ∧ stepOk S M k n) := by
  by_cases h : chkR r ∧ stepOk S M k n
  · rw [stepR_yes h.1 h.2]; exact .inl ⟨rfl, h⟩
  · rw [stepR_no h]
    refine .inr ⟨?_, h⟩
    show (if chkR r then (1 : Int) else 40) ≠ 0
    split <;> decide

theorem own_max {w : World} {base : Nat} {e : TypeId} {size n c : Nat} {A : Option Addr} {xs : List Value} (h : w.ownsRow base e size (.slice A n c) n xs) : n ≤ maxLen := Nat.le_trans (own_cap h).1 (own_cap h).2
/-- What a call of a step gives. -/
def StDone (w w' : World) (res : List Msg × List Msg × Int) (e : Ending) : Prop :=
  ∃ A1 k1 c1 A2 k2 c2, e = .returned (.tuple #[.slice A1 k1 c1, .slice A2 k2 c2, .int .i64 res.2.2]) ∧ w'.ownsRow w.heap.size 43 4 (.slice A1 k1 c1) k1 (mv res.1) ∧ w'.ownsRow w.heap.size 44 4 (.slice A2 k2 c2) k2 (mv res.2.1) ∧ Below w.heap.size w w'
section
variable (q : QuA) (a : RwA) (As Am : Option Addr) (ns cs nm cm : Nat) (k : Int) (S M : List Msg) (w : World)
theorem stepP_c (Ap : Option Addr) (np cp : Nat) (ps : List Int) (ha : RwIn w w.heap.size a) (hS : Reads w w.heap.size 4 As ns (mv S)) (hM : Reads w w.heap.size 4 Am nm (mv M)) (hP : Reads w w.heap.size 1 Ap np (iv ps))
    (hns : ns ≤ 500000) (hnm : nm ≤ 4000) (hnp : np ≤ maxLen) (fS : ∀ m ∈ S, m.fits) (fM : ∀ m ∈ M, m.fits) :
    Calls Tryz.prog 16 #[quVal q, rwVal a, .slice As ns cs, .slice Am nm cm, .int .i64 k, .slice Ap np cp] w (fun e w' => StDone w w' (stepR q.kind q.radius a.r S M k ((a.n1 : Int) - 1)) e) := by
  by_cases h : chkR a.r ∧ stepOk S M k ((a.n1 : Int) - 1)
  · rw [stepR_yes h.1 h.2]
    obtain ⟨qn, rfl⟩ : ∃ qn : Nat, k = (qn : Int) := ⟨k.toNat, by have := h.2.2.2.2; omega⟩
    exact step_ok q a As Am Ap ns cs nm cm np cp qn S M ps w ha hS hM hP hns hnm hnp fS fM h.1 h.2
  · rw [stepR_no h]
    refine Calls.mono (step_err q a As Am Ap ns cs nm cm np cp k S M ps w ha hS hM hP hns hnm hnp fS fM h) ?_
    rintro e w' ⟨rfl, hB⟩
    exact ⟨none, 0, 0, none, 0, 0, rfl, own_nil, own_nil, hB⟩
theorem stepF_c (ha : RwIn w w.heap.size a) (hS : Reads w w.heap.size 4 As ns (mv S)) (hM : Reads w w.heap.size 4 Am nm (mv M)) (hns : ns ≤ 500000) (hnm : nm ≤ 400) :
    Calls Tryz.prog 20 #[quVal q, rwVal a, .slice As ns cs, .slice Am nm cm, .int .i64 k] w (fun e w' => StDone w w' (stepR q.kind q.radius a.r S M k ((a.n1 : Int) - 1)) e) := by
  by_cases h : chkR a.r ∧ stepOk S M k ((a.n1 : Int) - 1)
  · rw [stepR_yes h.1 h.2]
    exact step19_ok q a As Am ns cs nm cm k S M w ha hS hM hns hnm h.1 h.2
  · rw [stepR_no h]
    refine Calls.mono (step19_err q a As Am ns cs nm cm k S M w ha hS hM hns (by omega) h) ?_
    rintro e w' ⟨rfl, hB⟩
    exact ⟨none, 0, 0, none, 0, 0, rfl, own_nil, own_nil, hB⟩
end
/-- What Each tells. -/
def eachR (l : List Msg) (k : Int) : List Int × Int := if eachOk l k then (cntL l k.toNat, 0) else ([], 1)
def EaDone (w w' : World) (res : List Int × Int) (e : Ending) : Prop :=
  ∃ A n c, e = .returned (.tuple #[.slice A n c, .int .i64 res.2]) ∧ w'.ownsRow w.heap.size 3 1 (.slice A n c) n (iv res.1) ∧ Below w.heap.size w w'
theorem each_res {w w' : World} {l : List Msg} {k : Int} {e : Ending} (h : EachDone w w' l k e) : EaDone w w' (eachR l k) e := by
  unfold EachDone at h
  unfold eachR
  rcases h with ⟨h1, A, c, rfl, ho, hB⟩ | ⟨h1, rfl, hB⟩
  · rw [if_pos h1]; exact ⟨A, _, c, rfl, ho, hB⟩
  · rw [if_neg h1]; exact ⟨none, 0, 0, rfl, own_nil, hB⟩
theorem eachP_c (A : Option Addr) (n c : Nat) (l : List Msg) (k : Int) (w : World) (hr : Reads w w.heap.size 4 A n (mv l)) (hn : n ≤ 1000000) :
    Calls Tryz.prog 21 #[.slice A n c, .int .i64 k] w fun e w' => EaDone w w' (eachR l k) e := (each_c A n c l k w hr hn).mono fun _ _ h => each_res h
theorem eachF_c (A : Option Addr) (n c : Nat) (l : List Msg) (k : Int) (w : World) (hr : Reads w w.heap.size 4 A n (mv l)) (hn : n ≤ 1000000) :
    Calls Tryz.prog 22 #[.slice A n c, .int .i64 k] w fun e w' => EaDone w w' (eachR l k) e := (each19_c A n c l k w hr hn).mono fun _ _ h => each_res h
end Go.Proofs.YtichoidkemeibaaGreat

namespace Go.Proofs.YtichoidkemeibaaGreat
open Go.RowKit Go.Deep Go.ChangeShapes Go.WideShapes

section
variable {H : Type} {enc : TypeId × Value → H} {w : World} {base : Nat} {spare : Nat → Bool} {held : Bool}

theorem cells_str : Tryz.prog.cellsOf 9 = 1 := by kernel_rfl
theorem cells_texts : Tryz.prog.cellsOf 22 = 1 := by kernel_rfl
theorem cells_ints : Tryz.prog.cellsOf 25 = 1 := by kernel_rfl
theorem cells_state : Tryz.prog.cellsOf 43 = 4 := by kernel_rfl
theorem cells_query : Tryz.prog.cellsOf 24 = 6 := by kernel_rfl
theorem cells_rws : Tryz.prog.cellsOf 27 = 4 := by kernel_rfl

/-- Texts as values. -/
def svR (l : List ByteArray) : List Value := l.map Value.string
theorem trod_str1 {n : Nat} {cs : List Value} {y : DataW H × List MemPlace} (h : DataW.trod enc Tryz.prog w base spare held n 9 cs = some y) : ∃ x : ByteArray, cs = [.string x] ∧ x.size ≤ maxLen := by
  obtain ⟨s, e, _, hs⟩ := DataW.trod_string Tryz.underlying9 h
  exact ⟨s, e, hs⟩
theorem sv_flat : ∀ l : List ByteArray, l.flatMap (fun s : ByteArray => [Value.string s]) = svR l
  | [] => rfl
  | x :: xs => by
    rw [List.flatMap_cons, sv_flat xs]
    rfl
theorem iv_flat : ∀ l : List Int, l.flatMap (fun s : Int => [Value.int .i64 s]) = iv l
  | [] => rfl
  | x :: xs => by
    rw [List.flatMap_cons, iv_flat xs]
    rfl
theorem trod_texts {n : Nat} {cs : List Value} {y : DataW H × List MemPlace} (h : DataW.trod enc Tryz.prog w base spare held n 22 cs = some y) :
    ∃ (A : Option Addr) (len cap : Nat) (l : List ByteArray), cs = [.slice A len cap] ∧ l.length = len ∧ Reads w w.heap.size 1 A len (svR l) ∧ len ≤ maxLen ∧ ∀ s ∈ l, s.size ≤ maxLen := by
  obtain ⟨A, len, cap, rfl⟩ : ∃ A len cap, cs = [.slice A len cap] := by
    rcases open_slice Tryz.underlying22 h with ⟨hcs, _⟩ | ⟨x, l, c, m, n, D, Pl, hcs, _⟩
    · exact ⟨none, 0, 0, hcs⟩
    · exact ⟨some x, l, c, hcs⟩
  obtain ⟨l, h1, h2, h3, h4⟩ := open_list (fun s : ByteArray => [Value.string s]) 1 (fun _ => rfl) (by decide) (fun s => s.size ≤ maxLen) Tryz.underlying22 cells_str (fun _ _ _ h => trod_str1 h) (A := A) (len := len) (cap := cap) ⟨n, h⟩
  refine ⟨A, len, cap, l, rfl, h1, ?_, h3, h4⟩
  rw [sv_flat l] at h2
  exact h2
theorem trod_int1 {n : Nat} {cs : List Value} {y : DataW H × List MemPlace} (h : DataW.trod enc Tryz.prog w base spare held n 3 cs = some y) : ∃ x : Int, cs = [.int .i64 x] ∧ True := by
  obtain ⟨a, e0, _, _⟩ := DataW.trod_int Tryz.underlying3 h
  exact ⟨a, e0, trivial⟩
theorem trod_ints {n : Nat} {cs : List Value} {y : DataW H × List MemPlace} (h : DataW.trod enc Tryz.prog w base spare held n 25 cs = some y) :
    ∃ (A : Option Addr) (len cap : Nat) (l : List Int), cs = [.slice A len cap] ∧ Reads w w.heap.size 1 A len (iv l) ∧ len ≤ maxLen ∧ len ≤ cap := by
  obtain ⟨A, len, cap, rfl⟩ : ∃ A len cap, cs = [.slice A len cap] := by
    rcases open_slice Tryz.underlying25 h with ⟨hcs, _⟩ | ⟨x, l, c, m, n, D, Pl, hcs, _⟩
    · exact ⟨none, 0, 0, hcs⟩
    · exact ⟨some x, l, c, hcs⟩
  have hc := open_cap Tryz.underlying25 (A := A) (len := len) (cap := cap) ⟨n, h⟩
  obtain ⟨l, h1, h2, h3, _⟩ := open_list (fun s : Int => [Value.int .i64 s]) 1 (fun _ => rfl) (by decide) (fun _ => True) Tryz.underlying25 cells_int (fun _ _ _ h => trod_int1 h) (A := A) (len := len) (cap := cap) ⟨n, h⟩
  refine ⟨A, len, cap, l, rfl, ?_, h3, hc⟩
  rw [iv_flat l] at h2
  exact h2

/-- A query as an argument: its words can be read. -/
def QuIn (w : World) (a : QuA) : Prop := ∃ ws : List ByteArray, ws.length = a.nw ∧ Reads w w.heap.size 1 a.W a.nw (svR ws) ∧ a.nw ≤ maxLen ∧ (∀ s ∈ ws, s.size ≤ maxLen) ∧ (Lit.int .i64 a.src).wf = true ∧ (Lit.int .i64 a.dst).wf = true
/-- Rows as an argument. -/
def RwArg (w : World) (a : RwA) : Prop := RwIn w w.heap.size a

set_option maxRecDepth 100000 in
theorem open_query {r : Reach} {b0 : Nat} {v : Value} {d : DataW H} {p : List MemPlace} (hv : Value.okWide Tryz.prog w r b0 24 v) (h : DataW.Trod enc Tryz.prog w base spare held 24 v d p) :
    ∃ a : QuA, v = quVal a ∧ QuIn w a := by
  obtain ⟨cs, rfl, hsz⟩ := okWide_struct Tryz.underlying24 hv
  obtain ⟨fuel, hfu⟩ := h
  obtain ⟨xs, m, _, _, hl, hxl, hf⟩ := DataW.trod_struct Tryz.underlying24 hfu
  rw [cells_query] at hl
  obtain ⟨l⟩ := cs
  simp only [Value.cells] at hl hf
  match l, hl with
  | [c0, c1, c2, c3, c4, c5], _ =>
    match xs, hxl with
    | [x0, x1, x2, x3, x4, x5], _ =>
      have h0 : DataW.trod enc Tryz.prog w base spare held m 3 (([c0, c1, c2, c3, c4, c5].drop 0).take (Tryz.prog.cellsOf 3)) = some x0 := hf 0 _ rfl
      have h1 : DataW.trod enc Tryz.prog w base spare held m 3 (([c0, c1, c2, c3, c4, c5].drop 1).take (Tryz.prog.cellsOf 3)) = some x1 := hf 1 _ rfl
      have h2 : DataW.trod enc Tryz.prog w base spare held m 3 (([c0, c1, c2, c3, c4, c5].drop 2).take (Tryz.prog.cellsOf 3)) = some x2 := hf 2 _ rfl
      have h3 : DataW.trod enc Tryz.prog w base spare held m 22 (([c0, c1, c2, c3, c4, c5].drop 3).take (Tryz.prog.cellsOf 22)) = some x3 := hf 3 _ rfl
      have h4 : DataW.trod enc Tryz.prog w base spare held m 3 (([c0, c1, c2, c3, c4, c5].drop 4).take (Tryz.prog.cellsOf 3)) = some x4 := hf 4 _ rfl
      have h5 : DataW.trod enc Tryz.prog w base spare held m 3 (([c0, c1, c2, c3, c4, c5].drop 5).take (Tryz.prog.cellsOf 3)) = some x5 := hf 5 _ rfl
      rw [cells_int] at h0 h1 h2 h4 h5
      rw [cells_texts] at h3
      obtain ⟨a, e0, _, w0⟩ := DataW.trod_int Tryz.underlying3 h0
      obtain ⟨b, e1, _, w1⟩ := DataW.trod_int Tryz.underlying3 h1
      obtain ⟨c, e2, _, w2⟩ := DataW.trod_int Tryz.underlying3 h2
      obtain ⟨A, len, cap, l, e3, k1, k2, k3, k4⟩ := trod_texts h3
      obtain ⟨r, e4, _, w4⟩ := DataW.trod_int Tryz.underlying3 h4
      obtain ⟨mo, e5, _, w5⟩ := DataW.trod_int Tryz.underlying3 h5
      simp at e0 e1 e2 e3 e4 e5
      subst e0 e1 e2 e3 e4 e5
      exact ⟨⟨a, b, c, A, len, cap, r, mo⟩, rfl, l, k1, k2, k3, k4, w1, w2⟩

set_option maxRecDepth 100000 in
theorem open_rws {r : Reach} {b0 : Nat} {v : Value} {d : DataW H} {p : List MemPlace} (hv : Value.okWide Tryz.prog w r b0 27 v) (h : DataW.Trod enc Tryz.prog w base spare held 27 v d p) :
    ∃ a : RwA, v = rwVal a ∧ RwArg w a := by
  obtain ⟨cs, rfl, hsz⟩ := okWide_struct Tryz.underlying27 hv
  obtain ⟨fuel, hfu⟩ := h
  obtain ⟨xs, m, _, _, hl, hxl, hf⟩ := DataW.trod_struct Tryz.underlying27 hfu
  rw [cells_rws] at hl
  obtain ⟨l⟩ := cs
  simp only [Value.cells] at hl hf
  match l, hl with
  | [c0, c1, c2, c3], _ =>
    match xs, hxl with
    | [x0, x1, x2, x3], _ =>
      have h0 : DataW.trod enc Tryz.prog w base spare held m 25 (([c0, c1, c2, c3].drop 0).take (Tryz.prog.cellsOf 25)) = some x0 := hf 0 _ rfl
      have h1 : DataW.trod enc Tryz.prog w base spare held m 25 (([c0, c1, c2, c3].drop 1).take (Tryz.prog.cellsOf 25)) = some x1 := hf 1 _ rfl
      have h2 : DataW.trod enc Tryz.prog w base spare held m 25 (([c0, c1, c2, c3].drop 2).take (Tryz.prog.cellsOf 25)) = some x2 := hf 2 _ rfl
      have h3 : DataW.trod enc Tryz.prog w base spare held m 25 (([c0, c1, c2, c3].drop 3).take (Tryz.prog.cellsOf 25)) = some x3 := hf 3 _ rfl
      rw [cells_ints] at h0 h1 h2 h3
      obtain ⟨A0, l0, k0, z0, e0, r0, m0, p0⟩ := trod_ints h0
      obtain ⟨A1, l1, k1, z1, e1, r1, m1, p1⟩ := trod_ints h1
      obtain ⟨A2, l2, k2, z2, e2, r2, m2, p2⟩ := trod_ints h2
      obtain ⟨A3, l3, k3, z3, e3, r3, m3, p3⟩ := trod_ints h3
      simp at e0 e1 e2 e3
      subst e0 e1 e2 e3
      exact ⟨⟨⟨z0, z1, z2, z3⟩, A0, l0, k0, A1, l1, k1, A2, l2, k2, A3, l3, k3⟩, rfl, r0, r1, r2, r3, m0, m1, m2, m3, p1, p3⟩

set_option maxRecDepth 100000 in
theorem trod_state {n : Nat} {cs : List Value} {y : DataW H × List MemPlace} (h : DataW.trod enc Tryz.prog w base spare held n 43 cs = some y) : ∃ m : Msg, cs = mc m ∧ m.fits := by
  obtain ⟨xs, m, _, _, hl, hxl, hf⟩ := DataW.trod_struct Tryz.underlying43 h
  rw [cells_state] at hl
  match cs, hl with
  | [c0, c1, c2, c3], _ =>
    match xs, hxl with
    | [x0, x1], _ =>
      have h0 : DataW.trod enc Tryz.prog w base spare held m 41 (([c0, c1, c2, c3].drop 0).take (Tryz.prog.cellsOf 41)) = some x0 := hf 0 _ rfl
      have h1 : DataW.trod enc Tryz.prog w base spare held m 3 (([c0, c1, c2, c3].drop 3).take (Tryz.prog.cellsOf 3)) = some x1 := hf 1 _ rfl
      rw [cells_key] at h0
      rw [cells_int] at h1
      obtain ⟨a, b, c, e0, w0, w1, w2⟩ := trod_key h0
      obtain ⟨d, e1, _, w3⟩ := DataW.trod_int Tryz.underlying3 h1
      simp at e0 e1
      obtain ⟨rfl, rfl, rfl⟩ := e0
      subst e1
      exact ⟨⟨a, b, c, d⟩, rfl, w0, w1, w2, w3⟩
theorem open_states {A : Option Addr} {len cap : Nat} {d : DataW H} {p : List MemPlace} (h : DataW.Trod enc Tryz.prog w base spare held 33 (.slice A len cap) d p) :
    ∃ l : List Msg, l.length = len ∧ Reads w w.heap.size 4 A len (mv l) ∧ len ≤ maxLen ∧ ∀ m ∈ l, m.fits :=
  open_list mc 4 mc_len (by decide) Msg.fits Tryz.underlying33 cells_state (fun _ _ _ h => trod_state h) h
end
end Go.Proofs.YtichoidkemeibaaGreat
