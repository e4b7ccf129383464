/-
  The walk of Ints.
  The document's rows of chapter 19: the walk.
-/
import Derived.Test.YtichoidkemeibaaGreatProg
import Derived.Test.YtichoidkemeibaaGreatJ01
import Derived.Test.YtichoidkemeibaaGreatJ25
import Derived.Test.YtichoidkemeibaaGreatJ14
import Derived.Test.YtichoidkemeibaaGreatJ15
import Derived.Handy
import Derived.BigQuiet
import Derived.WalkLawsBesides
import Derived.WalkSpells
import Derived.Deep.RegionHeld3
namespace Go.Proofs.YtichoidkemeibaaGreat
open Go.RowKit

theorem ints_c (A1 A2 : Option Addr) (n1 n2 c1 c2 : Nat) (xs ys : List Int) (w : World) (h1 : Reads w w.heap.size 1 A1 n1 (iv xs)) (h2 : Reads w w.heap.size 1 A2 n2 (iv ys)) (hn1 : n1 ≤ maxLen) (hn2 : n2 ≤ maxLen) :
    Calls Tryz.prog 25 #[.slice A1 n1 c1, .slice A2 n2 c2] w fun e w' => e = .returned (.bool (decide (xs = ys))) ∧ Below w.heap.size w w' := by
  have l1 := h1.int_len
  have l2 := h2.int_len
  unfold maxLen at hn1 hn2
  by_cases hn : n1 = n2
  · subst hn
    go_enter Tryz.func25, Tryz.ntmps25
    go_wp2
    go_loopw [5] (fun i wr => ∃ k : Nat, k ≤ n1 ∧ i = .int .i64 k ∧ Hid (xs.take k = ys.take k) ∧ Below w.heap.size w wr) (fun i _ => n1 - (intOf i).toNat)
    case atStart => exact ⟨0, Nat.zero_le _, rfl, rfl, Below.refl _ _⟩
    case round =>
      obtain ⟨k, hk, rfl, ht, hB⟩ := hrel
      by_cases hlt : k < n1
      · obtain ⟨a1, o1, x, rfl, hx, hc1⟩ := (h1.below hB).int_at hlt
        obtain ⟨a2, o2, y, rfl, hy, hc2⟩ := (h2.below hB).int_at hlt
        clear h1 h2
        have L1 := Lib.hid l1
        have L2 := Lib.hid l2
        clear l1 l2
        go_wp2
        go_quiet (fail)
        go_wp2
        · have hne : (x != y) = true := by assumption
          have hne : x ≠ y := by simpa using hne
          go_ret
          have hf : ¬ xs = ys := fun e => hne (by
            have e1 := hx.out
            rw [e, hy.out] at e1
            injection e1 with e1; exact e1.symm)
          exact ⟨ret_bool (decide_eq_false hf).symm, below_drewN hB _⟩
        · have he : (x != y) = false := by assumption
          have he : x = y := by simpa using he
          go_roundw
          case rel =>
            refine ⟨k + 1, by omega, by go_num, ?_, below_drewN hB _⟩
            show _ = _
            rw [List.take_add_one, List.take_add_one, ht.out, hx.out, hy.out, he]
          case measure => simp [intOf]; omega
      · obtain rfl : k = n1 := by omega
        have hf : Hid (xs = ys) := by
          have := ht.out
          rw [List.take_of_length_le (by omega), List.take_of_length_le (by omega)] at this
          exact this
        clear l1 l2
        go_wp2
        go_ret
        exact ⟨ret_bool (decide_eq_true hf.out).symm, hB⟩
  · have hf : Hid (¬ xs = ys) := fun e => hn (by rw [← l1, ← l2, e])
    clear l1 l2
    go_enter Tryz.func25, Tryz.ntmps25
    go_wp2
    go_ret
    exact ⟨ret_bool (decide_eq_false hf.out).symm, Below.refl _ _⟩
end Go.Proofs.YtichoidkemeibaaGreat

namespace Go.Proofs.YtichoidkemeibaaGreat
open Go.RowKit

theorem infoTexts : (Tryz.prog.info? 22).map (fun i => (i.zero, i.size, i.bytes)) = some (some (.slice none 0 0), 1, 24) := by kernel_rfl
/-- The graph of one edge, just made. -/
theorem gr01_made {w w1 : World} (hown : w1.ownsRow (w.heap.size + 1) 22 1 (.slice (some ⟨w.heap.size + 1, 0, none⟩) 2 2) 2 [.slice none 0 0, .slice none 0 0])
    (hB : Below (w.heap.size + 1) (w.alloc (.cells #[.int .i64 0, .int .i64 1] 73)) w1) : GrIn w1 w1.heap.size gr01 (some ⟨w.heap.size, 0, none⟩) 1 (some ⟨w.heap.size + 1, 0, none⟩) 2 [.slice none 0 0, .slice none 0 0] := by
  refine ⟨?_, own_reads hown, rowsRead_nils w1, by decide, by decide⟩
  have hb : w1.heap[w.heap.size]? = some (.cells #[.int .i64 0, .int .i64 1] 73 (0, 0)) := (hB.block w.heap.size (by omega)).trans (w.alloc_heap_new _)
  have hl := (Array.getElem?_eq_some_iff.1 hb).1
  refine ⟨by decide, fun _ => ⟨w.heap.size, 0, rfl, hl, fun j u hu => ?_⟩⟩
  rw [Lib.cell_of_heap hb]
  simpa [gr01, ev, ec] using hu
where
  rowsRead_nils (w1 : World) : RowsRead w1 w1.heap.size 1 [.slice none 0 0, .slice none 0 0] (wv gr01.ws) :=
    (rowsOwn_nils w1 0 9 1 2).reads

/-- Boxes of a query and of rows. -/
structure TwoAt (n₀ bq br : Nat) (q : QuA) (a : RwA) (W : World) : Prop where
  q_ : W.heap[bq]? = some (quBox q)
  r_ : W.heap[br]? = some (rwBox a)
  rw_ : RwIn W n₀ a
  n_ : n₀ ≤ W.heap.size
section
variable {n₀ bq br : Nat} {q : QuA} {a : RwA} {W W' : World}
theorem TwoAt.step (h : TwoAt n₀ bq br q a W) (hB : Below W.heap.size W W') : TwoAt n₀ bq br q a W' :=
  ⟨(hB.block _ (Array.getElem?_eq_some_iff.1 h.q_).1).trans h.q_, (hB.block _ (Array.getElem?_eq_some_iff.1 h.r_).1).trans h.r_, h.rw_.below (hB.mono h.n_), Nat.le_trans h.n_ hB.size⟩
theorem TwoAt.in_ (h : TwoAt n₀ bq br q a W) : RwIn W W.heap.size a := h.rw_.more h.n_
theorem TwoAt.rc (h : TwoAt n₀ bq br q a W) : W.cell? ⟨br, 0, none⟩ = some (.slice a.A1 a.n1 a.c1) ∧ W.cell? ⟨br, 1, none⟩ = some (.slice a.A2 a.n2 a.c2) ∧ W.cell? ⟨br, 2, none⟩ = some (.slice a.A3 a.n3 a.c3) ∧ W.cell? ⟨br, 3, none⟩ = some (.slice a.A4 a.n4 a.c4) := by
  refine ⟨?_, ?_, ?_, ?_⟩ <;> · rw [Lib.cell_of_heap h.r_]; rfl
theorem TwoAt.qc (h : TwoAt n₀ bq br q a W) : W.cell? ⟨bq, 0, none⟩ = some (.int .i64 q.kind) ∧ W.cell? ⟨bq, 1, none⟩ = some (.int .i64 q.src) ∧ W.cell? ⟨bq, 2, none⟩ = some (.int .i64 q.dst) ∧ W.cell? ⟨bq, 3, none⟩ = some (.slice q.W q.nw q.cw) ∧ W.cell? ⟨bq, 4, none⟩ = some (.int .i64 q.radius) ∧ W.cell? ⟨bq, 5, none⟩ = some (.int .i64 q.most) := by
  refine ⟨?_, ?_, ?_, ?_, ?_, ?_⟩ <;> · rw [Lib.cell_of_heap h.q_]; rfl
end
/-- The query of the document's rows. -/
def qu01 : QuA := ⟨2, 0, 1, none, 0, 0, 0, 0⟩
def ms0 : List Msg := [⟨0, 0, 0, 0⟩]
def ms1 : List Msg := [⟨0, 0, 1, 1⟩]
def ms2 : List Msg := [⟨0, 0, 0, 0⟩, ⟨0, 0, 1, 1⟩]
theorem step01_ok : stepOk [] ms0 (2 : Nat) 2 := by decide
theorem step01_s : stepS [] ms0 = ms0 := by decide
theorem step01_m : stepM (nxM 2 0 rw01) [] ms0 = ms1 := by decide
theorem step12_ok : stepOk ms0 ms1 (2 : Nat) 2 := by decide
theorem step12_s : stepS ms0 ms1 = ms2 := by decide
theorem step12_m : stepM (nxM 2 0 rw01) ms0 ms1 = [] := by decide
theorem step23_ok : stepOk ms2 [] (2 : Nat) 2 := by decide
theorem step23_s : stepS ms2 [] = ms2 := by decide
theorem step23_m : stepM (nxM 2 0 rw01) ms2 [] = [] := by decide
theorem step0_no : ¬ (chkR rw01 ∧ stepOk [] [] 0 2) := by decide
theorem each2_ok : eachOk ms2 2 := by decide
theorem each2_c : cntL ms2 2 = [1, 1] := by decide

theorem reads_mlit (w : World) (l : List Msg) (e : TypeId) : Reads (w.alloc (.cells (mv l).toArray e)) (w.heap.size + 1) 4 (some ⟨w.heap.size, 0, none⟩) l.length (mv l) := by
  refine ⟨mv_len l, fun h => ⟨w.heap.size, 0, rfl, by omega, fun j u hu => ?_⟩⟩
  rw [cell_of_row _ _ _ _ e (0, 0) (heap_alloc_new w _)]
  simpa using hu
theorem n01 {w : World} {B : Nat} {a : RwA} (h : RwIn w B a) (hr : a.r = rw01) : a.n1 = 3 := by
  have := h.off.int_len
  rw [hr] at this
  exact this.symm
/-- Step at the rows of the one edge. -/
theorem step_lit (a : RwA) (As Am : Option Addr) (ns cs nm cm : Nat) (S M S' M' : List Msg) (w : World) (ha : RwIn w w.heap.size a) (hr : a.r = rw01) (hS : Reads w w.heap.size 4 As ns (mv S)) (hM : Reads w w.heap.size 4 Am nm (mv M))
    (hok : stepOk S M (2 : Nat) 2) (h1 : stepS S M = S') (h2 : stepM (nxM 2 0 rw01) S M = M') (hns : ns ≤ 100) (hnm : nm ≤ 100) (fS : ∀ m ∈ S, m.fits) (fM : ∀ m ∈ M, m.fits) :
    Calls Tryz.prog 16 #[.agg #[.int .i64 2, .int .i64 0, .int .i64 1, .slice none 0 0, .int .i64 0, .int .i64 0], .agg #[.slice a.A1 a.n1 a.c1, .slice a.A2 a.n2 a.c2, .slice a.A3 a.n3 a.c3, .slice a.A4 a.n4 a.c4], .slice As ns cs, .slice Am nm cm, .int .i64 2, .slice none 0 0] w fun e w' =>
      ∃ A1 c1 A2 c2, e = .returned (.tuple #[.slice A1 S'.length c1, .slice A2 M'.length c2, .int .i64 0]) ∧ Reads w' w'.heap.size 4 A1 S'.length (mv S') ∧ Reads w' w'.heap.size 4 A2 M'.length (mv M') ∧ Below w.heap.size w w' := by
  have hn := n01 ha hr
  have hk := step_ok qu01 a As Am none ns cs nm cm 0 0 2 S M [] w ha hS hM Reads.none_ (by omega) (by omega) (by unfold maxLen; omega) fS fM (by rw [hr]; exact rw01_ok) (by rw [hn]; exact hok)
  rw [hr] at hk
  refine Calls.mono hk ?_
  rintro e w' ⟨A1, k1, c1, A2, k2, c2, rfl, o1, o2, hB⟩
  rw [h1] at o1
  have o2 : w'.ownsRow w.heap.size 44 4 (.slice A2 k2 c2) k2 (mv M') := by rw [← h2]; exact o2
  have r1 := own_reads o1
  have r2 := own_reads o2
  have e1 := r1.mail_len
  have e2 := r2.mail_len
  subst e1 e2
  exact ⟨A1, c1, A2, c2, rfl, r1, r2, hB⟩
theorem start_lit (w : World) : Calls Tryz.prog 14 #[.agg #[.int .i64 2, .int .i64 0, .int .i64 1, .slice none 0 0, .int .i64 0, .int .i64 0], .int .i64 0] w fun e w' => ∃ A' c', e = .returned (.slice A' 1 c') ∧ Reads w' w'.heap.size 4 A' 1 (mv ms0) ∧ Below w.heap.size w w' :=
  (start_c qu01 0 w).mono fun e w' ⟨A', k, c', h1, h2, h3, h4⟩ => by
    have e1 : k = 1 := h2
    subst e1
    exact ⟨A', c', h1, own_reads h3, h4⟩
theorem ms_fits : ∀ m ∈ ms2, m.fits := fun m hm => may_fits (by revert m; decide)
theorem ms0_fits : ∀ m ∈ ms0, m.fits := fun m hm => may_fits (by revert m; decide)
theorem ms1_fits : ∀ m ∈ ms1, m.fits := fun m hm => may_fits (by revert m; decide)
theorem step0_lit (a : RwA) (w : World) (ha : RwIn w w.heap.size a) (hr : a.r = rw01) :
    Calls Tryz.prog 16 #[.agg #[.int .i64 2, .int .i64 0, .int .i64 1, .slice none 0 0, .int .i64 0, .int .i64 0], .agg #[.slice a.A1 a.n1 a.c1, .slice a.A2 a.n2 a.c2, .slice a.A3 a.n3 a.c3, .slice a.A4 a.n4 a.c4], .slice none 0 0, .slice none 0 0, .int .i64 0, .slice none 0 0] w fun e w' =>
      e = .returned (.tuple #[.slice none 0 0, .slice none 0 0, .int .i64 1]) ∧ Below w.heap.size w w' := by
  have hn := n01 ha hr
  have hk := step_err qu01 a none none none 0 0 0 0 0 0 0 [] [] [] w ha Reads.none_ Reads.none_ Reads.none_ (by omega) (by omega) (by unfold maxLen; omega) (by simp) (by simp) (by rw [hr, hn]; exact step0_no)
  rw [hr, if_pos rw01_ok] at hk
  exact hk
set_option maxRecDepth 100000 in
set_option maxHeartbeats 4000000 in
theorem rounds_c (w : World) : Calls Tryz.prog 26 #[] w fun e w' => e = .returned (.bool true) ∧ Below w.heap.size w w' := by
  obtain ⟨i0, hi0, hz0, hz1, hz2⟩ := info_parts infoTexts
  go_enter Tryz.func26, Tryz.ntmps26
  go_wp2_with (at_make; refine wpList_make_full _ rfl _ _ 75 rfl (w.heap.size + 1) 22 i0 _ 1 Tryz.underlying75 hi0 hz0 hz1 _ _ _ _ 2 rfl rfl rfl rfl (by rw [hz2]; omega) (by unfold maxLen; omega) (by simp) ?_; intro w1 hown1 hg1)
  have hown : w1.ownsRow (w.heap.size + 1) 22 1 (.slice (some ⟨w.heap.size + 1, 0, none⟩) 2 2) 2 [.slice none 0 0, .slice none 0 0] := by
    have e : (madeCells (Value.slice none 0 0).cells (2 * 1)).toList = [.slice none 0 0, .slice none 0 0] := by kernel_rfl
    rw [← e]; simpa using hown1
  have hB1 : Below (w.heap.size + 1) (w.alloc (.cells #[.int .i64 0, .int .i64 1] 73)) w1 := (Below.refl _ _).grown hg1 (by simp) (fun _ h => by cases h)
  have HG := Lib.hid (gr01_made hown hB1)
  have HB1 := Lib.hid ((below_one w (.cells #[.int .i64 0, .int .i64 1] 73)).trans (hB1.mono (Nat.le_succ _)))
  clear hown1 hg1 hown hB1
  refine (make_c _ _ _ _ _ w1 HG.out).mono ?_
  rintro e w2 ⟨a, har, he, hrw, hB2⟩
  unfold rwVal at he
  subst he
  obtain ⟨W3, hW3⟩ : ∃ W3, W3 = (w2.alloc (rwBox a)).alloc (quBox qu01) := ⟨_, rfl⟩
  have hb3 : Below w2.heap.size w2 W3 := by rw [hW3]; exact below_two _ _ _
  have ht3 : TwoAt w2.heap.size (w2.heap.size + 1) w2.heap.size qu01 a W3 := by
    refine ⟨?_, ?_, hrw.below hb3, hb3.size⟩
    · rw [hW3]
      have := (w2.alloc (rwBox a)).alloc_heap_new (quBox qu01)
      rw [World.size_alloc] at this
      exact this
    · rw [hW3, Below.heap_alloc _ _ _ (by simp)]
      exact w2.alloc_heap_new _
  have HB3 := Lib.hid ((HB1.out.trans (hB2.mono HB1.out.size)).trans (hb3.mono (Nat.le_trans HB1.out.size hB2.size)))
  have HT3 := Lib.hid ht3
  have HAR := Lib.hid har
  have HW3 := Lib.hid hW3
  clear hrw hB2 hb3 ht3 har hW3 HG HB1
  go_wp2_with (fail)
  change Code.wp _ _ _ _ ((w2.alloc (rwBox a)).alloc (quBox qu01))
  rw [← HW3.out]
  obtain ⟨q0, q1, q2, q3, q4, q5⟩ := HT3.out.qc
  obtain ⟨r0, r1, r2, r3⟩ := HT3.out.rc
  unfold qu01 at q0 q1 q2 q3 q4 q5
  have HST : Hid (∀ W, Below W3.heap.size W3 W → ∀ (A4 : Option Addr) (c4 : Nat), Reads W W.heap.size 4 A4 1 (mv ms0) → Calls Tryz.prog 16 #[.agg #[.int .i64 2, .int .i64 0, .int .i64 1, .slice none 0 0, .int .i64 0, .int .i64 0], .agg #[.slice a.A1 a.n1 a.c1, .slice a.A2 a.n2 a.c2, .slice a.A3 a.n3 a.c3, .slice a.A4 a.n4 a.c4], .slice none 0 0, .slice A4 1 c4, .int .i64 2, .slice none 0 0] W fun e w' =>
      ∃ A1 c1 A2 c2, e = .returned (.tuple #[.slice A1 1 c1, .slice A2 1 c2, .int .i64 0]) ∧ Reads w' w'.heap.size 4 A1 1 (mv ms0) ∧ Reads w' w'.heap.size 4 A2 1 (mv ms1) ∧ Below W.heap.size W w') := fun W hB A4 c4 hr =>
    step_lit a none A4 0 0 1 c4 [] ms0 ms0 ms1 W (HT3.out.step hB).in_ HAR.out Reads.none_ hr step01_ok step01_s step01_m (by omega) (by omega) (by simp) ms0_fits
  have HKS : Hid (∀ W, Below W3.heap.size W3 W → (W.cell? ⟨w2.heap.size + 1, 0, none⟩ = some (.int .i64 2) ∧ W.cell? ⟨w2.heap.size + 1, 1, none⟩ = some (.int .i64 0) ∧ W.cell? ⟨w2.heap.size + 1, 2, none⟩ = some (.int .i64 1) ∧ W.cell? ⟨w2.heap.size + 1, 3, none⟩ = some (.slice none 0 0) ∧ W.cell? ⟨w2.heap.size + 1, 4, none⟩ = some (.int .i64 0) ∧ W.cell? ⟨w2.heap.size + 1, 5, none⟩ = some (.int .i64 0)) ∧
      (W.cell? ⟨w2.heap.size, 0, none⟩ = some (.slice a.A1 a.n1 a.c1) ∧ W.cell? ⟨w2.heap.size, 1, none⟩ = some (.slice a.A2 a.n2 a.c2) ∧ W.cell? ⟨w2.heap.size, 2, none⟩ = some (.slice a.A3 a.n3 a.c3) ∧ W.cell? ⟨w2.heap.size, 3, none⟩ = some (.slice a.A4 a.n4 a.c4))) := fun W hB => ⟨(HT3.out.step hB).qc, (HT3.out.step hB).rc⟩
  go_region_held3 (fun W : World => (W.cell? ⟨w2.heap.size + 1, 0, none⟩ = some (.int .i64 2) ∧ W.cell? ⟨w2.heap.size + 1, 1, none⟩ = some (.int .i64 0) ∧ W.cell? ⟨w2.heap.size + 1, 2, none⟩ = some (.int .i64 1) ∧ W.cell? ⟨w2.heap.size + 1, 3, none⟩ = some (.slice none 0 0) ∧ W.cell? ⟨w2.heap.size + 1, 4, none⟩ = some (.int .i64 0) ∧ W.cell? ⟨w2.heap.size + 1, 5, none⟩ = some (.int .i64 0)) ∧
      (W.cell? ⟨w2.heap.size, 0, none⟩ = some (.slice a.A1 a.n1 a.c1) ∧ W.cell? ⟨w2.heap.size, 1, none⟩ = some (.slice a.A2 a.n2 a.c2) ∧ W.cell? ⟨w2.heap.size, 2, none⟩ = some (.slice a.A3 a.n3 a.c3) ∧ W.cell? ⟨w2.heap.size, 3, none⟩ = some (.slice a.A4 a.n4 a.c4)))
    (first | exact HKS.out _ ((Below.refl _ _).drew) | exact HKS.out _ HB5.out | exact HKS.out _ HB4.out)
    ((first
      | (go_at_call 14; refine (start_lit _).mono ?_; rintro e w4 ⟨A4, c4, rfl, hr4, hB4⟩; have HB4 := Lib.hid (((Below.refl W3.heap.size W3).drew).trans hB4); have HR4 := Lib.hid hr4; clear hB4 hr4)
      | (go_at_call 16; refine (HST.out _ HB4.out _ _ HR4.out).mono ?_; rintro e w5 ⟨A5, c5, A6, c6, rfl, hr5, hr6, hB5'⟩; have HB5 := Lib.hid (HB4.out.trans (hB5'.mono HB4.out.size)); have HR5 := Lib.hid hr5; have HR6 := Lib.hid hr6; clear hr5 hr6 hB5')))
  clear q0 q1 q2 q3 q4 q5 r0 r1 r2 r3 HB4 HR4
  obtain ⟨⟨q0, q1, q2, q3, q4, q5⟩, r0, r1, r2, r3⟩ := HKS.out w5 HB5.out
  go_wp2_with (fail)
  refine (step_lit a A5 A6 1 c5 1 c6 ms0 ms1 ms2 [] w5 (HT3.out.step HB5.out).in_ HAR.out HR5.out HR6.out step12_ok step12_s step12_m (by omega) (by omega) ms0_fits ms1_fits).mono ?_
  rintro e w6 ⟨A7, c7, A8, c8, rfl, hr7, hr8, hB6⟩
  have HB6 := Lib.hid (HB5.out.trans (hB6.mono HB5.out.size))
  have HR5' := Lib.hid ((HR5.out.below hB6).more hB6.size)
  have HR6' := Lib.hid ((HR6.out.below hB6).more hB6.size)
  have HR7 := Lib.hid hr7
  have HR8 := Lib.hid hr8
  clear q0 q1 q2 q3 q4 q5 r0 r1 r2 r3 hr7 hr8 hB6 HR5 HR6 HB5
  obtain ⟨⟨q0, q1, q2, q3, q4, q5⟩, r0, r1, r2, r3⟩ := HKS.out w6 HB6.out
  simp only [ms2, List.length_cons, List.length_nil, Nat.zero_add, Nat.reduceAdd] at HR7 HR8 ⊢
  go_wp2_with (fail)
  refine (step_lit a A7 A8 2 c7 0 c8 ms2 [] ms2 [] w6 (HT3.out.step HB6.out).in_ HAR.out HR7.out HR8.out step23_ok step23_s step23_m (by omega) (by omega) ms_fits (by simp)).mono ?_
  rintro e w7 ⟨A9, c9, A10, c10, rfl, hr9, hr10, hB7⟩
  have HB7 := Lib.hid (HB6.out.trans (hB7.mono HB6.out.size))
  have HR5 := Lib.hid ((HR5'.out.below hB7).more hB7.size)
  have HR6 := Lib.hid ((HR6'.out.below hB7).more hB7.size)
  have HR7' := Lib.hid ((HR7.out.below hB7).more hB7.size)
  have HR9 := Lib.hid hr9
  clear q0 q1 q2 q3 q4 q5 r0 r1 r2 r3 hr9 hr10 hB7 HR5' HR6' HB6 HR7 HR8
  simp only [ms2, List.length_cons, List.length_nil, Nat.zero_add, Nat.reduceAdd] at HR9 ⊢
  obtain ⟨W8, hW8⟩ : ∃ W8, W8 = (w7.alloc (.cells #[.int .i64 0, .int .i64 0, .int .i64 0, .int .i64 0] 43)).alloc (.cells #[.int .i64 0, .int .i64 0, .int .i64 0, .int .i64 0, .int .i64 0, .int .i64 0, .int .i64 1, .int .i64 1] 43) := ⟨_, rfl⟩
  have hb8 : Below w7.heap.size w7 W8 := by rw [hW8]; exact below_two _ _ _
  have h1r := reads_mlit w7 ms0 43
  have h2r := reads_mlit (w7.alloc (.cells #[.int .i64 0, .int .i64 0, .int .i64 0, .int .i64 0] 43)) ms2 43
  have h1s : Reads W8 W8.heap.size 4 (some ⟨w7.heap.size, 0, none⟩) 1 (mv ms0) := by
    rw [hW8]
    exact (h1r.below ((below_one _ _).mono (by simp))).more (by simp)
  have h2s : Reads W8 W8.heap.size 4 (some ⟨w7.heap.size + 1, 0, none⟩) 2 (mv ms2) := by
    rw [hW8]
    rw [World.size_alloc] at h2r
    exact h2r.more (by simp)
  have HW8 := Lib.hid hW8
  have HB8 := Lib.hid (HB7.out.trans (hb8.mono HB7.out.size))
  have HQ5 := Lib.hid ((HR5.out.below hb8).more hb8.size)
  have HQ6 := Lib.hid ((HR6.out.below hb8).more hb8.size)
  have HQ7 := Lib.hid ((HR7'.out.below hb8).more hb8.size)
  have HQ9 := Lib.hid ((HR9.out.below hb8).more hb8.size)
  have HQ1 := Lib.hid h1s
  have HQ2 := Lib.hid h2s
  clear hW8 hb8 h1r h2r h1s h2s HR5 HR6 HR7' HR9 HB7
  go_wp2_with (fail)
  change Calls _ _ _ ((w7.alloc (.cells #[.int .i64 0, .int .i64 0, .int .i64 0, .int .i64 0] 43)).alloc (.cells #[.int .i64 0, .int .i64 0, .int .i64 0, .int .i64 0, .int .i64 0, .int .i64 0, .int .i64 1, .int .i64 1] 43)) _
  rw [← HW8.out]
  refine (each_c _ _ _ ms2 2 W8 HQ2.out (by omega)).mono ?_
  rintro e w9 hE
  unfold EachDone at hE
  rcases hE with ⟨-, A11, c11, rfl, ho11, hB9⟩ | ⟨hno, -, -⟩
  rotate_left
  · exact absurd each2_ok hno
  have hr11 := own_reads ho11
  rw [show ((2 : Int).toNat) = 2 from rfl, each2_c] at hr11
  have HB9 := Lib.hid (HB8.out.trans (hB9.mono HB8.out.size))
  have HR1 := Lib.hid ((HQ1.out.below hB9).more hB9.size)
  have HR2 := Lib.hid ((HQ2.out.below hB9).more hB9.size)
  have HR5 := Lib.hid ((HQ5.out.below hB9).more hB9.size)
  have HR6 := Lib.hid ((HQ6.out.below hB9).more hB9.size)
  have HR7 := Lib.hid ((HQ7.out.below hB9).more hB9.size)
  have HR9 := Lib.hid ((HQ9.out.below hB9).more hB9.size)
  have HR11 := Lib.hid hr11
  clear hr11 ho11 hB9 HQ1 HQ2 HQ5 HQ6 HQ7 HQ9 HB8
  obtain ⟨⟨q0, q1, q2, q3, q4, q5⟩, r0, r1, r2, r3⟩ := HKS.out w9 HB9.out
  go_wp2_with (fail)
  refine (step0_lit a w9 (HT3.out.step HB9.out).in_ HAR.out).mono ?_
  rintro e w10 ⟨rfl, hB10⟩
  clear q0 q1 q2 q3 q4 q5 r0 r1 r2 r3
  have HB10 := Lib.hid (HB9.out.trans (hB10.mono HB9.out.size))
  have HR1' := Lib.hid ((HR1.out.below hB10).more hB10.size)
  have HR2' := Lib.hid ((HR2.out.below hB10).more hB10.size)
  have HR5' := Lib.hid ((HR5.out.below hB10).more hB10.size)
  have HR6' := Lib.hid ((HR6.out.below hB10).more hB10.size)
  have HR7' := Lib.hid ((HR7.out.below hB10).more hB10.size)
  have HR9' := Lib.hid ((HR9.out.below hB10).more hB10.size)
  have HR11' := Lib.hid ((HR11.out.below hB10).more hB10.size)
  clear hB10 HB9 HR1 HR2 HR5 HR6 HR7 HR9 HR11
  have HR1 := Lib.hid HR1'.out
  have HR2 := Lib.hid HR2'.out
  have HR5 := Lib.hid HR5'.out
  have HR6 := Lib.hid HR6'.out
  have HR7 := Lib.hid HR7'.out
  have HR9 := Lib.hid HR9'.out
  have HR11 := Lib.hid HR11'.out
  clear HR1' HR2' HR5' HR6' HR7' HR9' HR11'
  go_wp2_with (fail)
  refine (same15_c _ _ _ _ _ _ ms0 ms0 w10 HR5.out HR1.out (by decide) (by decide)).mono ?_
  rintro e w11 ⟨rfl, hB11⟩
  rw [show decide (ms0 = ms0) = true from decide_eq_true rfl]
  clear HR1 HR5
  have HB11 := Lib.hid (HB10.out.trans (hB11.mono HB10.out.size))
  have HR2' := Lib.hid ((HR2.out.below hB11).more hB11.size)
  have HR6' := Lib.hid ((HR6.out.below hB11).more hB11.size)
  have HR7' := Lib.hid ((HR7.out.below hB11).more hB11.size)
  have HR9' := Lib.hid ((HR9.out.below hB11).more hB11.size)
  have HR11' := Lib.hid ((HR11.out.below hB11).more hB11.size)
  clear hB11 HB10 HR2 HR6 HR7 HR9 HR11
  have HR2 := Lib.hid HR2'.out
  have HR6 := Lib.hid HR6'.out
  have HR7 := Lib.hid HR7'.out
  have HR9 := Lib.hid HR9'.out
  have HR11 := Lib.hid HR11'.out
  clear HR2' HR6' HR7' HR9' HR11'
  have hl12 := reads_mlit w11 ms1 44
  have hb12 := below_one w11 (.cells #[.int .i64 0, .int .i64 0, .int .i64 1, .int .i64 1] 44)
  obtain ⟨W12, hW12⟩ : ∃ W12, W12 = w11.alloc (.cells #[.int .i64 0, .int .i64 0, .int .i64 1, .int .i64 1] 44) := ⟨_, rfl⟩
  have hr12 : Reads W12 W12.heap.size 4 (some ⟨w11.heap.size, 0, none⟩) 1 (mv ms1) := by rw [hW12]; exact hl12.more (by simp)
  rw [← hW12] at hb12
  have HR12 := Lib.hid hr12
  have HW12 := Lib.hid hW12
  clear hl12 hr12 hW12
  have HB12 := Lib.hid (HB11.out.trans (hb12.mono HB11.out.size))
  have HR2' := Lib.hid ((HR2.out.below hb12).more hb12.size)
  have HR6' := Lib.hid ((HR6.out.below hb12).more hb12.size)
  have HR7' := Lib.hid ((HR7.out.below hb12).more hb12.size)
  have HR9' := Lib.hid ((HR9.out.below hb12).more hb12.size)
  have HR11' := Lib.hid ((HR11.out.below hb12).more hb12.size)
  clear hb12 HB11 HR2 HR6 HR7 HR9 HR11
  have HR2 := Lib.hid HR2'.out
  have HR6 := Lib.hid HR6'.out
  have HR7 := Lib.hid HR7'.out
  have HR9 := Lib.hid HR9'.out
  have HR11 := Lib.hid HR11'.out
  clear HR2' HR6' HR7' HR9' HR11'
  go_wp2_with (fail)
  change Calls _ _ _ (w11.alloc (.cells #[.int .i64 0, .int .i64 0, .int .i64 1, .int .i64 1] 44)) _
  rw [← HW12.out]
  refine (same16_c _ _ _ _ _ _ ms1 ms1 W12 HR6.out HR12.out (by decide) (by decide)).mono ?_
  rintro e w13 ⟨rfl, hB13⟩
  rw [show decide (ms1 = ms1) = true from decide_eq_true rfl]
  clear HR6 HR12
  have HB13 := Lib.hid (HB12.out.trans (hB13.mono HB12.out.size))
  have HR2' := Lib.hid ((HR2.out.below hB13).more hB13.size)
  have HR7' := Lib.hid ((HR7.out.below hB13).more hB13.size)
  have HR9' := Lib.hid ((HR9.out.below hB13).more hB13.size)
  have HR11' := Lib.hid ((HR11.out.below hB13).more hB13.size)
  clear hB13 HB12 HR2 HR7 HR9 HR11
  have HR2 := Lib.hid HR2'.out
  have HR7 := Lib.hid HR7'.out
  have HR9 := Lib.hid HR9'.out
  have HR11 := Lib.hid HR11'.out
  clear HR2' HR7' HR9' HR11'
  go_wp2_with (fail)
  refine (same15_c _ _ _ _ _ _ ms2 ms2 w13 HR7.out HR2.out (by decide) (by decide)).mono ?_
  rintro e w14 ⟨rfl, hB14⟩
  rw [show decide (ms2 = ms2) = true from decide_eq_true rfl]
  clear HR7
  have HB14 := Lib.hid (HB13.out.trans (hB14.mono HB13.out.size))
  have HR2' := Lib.hid ((HR2.out.below hB14).more hB14.size)
  have HR9' := Lib.hid ((HR9.out.below hB14).more hB14.size)
  have HR11' := Lib.hid ((HR11.out.below hB14).more hB14.size)
  clear hB14 HB13 HR2 HR9 HR11
  have HR2 := Lib.hid HR2'.out
  have HR9 := Lib.hid HR9'.out
  have HR11 := Lib.hid HR11'.out
  clear HR2' HR9' HR11'
  go_wp2_with (fail)
  refine (same15_c _ _ _ _ _ _ ms2 ms2 w14 HR9.out HR2.out (by decide) (by decide)).mono ?_
  rintro e w15 ⟨rfl, hB15⟩
  rw [show decide (ms2 = ms2) = true from decide_eq_true rfl]
  clear HR9 HR2
  have HB15 := Lib.hid (HB14.out.trans (hB15.mono HB14.out.size))
  have HR11' := Lib.hid ((HR11.out.below hB15).more hB15.size)
  clear hB15 HB14 HR11
  have HR11 := Lib.hid HR11'.out
  clear HR11'
  have hl16 := reads_lit w15 [1, 1] 3
  have hb16 := below_one w15 (.cells #[.int .i64 1, .int .i64 1] 3)
  obtain ⟨W16, hW16⟩ : ∃ W16, W16 = w15.alloc (.cells #[.int .i64 1, .int .i64 1] 3) := ⟨_, rfl⟩
  have hr16 : Reads W16 W16.heap.size 1 (some ⟨w15.heap.size, 0, none⟩) 2 (iv [1, 1]) := by rw [hW16]; exact hl16.more (by simp)
  rw [← hW16] at hb16
  have HR16 := Lib.hid hr16
  have HW16 := Lib.hid hW16
  clear hl16 hr16 hW16
  have HB16 := Lib.hid (HB15.out.trans (hb16.mono HB15.out.size))
  have HR11' := Lib.hid ((HR11.out.below hb16).more hb16.size)
  clear hb16 HB15 HR11
  have HR11 := Lib.hid HR11'.out
  clear HR11'
  go_wp2_with (fail)
  change Calls _ _ _ (w15.alloc (.cells #[.int .i64 1, .int .i64 1] 3)) _
  rw [← HW16.out]
  refine (ints_c _ _ _ _ _ _ [1, 1] [1, 1] W16 HR11.out HR16.out (by decide) (by decide)).mono ?_
  rintro e w17 ⟨rfl, hB17⟩
  rw [show decide (([1, 1] : List Int) = [1, 1]) = true from decide_eq_true rfl]
  have HB17 := Lib.hid (HB3.out.trans ((HB16.out.trans (hB17.mono HB16.out.size)).mono HB3.out.size))
  clear hB17 HR11 HR16 HB16
  go_wp2_with (fail)
  go_ret
  exact ⟨rfl, HB17.out⟩
end Go.Proofs.YtichoidkemeibaaGreat
