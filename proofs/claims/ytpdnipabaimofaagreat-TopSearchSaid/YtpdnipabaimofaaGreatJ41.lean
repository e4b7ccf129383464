/-
  The document's rows of chapter 19: the walk.
  'walked' of the laws over layers: the walk; and 'few' and 'short'.
-/
import Derived.Test.YtpdnipabaimofaaGreatJ40
import Derived.Test.YtpdnipabaimofaaGreatJ19
import Derived.Test.YtpdnipabaimofaaGreatJ10
import Derived.Test.YtpdnipabaimofaaGreatJ33
import Derived.Test.YtpdnipabaimofaaGreatJ20
import Derived.Deep.RegionHeld3
namespace Go.Proofs.YtpdnipabaimofaaGreat
open Go.RowKit

theorem infoTexts : (Tryz.prog.info? 22).map (fun i => (i.zero, i.size, i.bytes)) = some (some (.slice none 0 0), 1, 24) := by kernel_rfl
/-- The graph of one edge, just made. -/
theorem gr01_made {w w1 : World} (hown : w1.ownsRow (w.heap.size + 1) 22 1 (.slice (some ⟨w.heap.size + 1, 0, none⟩) 2 2) 2 [.slice none 0 0, .slice none 0 0])
    (hB : Below (w.heap.size + 1) (w.alloc (.cells #[.int .i64 0, .int .i64 1] 48)) w1) : GrIn w1 w1.heap.size gr01 (some ⟨w.heap.size, 0, none⟩) 1 (some ⟨w.heap.size + 1, 0, none⟩) 2 [.slice none 0 0, .slice none 0 0] := by
  refine ⟨?_, own_reads hown, rowsRead_nils w1, by decide, by decide⟩
  have hb : w1.heap[w.heap.size]? = some (.cells #[.int .i64 0, .int .i64 1] 48 (0, 0)) := (hB.block w.heap.size (by omega)).trans (w.alloc_heap_new _)
  have hl := (Array.getElem?_eq_some_iff.1 hb).1
  refine ⟨by decide, fun _ => ⟨w.heap.size, 0, rfl, hl, fun j u hu => ?_⟩⟩
  rw [Lib.cell_of_heap hb]
  simpa [gr01, ev, ec] using hu
where
  rowsRead_nils (w1 : World) : RowsRead w1 w1.heap.size 1 [.slice none 0 0, .slice none 0 0] (wv gr01.ws) :=
    (rowsOwn_nils w1 0 9 1 2).reads

/-- Boxes of a query and of rows. -/
structure TwoAt (n₀ bq br : Nat) (q : QuA) (a : RwA) (W : World) : Prop where
  q_ : W.heap[bq]? = some (quBox q)
  r_ : W.heap[br]? = some (rwBox a)
  rw_ : RwIn W n₀ a
  n_ : n₀ ≤ W.heap.size
section
variable {n₀ bq br : Nat} {q : QuA} {a : RwA} {W W' : World}
theorem TwoAt.step (h : TwoAt n₀ bq br q a W) (hB : Below W.heap.size W W') : TwoAt n₀ bq br q a W' :=
  ⟨(hB.block _ (Array.getElem?_eq_some_iff.1 h.q_).1).trans h.q_, (hB.block _ (Array.getElem?_eq_some_iff.1 h.r_).1).trans h.r_, h.rw_.below (hB.mono h.n_), Nat.le_trans h.n_ hB.size⟩
theorem TwoAt.in_ (h : TwoAt n₀ bq br q a W) : RwIn W W.heap.size a := h.rw_.more h.n_
theorem TwoAt.rc (h : TwoAt n₀ bq br q a W) : W.cell? ⟨br, 0, none⟩ = some (.slice a.A1 a.n1 a.c1) ∧ W.cell? ⟨br, 1, none⟩ = some (.slice a.A2 a.n2 a.c2) ∧ W.cell? ⟨br, 2, none⟩ = some (.slice a.A3 a.n3 a.c3) ∧ W.cell? ⟨br, 3, none⟩ = some (.slice a.A4 a.n4 a.c4) := by
  refine ⟨?_, ?_, ?_, ?_⟩ <;> · rw [Lib.cell_of_heap h.r_]; rfl
theorem TwoAt.qc (h : TwoAt n₀ bq br q a W) : W.cell? ⟨bq, 0, none⟩ = some (.int .i64 q.kind) ∧ W.cell? ⟨bq, 1, none⟩ = some (.int .i64 q.src) ∧ W.cell? ⟨bq, 2, none⟩ = some (.int .i64 q.dst) ∧ W.cell? ⟨bq, 3, none⟩ = some (.slice q.W q.nw q.cw) ∧ W.cell? ⟨bq, 4, none⟩ = some (.int .i64 q.radius) ∧ W.cell? ⟨bq, 5, none⟩ = some (.int .i64 q.most) := by
  refine ⟨?_, ?_, ?_, ?_, ?_, ?_⟩ <;> · rw [Lib.cell_of_heap h.q_]; rfl
end
/-- The query of the document's rows. -/
def qu01 : QuA := ⟨2, 0, 1, none, 0, 0, 0, 0⟩
def ms0 : List Msg := [⟨0, 0, 0, 0⟩]
def ms1 : List Msg := [⟨0, 0, 1, 1⟩]
def ms2 : List Msg := [⟨0, 0, 0, 0⟩, ⟨0, 0, 1, 1⟩]
theorem step01_ok : stepOk [] ms0 (2 : Nat) 2 := by decide
theorem step01_s : stepS [] ms0 = ms0 := by decide
theorem step01_m : stepM (nxM 2 0 rw01) [] ms0 = ms1 := by decide
theorem step12_ok : stepOk ms0 ms1 (2 : Nat) 2 := by decide
theorem step12_s : stepS ms0 ms1 = ms2 := by decide
theorem step12_m : stepM (nxM 2 0 rw01) ms0 ms1 = [] := by decide
theorem step23_ok : stepOk ms2 [] (2 : Nat) 2 := by decide
theorem step23_s : stepS ms2 [] = ms2 := by decide
theorem step23_m : stepM (nxM 2 0 rw01) ms2 [] = [] := by decide
theorem step0_no : ¬ (chkR rw01 ∧ stepOk [] [] 0 2) := by decide
theorem each2_ok : eachOk ms2 2 := by decide
theorem each2_c : cntL ms2 2 = [1, 1] := by decide

theorem reads_mlit (w : World) (l : List Msg) (e : TypeId) : Reads (w.alloc (.cells (mv l).toArray e)) (w.heap.size + 1) 4 (some ⟨w.heap.size, 0, none⟩) l.length (mv l) := by
  refine ⟨mv_len l, fun h => ⟨w.heap.size, 0, rfl, by omega, fun j u hu => ?_⟩⟩
  rw [cell_of_row _ _ _ _ e (0, 0) (heap_alloc_new w _)]
  simpa using hu
theorem n01 {w : World} {B : Nat} {a : RwA} (h : RwIn w B a) (hr : a.r = rw01) : a.n1 = 3 := by
  have := h.off.int_len
  rw [hr] at this
  exact this.symm
/-- Step at the rows of the one edge. -/
theorem step_lit (a : RwA) (As Am : Option Addr) (ns cs nm cm : Nat) (S M S' M' : List Msg) (w : World) (ha : RwIn w w.heap.size a) (hr : a.r = rw01) (hS : Reads w w.heap.size 4 As ns (mv S)) (hM : Reads w w.heap.size 4 Am nm (mv M))
    (hok : stepOk S M (2 : Nat) 2) (h1 : stepS S M = S') (h2 : stepM (nxM 2 0 rw01) S M = M') (hns : ns ≤ 100) (hnm : nm ≤ 100) (fS : ∀ m ∈ S, m.fits) (fM : ∀ m ∈ M, m.fits) :
    Calls Tryz.prog 24 #[.agg #[.int .i64 2, .int .i64 0, .int .i64 1, .slice none 0 0, .int .i64 0, .int .i64 0], .agg #[.slice a.A1 a.n1 a.c1, .slice a.A2 a.n2 a.c2, .slice a.A3 a.n3 a.c3, .slice a.A4 a.n4 a.c4], .slice As ns cs, .slice Am nm cm, .int .i64 2, .slice none 0 0] w fun e w' =>
      ∃ A1 c1 A2 c2, e = .returned (.tuple #[.slice A1 S'.length c1, .slice A2 M'.length c2, .int .i64 0]) ∧ Reads w' w'.heap.size 4 A1 S'.length (mv S') ∧ Reads w' w'.heap.size 4 A2 M'.length (mv M') ∧ Below w.heap.size w w' := by
  have hn := n01 ha hr
  have hk := step_ok qu01 a As Am none ns cs nm cm 0 0 2 S M [] w ha hS hM Reads.none_ (by omega) (by omega) (by unfold maxLen; omega) fS fM (by rw [hr]; exact rw01_ok) (by rw [hn]; exact hok)
  rw [hr] at hk
  refine Calls.mono hk ?_
  rintro e w' ⟨A1, k1, c1, A2, k2, c2, rfl, o1, o2, hB⟩
  rw [h1] at o1
  have o2 : w'.ownsRow w.heap.size 79 4 (.slice A2 k2 c2) k2 (mv M') := by rw [← h2]; exact o2
  have r1 := own_reads o1
  have r2 := own_reads o2
  have e1 := r1.mail_len
  have e2 := r2.mail_len
  subst e1 e2
  exact ⟨A1, c1, A2, c2, rfl, r1, r2, hB⟩
theorem start_lit (w : World) : Calls Tryz.prog 12 #[.agg #[.int .i64 2, .int .i64 0, .int .i64 1, .slice none 0 0, .int .i64 0, .int .i64 0], .int .i64 0] w fun e w' => ∃ A' c', e = .returned (.slice A' 1 c') ∧ Reads w' w'.heap.size 4 A' 1 (mv ms0) ∧ Below w.heap.size w w' :=
  (start_c qu01 0 w).mono fun e w' ⟨A', k, c', h1, h2, h3, h4⟩ => by
    have e1 : k = 1 := h2
    subst e1
    exact ⟨A', c', h1, own_reads h3, h4⟩
theorem ms_fits : ∀ m ∈ ms2, m.fits := fun m hm => may_fits (by revert m; decide)
theorem ms0_fits : ∀ m ∈ ms0, m.fits := fun m hm => may_fits (by revert m; decide)
theorem ms1_fits : ∀ m ∈ ms1, m.fits := fun m hm => may_fits (by revert m; decide)
theorem step0_lit (a : RwA) (w : World) (ha : RwIn w w.heap.size a) (hr : a.r = rw01) :
    Calls Tryz.prog 24 #[.agg #[.int .i64 2, .int .i64 0, .int .i64 1, .slice none 0 0, .int .i64 0, .int .i64 0], .agg #[.slice a.A1 a.n1 a.c1, .slice a.A2 a.n2 a.c2, .slice a.A3 a.n3 a.c3, .slice a.A4 a.n4 a.c4], .slice none 0 0, .slice none 0 0, .int .i64 0, .slice none 0 0] w fun e w' =>
      e = .returned (.tuple #[.slice none 0 0, .slice none 0 0, .int .i64 1]) ∧ Below w.heap.size w w' := by
  have hn := n01 ha hr
  have hk := step_err qu01 a none none none 0 0 0 0 0 0 0 [] [] [] w ha Reads.none_ Reads.none_ Reads.none_ (by omega) (by omega) (by unfold maxLen; omega) (by simp) (by simp) (by rw [hr, hn]; exact step0_no)
  rw [hr, if_pos rw01_ok] at hk
  exact hk
end Go.Proofs.YtpdnipabaimofaaGreat

namespace Go.Proofs.YtpdnipabaimofaaGreat
open Go.RowKit

/-- A truth value that is true only when P. -/
def OnlyIf (w w' : World) (P : Prop) (e : Ending) : Prop := ∃ b : Bool, e = .returned (.bool b) ∧ (b = true → P) ∧ Below w.heap.size w w'
theorem only_no {w w' : World} {P : Prop} (h : Below w.heap.size w w') : OnlyIf w w' P (.returned (.bool false)) := ⟨false, rfl, fun h => by simp at h, h⟩
theorem only_yes {w w' : World} {P : Prop} {b : Bool} (h : Below w.heap.size w w') (p : P) : OnlyIf w w' P (.returned (.bool b)) := ⟨b, rfl, fun _ => p, h⟩
/-- What 'few' lets through. -/
def fewA (a : RwA) : Prop := a.n1 ≤ 30 ∧ a.n3 ≤ 30 ∧ a.n2 ≤ 150 ∧ a.n4 ≤ 150
set_option maxRecDepth 100000 in
set_option maxHeartbeats 2000000 in
theorem few_c (a : RwA) (w : World) : Calls Tryz.prog 4 #[rwVal a] w fun e w' => OnlyIf w w' (fewA a) e := by
  show Calls Tryz.prog 4 #[.agg #[.slice a.A1 a.n1 a.c1, .slice a.A2 a.n2 a.c2, .slice a.A3 a.n3 a.c3, .slice a.A4 a.n4 a.c4]] w _
  have hB := Lib.hid (below_one w (rwBox a))
  by_cases h1 : a.n1 ≤ 30
  rotate_left
  · have h1' : ¬ (a.n1 : Int) ≤ 30 := by omega
    go_enter Tryz.func4, Tryz.ntmps4
    go_wp2_with (fail)
    go_ret
    exact only_no hB.out
  have h1' : (a.n1 : Int) ≤ 30 := by omega
  by_cases h2 : a.n3 ≤ 30
  rotate_left
  · have h2' : ¬ (a.n3 : Int) ≤ 30 := by omega
    go_enter Tryz.func4, Tryz.ntmps4
    go_wp2_with (fail)
    go_ret
    exact only_no hB.out
  have h2' : (a.n3 : Int) ≤ 30 := by omega
  by_cases h3 : a.n2 ≤ 150
  rotate_left
  · have h3' : ¬ (a.n2 : Int) ≤ 150 := by omega
    go_enter Tryz.func4, Tryz.ntmps4
    go_wp2_with (fail)
    go_ret
    exact only_no hB.out
  have h3' : (a.n2 : Int) ≤ 150 := by omega
  by_cases h4 : a.n4 ≤ 150
  rotate_left
  · have h4' : ¬ (a.n4 : Int) ≤ 150 := by omega
    go_enter Tryz.func4, Tryz.ntmps4
    go_wp2_with (fail)
    go_ret
    exact only_no hB.out
  have h4' : (a.n4 : Int) ≤ 150 := by omega
  go_enter Tryz.func4, Tryz.ntmps4
  go_wp2_with (fail)
  go_ret
  exact only_yes hB.out ⟨h1, h2, h3, h4⟩

set_option maxRecDepth 100000 in
set_option maxHeartbeats 2000000 in
theorem short_c (A : Option Addr) (n c : Nat) (l : List ByteArray) (w : World) (h1 : Reads w w.heap.size 1 A n (sv l)) (hn : n ≤ maxLen) (hz : ∀ s ∈ l, s.size ≤ maxLen) :
    Calls Tryz.prog 5 #[.slice A n c] w fun e w' => OnlyIf w w' (∀ s ∈ l, s.size ≤ 60) e := by
  have l1 := h1.str_len
  have HZ := Lib.hid hz
  clear hz
  unfold maxLen at hn
  go_enter Tryz.func5, Tryz.ntmps5
  go_wp2_with (fail)
  go_loopw [3] (fun i wr => ∃ k : Nat, k ≤ n ∧ i = .int .i64 k ∧ Hid (∀ d ∈ l.take k, d.size ≤ 60) ∧ wr = w) (fun i _ => n - (intOf i).toNat)
  case atStart => exact ⟨0, Nat.zero_le _, rfl, fun c hc => by simp at hc, rfl⟩
  case round =>
    obtain ⟨k, hk, rfl, hl, rfl⟩ := hrel
    by_cases hlt : k < n
    · obtain ⟨a1, o1, x, rfl, hx, hc1⟩ := h1.str_at hlt
      clear h1
      have L1 := Lib.hid l1
      clear l1
      have hxz := HZ.out x (List.mem_of_getElem? hx.out)
      unfold maxLen at hxz
      have f1 : (0 : Int) ≤ (k : Int) := by omega
      have f2 : (k : Int) < (n : Int) := by omega
      by_cases hm : x.size ≤ 60
      · have H := Lib.hid (all_more (p := fun d : ByteArray => d.size ≤ 60) hl.out hx.out hm)
        have f3 : ¬ (60 : Int) < (x.size : Int) := by omega
        go_wp2_with (fail)
        go_roundw
        case rel => exact ⟨k + 1, by omega, by go_num, H.out, trivial⟩
        case measure => simp [intOf]; omega
      · have f3 : (60 : Int) < (x.size : Int) := by omega
        go_wp2_with (fail)
        go_ret
        exact only_no (Below.refl _ _)
    · obtain rfl : k = n := by omega
      have H : Hid (∀ d ∈ l, d.size ≤ 60) := all_full hl.out (by omega)
      clear l1
      go_wp2_with (fail)
      go_ret
      exact only_yes (Below.refl _ _) H.out
end Go.Proofs.YtpdnipabaimofaaGreat
