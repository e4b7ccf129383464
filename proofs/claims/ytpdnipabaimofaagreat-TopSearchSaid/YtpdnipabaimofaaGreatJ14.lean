/-
  The pile's Pop: the walk.
  container/heap's Push and Pop, the queue's Put: the walks.
  The pile's last, the queue's Len and Put: the walks.
  The queue's Len and Put: the walks.
-/
import Derived.Test.YtpdnipabaimofaaGreatJ11
import Derived.Test.YtpdnipabaimofaaGreatJ13
import Derived.RangeFuncBox
import Derived.RangeFuncIn
import Derived.Deep.QuietTactic
import Derived.StillTailTactics
namespace Go.Proofs.YtpdnipabaimofaaGreat
open Go Go.RowKit

section
variable {b c : Nat} {k : Int} {A : Option Addr} {q : List Hit} {W W' : World}
/-- One hit less. -/
theorem PileAt.pop {m : Nat} (h : PileAt b k A c q W) (hq : q.length = m + 1) (hA : A ≠ none) : PileAt b k A c (q.take m) (W.setCell ⟨b, 0, none⟩ (.slice A m c)) := by
  have hl : (q.take m).length = m := by rw [List.length_take]; omega
  have ho : W.ownsRow (b + 1) 215 2 (.slice A (q.take m).length c) (q.take m).length (hitsV (q.take m)) := by
    rw [hl]
    have h1 := own_shorter (k := m) h.own (by omega) hA
    rw [show (hitsV q).take (m * 2) = hitsV (q.take m) from flat_take hitC 2 hitC_len q m] at h1
    exact h1
  have := h.set ho
  rw [hl] at this
  exact this
set_option maxRecDepth 100000 in
set_option maxHeartbeats 4000000 in
theorem pilePop_c (h : PileAt b k A c q W) (m : Nat) (hq : q.length = m + 1) : Calls Tryz.prog 225 #[.pointer (some ⟨b, 0, none⟩)] W fun e w' => e = .returned (.iface 215 (.agg #[.int .i64 (nthH q m).v, .int .i64 (nthH q m).d])) ∧ PileAt b k A c (q.take m) w' ∧ Touch b A A W w' := by
  obtain ⟨g, rfl, hg1, hg2⟩ := h.addr (by omega)
  have c0 := h.cells.1
  obtain ⟨i0, i1⟩ := own_hit_at h.own (k := m) (by omega)
  generalize hx : nthH q m = x at *
  have hcap : q.length ≤ c := (own_cap h.own).1
  have hB := (Below.refl W.heap.size W).alloc (Nat.le_refl _) (hitBox x)
  have hBz := (Below.refl W.heap.size W).alloc (Nat.le_refl _) (hitBox ⟨0, 0⟩)
  have HP := Lib.hid (h.below hB)
  have HB := Lib.hid hB
  have d0 : (W.alloc (hitBox x)).cell? ⟨b, 0, none⟩ = _ := (hB.cell (p := ⟨b, 0, none⟩) h.lt).trans c0
  have e0 : (W.alloc (hitBox ⟨0, 0⟩)).cell? ⟨b, 0, none⟩ = _ := (hBz.cell (p := ⟨b, 0, none⟩) h.lt).trans c0
  have e1 : (W.alloc (hitBox ⟨0, 0⟩)).cell? ⟨g, m * 2, none⟩ = _ := (hBz.cell (p := ⟨g, m * 2, none⟩) hg2).trans i0
  have e2 : (W.alloc (hitBox ⟨0, 0⟩)).cell? ⟨g, m * 2 + 1, none⟩ = _ := (hBz.cell (p := ⟨g, m * 2 + 1, none⟩) hg2).trans i1
  have fz : (W.alloc (hitBox x)).frozen? ⟨b, 0, none⟩ = false := HP.out.frozen 0
  have HM := Lib.hid hq
  have hne : b ≠ W.heap.size := Nat.ne_of_lt (Nat.lt_trans hg1 hg2)
  have n0 : ((W.alloc (hitBox x)).setCell ⟨b, 0, none⟩ (.slice (some ⟨g, 0, none⟩) m c)).cell? ⟨W.heap.size, 0, none⟩ = some (.int .i64 x.v) := by
    rw [Lib.cell_of_heap ((Below.heap_setCell (W.alloc (hitBox x)) (⟨b, 0, none⟩ : Addr) (.slice (some ⟨g, 0, none⟩) m c) W.heap.size (fun e => hne e.symm)).trans (World.alloc_heap_new W (hitBox x)))]; rfl
  have n1 : ((W.alloc (hitBox x)).setCell ⟨b, 0, none⟩ (.slice (some ⟨g, 0, none⟩) m c)).cell? ⟨W.heap.size, 1, none⟩ = some (.int .i64 x.d) := by
    rw [Lib.cell_of_heap ((Below.heap_setCell (W.alloc (hitBox x)) (⟨b, 0, none⟩ : Addr) (.slice (some ⟨g, 0, none⟩) m c) W.heap.size (fun e => hne e.symm)).trans (World.alloc_heap_new W (hitBox x)))]; rfl
  unfold hitBox at d0 e0 e1 e2 fz n0 n1
  rw [hq] at c0 d0 e0 hcap
  have hm : m ≤ 9223372036854775806 := by have := own_cap h.own; unfold maxLen at this; omega
  have f0 : (0 : Int) ≤ (m : Int) := by omega
  have f1 : (m : Int) < (m : Int) + 1 := by omega
  have f2 : IntKind.i64.wrap (m : Int) = m := IntWalk.i64_in _ (by omega)
  have f4 : wrap64 (m : Int) = m := IntWalk.wrap64_in _ (by omega)
  have f5 : m ≤ c := by omega
  clear h hx hB hBz hg1 hq
  go_enter Tryz.func225, Tryz.ntmps225
  go_wp2_with (fail)
  go_region
  go_wp2_with (fail)
  go_region
  go_wp2_with (fail)
  go_ret
  exact ⟨rfl, (HP.out.pop HM.out (by simp)).drew.drew, ((Touch.of_below HB.out).trans (Touch.box _ _)).trans (Touch.of_below (Below.refl _ _).drew.drew)⟩
end
end Go.Proofs.YtpdnipabaimofaaGreat

namespace Go.Proofs.YtpdnipabaimofaaGreat
open Go.RowKit

section
variable {b c : Nat} {k : Int} {A : Option Addr} {q : List Hit} {W : World}
set_option maxRecDepth 100000 in
set_option maxHeartbeats 4000000 in
theorem heapPush_c (x : Hit) (h : PileAt b k A c q W) (hq : q.length ≤ 1000000) (hh : heapN q q.length) : Calls Tryz.prog 143 #[.iface 214 (.pointer (some ⟨b, 0, none⟩)), .iface 215 (.agg #[.int .i64 x.v, .int .i64 x.d])] W fun e w' => e = .returned (.tuple #[]) ∧ ∃ (A' : Option Addr) (c' : Nat) (q' : List Hit), Hid ((∀ y, y ∈ q' ↔ y ∈ q ∨ y = x) ∧ heapN q' q'.length ∧ q'.length = q.length + 1) ∧ PileAt b k A' c' q' w' ∧ Touch b A A' W w' := by
  have HP := Lib.hid h
  have HH := Lib.hid hh
  clear h hh
  go_enter Tryz.func143, Tryz.ntmps143
  go_wp2_with (fail)
  refine (pilePush_c x HP.out hq).mono ?_
  rintro e w1 ⟨rfl, A1, c1, hp1, ht1⟩
  have HP1 := Lib.hid hp1
  have HT1 := Lib.hid ht1
  have hl : (q ++ [x]).length = q.length + 1 := by simp
  clear hp1 ht1
  go_wp2_with (fail)
  refine (pileLen_c _ HP1.out).mono ?_
  rintro e w2 ⟨rfl, rfl⟩
  rw [hl]
  have e1 : IntKind.i64.wrap ((q.length : Int)) = (q.length : Int) := IntWalk.i64_in _ (by omega)
  have e2 : wrap64 ((q.length : Int)) = (q.length : Int) := IntWalk.wrap64_in _ (by omega)
  go_wp2_with (fail)
  refine (up_c q.length HP1.out (by omega) (by omega) (by rw [hl]; exact up_start HH.out)).mono ?_
  rintro e w3 ⟨rfl, q3, hs3, hp3, ht3⟩
  have HP3 := Lib.hid hp3
  have HT3 := Lib.hid (HT1.out.trans ht3)
  clear hp3 ht3
  go_wp2_with (fail)
  go_end0
  exact ⟨rfl, A1, c1, q3, ⟨fun y => by rw [hs3.out.1.mem]; simp, hs3.out.2, by rw [hs3.out.1.len, hl]⟩, HP3.out, HT3.out⟩

theorem nthH_take {l : List Hit} {n i : Nat} (h : i < n) : nthH (l.take n) i = nthH l i := by
  unfold nthH
  rw [List.getD_eq_getElem?_getD, List.getD_eq_getElem?_getD, List.getElem?_take, if_pos h]
set_option maxRecDepth 100000 in
set_option maxHeartbeats 4000000 in
theorem heapPop_c (m : Nat) (h : PileAt b k A c q W) (hm : q.length = m + 1) (hq : q.length ≤ 1000001) (hh : heapN q q.length) : Calls Tryz.prog 179 #[.iface 214 (.pointer (some ⟨b, 0, none⟩))] W fun e w' => e = .returned (.iface 215 (.agg #[.int .i64 (nthH q 0).v, .int .i64 (nthH q 0).d])) ∧ ∃ q' : List Hit, Hid ((∀ y, y ∈ q ↔ y ∈ q' ∨ y = nthH q 0) ∧ heapN q' q'.length ∧ q'.length = m) ∧ PileAt b k A c q' w' ∧ Touch b A A W w' := by
  have HP := Lib.hid h
  have HH := Lib.hid hh
  have HM := Lib.hid hm
  have hm1 : m ≤ 1000000 := by omega
  clear h hh hm
  go_enter Tryz.func179, Tryz.ntmps179
  go_wp2_with (fail)
  refine (pileLen_c _ HP.out).mono ?_
  rintro e w2 ⟨rfl, rfl⟩
  rw [HM.out]
  have e1 : IntKind.i64.wrap ((m : Int)) = (m : Int) := IntWalk.i64_in _ (by omega)
  have e2 : wrap64 ((m : Int)) = (m : Int) := IntWalk.wrap64_in _ (by omega)
  go_wp2_with (fail)
  refine (pileSwap_c 0 m HP.out (by have := HM.out; omega) (by have := HM.out; omega)).mono ?_
  rintro e w1 ⟨rfl, hp1, ht1⟩
  have HP1 := Lib.hid hp1
  have HT1 := Lib.hid ht1
  clear hp1 ht1 HP
  go_wp2_with (fail)
  refine (down_c m HP1.out (by rw [swapL_len]; exact hq) (by rw [swapL_len]; have := HM.out; omega) (down_start (by rw [← HM.out]; exact HH.out) (by have := HM.out; omega))).mono ?_
  rintro e w3 ⟨⟨v, rfl⟩, q3, hs3, hp3, ht3⟩
  have HP3 := Lib.hid hp3
  have HT3 := Lib.hid (HT1.out.trans ht3)
  have hl3 : Hid (q3.length = m + 1) := by show _ = _; rw [hs3.out.1.len, swapL_len]; exact HM.out
  clear hp3 ht3 HP1 HT1
  go_wp2_with (fail)
  refine (pilePop_c HP3.out m hl3.out).mono ?_
  rintro e w4 ⟨rfl, hp4, ht4⟩
  have HP4 := Lib.hid hp4
  have HT4 := Lib.hid (HT3.out.trans ht4)
  clear hp4 ht4 HP3 HT3
  have hx : Hid (nthH q3 m = nthH q 0) := by
    show _ = _
    rw [hs3.out.2.2 m (Nat.le_refl _), nthH_swap (by have := HM.out; omega) (by have := HM.out; omega), if_pos rfl]
  rw [hx.out]
  have hlt : Hid ((q3.take m).length = m) := by show _ = _; rw [List.length_take]; have := hl3.out; omega
  go_wp2_with (fail)
  go_ret
  refine ⟨rfl, q3.take m, ⟨fun y => ?_, ?_, hlt.out⟩, HP4.out, HT4.out⟩
  · have h1 : y ∈ q ↔ y ∈ q3 := ((hs3.out.1.mem y).trans (mem_swap (by have := HM.out; omega) (by have := HM.out; omega) y)).symm
    rw [h1]
    have h2 : q3 = q3.take m ++ [nthH q3 m] := by
      have h3 := List.take_add_one (l := q3) (i := m)
      rw [nthH_some (by have := hl3.out; omega), List.take_of_length_le (by rw [hl3.out]; exact Nat.le_refl _)] at h3
      exact h3
    rw [← hx.out]
    constructor
    · intro hy
      rw [h2] at hy
      simpa using hy
    · intro hy
      rw [h2]
      simpa using hy
  · rw [hlt.out]
    intro i h0 hi
    rw [nthH_take hi, nthH_take (by unfold par; omega)]
    exact hs3.out.2.1 i h0 hi
end
end Go.Proofs.YtpdnipabaimofaaGreat

namespace Go.Proofs.YtpdnipabaimofaaGreat
open Go.RowKit

def ahitBox (a : Hit) : Obj := .cells #[.int .i64 a.v, .int .i64 a.d] 43
section
variable {b c r : Nat} {k : Int} {A A' : Option Addr} {q : List Hit} {W W' W'' : World}
theorem PileAt.apart (h : PileAt b k A c q W) (hg : W.grownBy W' (some r)) (hb : r ≠ b) (hA : ∀ x, A = some x → x.block ≠ r) : PileAt b k A c q W' :=
  ⟨(hg.block b h.lt (fun e => by injection e with e; exact hb e.symm)).trans h.box, own_only h.own hg (fun a ha e => by injection e with e; exact hA a ha e)⟩
theorem Touch.late (t : Touch b A A' W W') (hg : W'.grownBy W'' (some r)) (hr : W.heap.size ≤ r) : Touch b A A' W W'' :=
  ⟨hg.os.trans t.os, hg.tape.trans t.tape, hg.output.trans t.output, Nat.le_trans t.size hg.size, fun j hj hb hA => (hg.block j (Nat.lt_of_lt_of_le hj t.size) (fun e => by injection e; omega)).trans (t.block j hj hb hA), t.at_⟩
/-- Two cells of a box that the call made. -/
theorem PileAt.put2 (h : PileAt b k A c q W) (u v : Value) (hb : r ≠ b) (hA : ∀ x, A = some x → x.block ≠ r) : PileAt b k A c q ((W.setCell ⟨r, 0, none⟩ u).setCell ⟨r, 1, none⟩ v) :=
  h.apart (only_setCell (only_setCell (only_refl W (some r)) (p := ⟨r, 0, none⟩) (.inl rfl) u) (p := ⟨r, 1, none⟩) (.inl rfl) v) hb hA
theorem Touch.put2 (t : Touch b A A' W W') (u v : Value) (hr : W.heap.size ≤ r) : Touch b A A' W ((W'.setCell ⟨r, 0, none⟩ u).setCell ⟨r, 1, none⟩ v) :=
  t.late (only_setCell (only_setCell (only_refl W' (some r)) (p := ⟨r, 0, none⟩) (.inl rfl) u) (p := ⟨r, 1, none⟩) (.inl rfl) v) hr
theorem last_end {fn : Func} {a : Act} {w : World} {R : Ending → World → Prop} {o : Nat} {x : Hit} (hr : fn.results = #[.cell 2 43]) (ht : a.tmps.getD 2 undef = .pointer (some ⟨o, 0, none⟩)) (hd : a.defers = [])
    (h0 : w.cell? ⟨o, 0, none⟩ = some (.int .i64 x.v)) (h1 : w.cell? ⟨o, 1, none⟩ = some (.int .i64 x.d)) (h : R (.returned (.agg #[.int .i64 x.v, .int .i64 x.d])) w) : bodyPost Tryz.prog fn R Exit.ret a w := by
  refine bodyPost_ret (v := .agg #[.int .i64 x.v, .int .i64 x.d]) ?_ hd h
  rw [Array.getD_eq_getD_getElem?] at ht
  simp [results, hr, ht, h0, h1, go_sem]
set_option maxRecDepth 100000 in
set_option maxHeartbeats 4000000 in
theorem last_c (m : Nat) (h : PileAt b k A c q W) (hm : q.length = m + 1) (hq : q.length ≤ 1000001) (hh : heapN q q.length) : Calls Tryz.prog 145 #[.pointer (some ⟨b, 0, none⟩)] W fun e w' => e = .returned (.agg #[.int .i64 (nthH q 0).v, .int .i64 (nthH q 0).d]) ∧ ∃ q' : List Hit, Hid ((∀ y, y ∈ q ↔ y ∈ q' ∨ y = nthH q 0) ∧ heapN q' q'.length ∧ q'.length = m) ∧ PileAt b k A c q' w' ∧ Touch b A A W w' := by
  have hB := (Below.refl W.heap.size W).alloc (Nat.le_refl _) (ahitBox ⟨0, 0⟩)
  have HP := Lib.hid (h.below hB)
  have HB := Lib.hid hB
  have HH := Lib.hid hh
  have HM := Lib.hid hm
  have hbl : b < W.heap.size := h.lt
  have hAl : Hid (∀ x, A = some x → x.block < W.heap.size) := fun x hx => (own_lt h.own x hx).2
  have HN : Hid ((W.alloc (ahitBox ⟨0, 0⟩)).heap[W.heap.size]? = some (ahitBox ⟨0, 0⟩)) := World.alloc_heap_new W _
  have hta := isHit
  have HPOP := Lib.hid (heapPop_c m HP.out HM.out hq HH.out)
  generalize nthH q 0 = x at *
  clear h hB hh hm
  go_enter Tryz.func145, Tryz.ntmps145
  go_wp2_with (fail)
  refine HPOP.out.mono ?_
  rintro e w2 ⟨rfl, q2, hs2, hp2, ht2⟩
  have hn2 : w2.heap[W.heap.size]? = some (ahitBox ⟨0, 0⟩) := (ht2.block W.heap.size (by simp) (by omega) (fun x hx e => by have := hAl.out x hx; omega)).trans HN.out
  have hlt2 : W.heap.size < w2.heap.size := (Array.getElem?_eq_some_iff.1 hn2).1
  have z0 : w2.cell? ⟨W.heap.size, 0, none⟩ = some (.int .i64 0) := by rw [Lib.cell_of_heap hn2]; rfl
  have z1 : w2.cell? ⟨W.heap.size, 1, none⟩ = some (.int .i64 0) := by rw [Lib.cell_of_heap hn2]; rfl
  have y0 := Lib.frozen_of_heap hn2 0
  have y1 := Lib.frozen_of_heap hn2 1
  have HP3 := Lib.hid (hp2.put2 (r := W.heap.size) (.int .i64 x.v) (.int .i64 x.d) (by omega) (fun x hx => by have := hAl.out x hx; omega))
  have HT3 := Lib.hid (((Touch.of_below (b := b) (A := A) HB.out).trans ht2).put2 (r := W.heap.size) (.int .i64 x.v) (.int .i64 x.d) (Nat.le_refl _))
  clear hp2 ht2 HP hn2 HPOP
  go_wp2_with (fail)
  refine last_end rfl rfl rfl (by go_cell) (by go_cell) ⟨rfl, q2, hs2, HP3.out.below (below_one' _ _), HT3.out.trans (Touch.of_below (below_one' _ _))⟩
end
end Go.Proofs.YtpdnipabaimofaaGreat

namespace Go.Proofs.YtpdnipabaimofaaGreat
open Go.RowKit

section
variable {b c : Nat} {k : Int} {A : Option Addr} {q : List Hit} {W : World}
theorem PileAt.drewN (h : PileAt b k A c q W) (n : Nat) : PileAt b k A c q (W.drewN n) := ⟨h.box, h.own⟩
theorem qLen_c (W : World) (h : PileAt b k A c q W) : Calls Tryz.prog 144 #[.pointer (some ⟨b, 0, none⟩)] W fun e w' => e = .returned (.int .i64 (q.length : Int)) ∧ w' = W := by
  have HP := Lib.hid h
  clear h
  go_enter Tryz.func144, Tryz.ntmps144
  go_wp2_with (fail)
  refine (pileLen_c W HP.out).mono ?_
  rintro e w2 ⟨rfl, rfl⟩
  go_wp2_with (fail)
  go_ret
  exact ⟨rfl, rfl⟩
theorem put_end {fn : Func} {a : Act} {w : World} {R : Ending → World → Prop} {o : Nat} {x : Hit} {t : Bool} (hr : fn.results = #[.cell 4 43, .tmp 5]) (ht : a.tmps.getD 4 undef = .pointer (some ⟨o, 0, none⟩)) (ht5 : a.tmps.getD 5 undef = .bool t) (hd : a.defers = [])
    (h0 : w.cell? ⟨o, 0, none⟩ = some (.int .i64 x.v)) (h1 : w.cell? ⟨o, 1, none⟩ = some (.int .i64 x.d)) (h : R (.returned (.tuple #[.agg #[.int .i64 x.v, .int .i64 x.d], .bool t])) w) : bodyPost Tryz.prog fn R Exit.ret a w := by
  refine bodyPost_ret (v := .tuple #[.agg #[.int .i64 x.v, .int .i64 x.d], .bool t]) ?_ hd h
  rw [Array.getD_eq_getD_getElem?] at ht ht5
  simp [results, hr, ht, ht5, h0, h1, go_sem]
set_option maxRecDepth 100000 in
set_option maxHeartbeats 4000000 in
theorem qPut_c (n : Nat) (x : Hit) (seen : List Hit) (h : PileAt b (n : Int) A c q W) (hn : 1 ≤ n ∧ n ≤ 1000) (hi : QInv n seen q) : Calls Tryz.prog 123 #[.pointer (some ⟨b, 0, none⟩), .agg #[.int .i64 x.v, .int .i64 x.d]] W fun e w' => (∃ v, e = .returned v) ∧ ∃ (A' : Option Addr) (c' : Nat) (q' : List Hit), Hid (QInv n (seen ++ [x]) q') ∧ PileAt b (n : Int) A' c' q' w' ∧ Touch b A A' W w' := by
  have hB := below_2 W (ahitBox x) (ahitBox ⟨0, 0⟩)
  have HP := Lib.hid (h.below hB)
  have HB := Lib.hid hB
  have HI := Lib.hid hi
  have hbl : b < W.heap.size := h.lt
  have hAl : Hid (∀ x, A = some x → x.block < W.heap.size) := fun x hx => (own_lt h.own x hx).2
  have HN0 : ((W.alloc (ahitBox x)).alloc (ahitBox ⟨0, 0⟩)).heap[W.heap.size]? = some (ahitBox x) := (Below.heap_alloc _ _ _ (by simp)).trans (World.alloc_heap_new W _)
  have HN1 : ((W.alloc (ahitBox x)).alloc (ahitBox ⟨0, 0⟩)).heap[W.heap.size + 1]? = some (ahitBox ⟨0, 0⟩) := by
    have := World.alloc_heap_new (W.alloc (ahitBox x)) (ahitBox ⟨0, 0⟩)
    rw [World.size_alloc] at this
    exact this
  have x0 : ((W.alloc (ahitBox x)).alloc (ahitBox ⟨0, 0⟩)).cell? ⟨W.heap.size, 0, none⟩ = some (.int .i64 x.v) := by rw [Lib.cell_of_heap HN0]; rfl
  have x1 : ((W.alloc (ahitBox x)).alloc (ahitBox ⟨0, 0⟩)).cell? ⟨W.heap.size, 1, none⟩ = some (.int .i64 x.d) := by rw [Lib.cell_of_heap HN0]; rfl
  have HN := Lib.hid HN1
  unfold ahitBox at x0 x1
  clear h hB hi HN0 HN1
  go_enter Tryz.func123, Tryz.ntmps123
  go_wp2_with (fail)
  generalize hw : (W.alloc (.cells #[.int .i64 x.v, .int .i64 x.d] 43)).alloc (.cells #[.int .i64 0, .int .i64 0] 43) = w1 at x0 x1 ⊢
  have HP1 : Hid (PileAt b (n : Int) A c q w1) := by show PileAt _ _ _ _ _ _; rw [← hw]; exact HP.out
  have HB1 : Hid (Below W.heap.size W w1) := by show Below _ _ _; rw [← hw]; exact HB.out
  have HN1 : Hid (w1.heap[W.heap.size + 1]? = some (ahitBox ⟨0, 0⟩)) := by show _ = _; rw [← hw]; exact HN.out
  clear HP HB HN hw
  go_still_tail 6, (by kernel_rfl)
  show wpList _ _ _ _ _ w1.drew
  go_wp2_with (fail)
  refine (heapPush_c x HP1.out.drew (by have := HI.out.most; omega) HI.out.heap).mono ?_
  rintro e w2 ⟨rfl, A2, c2, q2, hs2, hp2, ht2⟩
  have hn2 : w2.heap[W.heap.size + 1]? = some (ahitBox ⟨0, 0⟩) := (ht2.block (W.heap.size + 1) (Array.getElem?_eq_some_iff.1 HN1.out).1 (by omega) (fun x hx e => by have := hAl.out x hx; omega)).trans HN1.out
  have hA2 : Hid (∀ x, A2 = some x → x.block ≠ W.heap.size + 1) := fun x hx e => by
    rcases ht2.at_ x hx with ⟨y, hy, e2⟩ | h2
    · have := hAl.out y hy; omega
    · have := (Array.getElem?_eq_some_iff.1 HN1.out).1; have h2 : w1.heap.size ≤ x.block := h2; omega
  have HP2 := Lib.hid hp2
  have HT2 := Lib.hid (((Touch.of_below (b := b) (A := A) HB1.out).trans (Touch.of_below (Below.refl _ _).drew)).trans ht2)
  have HN2 := Lib.hid hn2
  clear hp2 ht2 HP1 hn2 x0 x1
  go_wp2_with (fail)
  have c1 := HP2.out.cells.2
  have hpq : ∀ m, PileAt b (n : Int) A2 c2 q2 (w2.drewN m) := fun m => ⟨HP2.out.box, HP2.out.own⟩
  have HPQ := Lib.hid hpq
  have z0 : w2.cell? ⟨W.heap.size + 1, 0, none⟩ = some (.int .i64 0) := by rw [Lib.cell_of_heap HN2.out]; rfl
  have z1 : w2.cell? ⟨W.heap.size + 1, 1, none⟩ = some (.int .i64 0) := by rw [Lib.cell_of_heap HN2.out]; rfl
  have y0 := Lib.frozen_of_heap HN2.out 0
  have y1 := Lib.frozen_of_heap HN2.out 1
  clear hpq
  by_cases hc : q2.length ≤ n
  · have g1 : (q2.length : Int) ≤ (n : Int) := by omega
    have HQI : Hid (QInv n (seen ++ [x]) q2) := put_more HI.out hs2.out.1 hs2.out.2.1 hc
    go_quiet (first | (go_at_call 144; refine Calls.quiet_of_same (qLen_c _ (HPQ.out _))))
    go_wp2_with (fail)
    refine put_end (x := ⟨0, 0⟩) (t := false) (o := W.heap.size + 1) rfl rfl rfl rfl (by go_cell) (by go_cell) ⟨⟨_, rfl⟩, A2, c2, q2, HQI.out, ?_, ?_⟩
    · first
        | exact (HP2.out.put2 _ _ (by omega) hA2.out).drewN nq
        | exact (HPQ.out nq).put2 _ _ (by omega) hA2.out
    · first
        | exact (HT2.out.put2 _ _ (by omega)).trans (Touch.of_below (below_drewN (Below.refl _ _) nq))
        | exact (HT2.out.trans (Touch.of_below (below_drewN (Below.refl _ w2) nq))).put2 _ _ (by omega)
  · have g1 : ¬ (q2.length : Int) ≤ (n : Int) := by omega
    have g2 : decide ((q2.length : Int) ≤ (n : Int)) = false := decide_eq_false g1
    have hl2 : q2.length = n + 1 := by have := hs2.out.2.2; have := HI.out.most; omega
    have HLC : Hid (∀ m, Calls Tryz.prog 145 #[.pointer (some ⟨b, 0, none⟩)] (w2.drewN m) fun e w' => e = .returned (.agg #[.int .i64 (nthH q2 0).v, .int .i64 (nthH q2 0).d]) ∧ ∃ q' : List Hit, Hid ((∀ y, y ∈ q2 ↔ y ∈ q' ∨ y = nthH q2 0) ∧ heapN q' q'.length ∧ q'.length = n) ∧ PileAt b (n : Int) A2 c2 q' w' ∧ Touch b A2 A2 (w2.drewN m) w') :=
      fun m => last_c n (HPQ.out m) hl2 (by omega) hs2.out.2.1
    have HL2 := Lib.hid hl2
    clear hl2
    go_quiet (first | (go_at_call 144; refine Calls.quiet_of_same (qLen_c _ (HPQ.out _))))
    go_wp2_with (fail)
    refine (HLC.out _).mono ?_
    rintro e w3 ⟨rfl, q3, hs3, hp3, ht3⟩
    have hn3 : w3.heap[W.heap.size + 1]? = some (ahitBox ⟨0, 0⟩) := (ht3.block (W.heap.size + 1) (Array.getElem?_eq_some_iff.1 HN2.out).1 (by omega) (fun x hx e => hA2.out x hx e.symm)).trans HN2.out
    have HP3 := Lib.hid hp3
    have HT3 := Lib.hid (HT2.out.trans ((Touch.of_below (below_drewN (Below.refl _ w2) _)).trans ht3))
    have HQI : Hid (QInv n (seen ++ [x]) q3) := put_drop HI.out hs2.out.1 hs2.out.2.1 hs3.out.1 hs3.out.2.1 (by have := hs3.out.2.2; omega) (fun e => by have := hs3.out.2.2; rw [e] at this; simp at this; omega)
    generalize nthH q2 0 = y at *
    clear z0 z1 y0 y1 hp3 ht3
    have z0 : w3.cell? ⟨W.heap.size + 1, 0, none⟩ = some (.int .i64 0) := by rw [Lib.cell_of_heap hn3]; rfl
    have z1 : w3.cell? ⟨W.heap.size + 1, 1, none⟩ = some (.int .i64 0) := by rw [Lib.cell_of_heap hn3]; rfl
    have y0 := Lib.frozen_of_heap hn3 0
    have y1 := Lib.frozen_of_heap hn3 1
    clear hn3
    go_wp2_with (fail)
    refine put_end (x := y) (t := true) (o := W.heap.size + 1) rfl rfl rfl rfl (by go_cell) (by go_cell) ⟨⟨_, rfl⟩, A2, c2, q3, HQI.out, ?_, ?_⟩
    · exact HP3.out.put2 _ _ (by omega) hA2.out
    · exact HT3.out.put2 _ _ (by omega)
end
end Go.Proofs.YtpdnipabaimofaaGreat
