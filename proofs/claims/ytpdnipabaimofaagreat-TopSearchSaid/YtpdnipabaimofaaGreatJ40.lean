/-
  rows.Make at the graph of one edge: the walk.
  The walk of Ints.
-/
import Derived.Test.YtpdnipabaimofaaGreatJ39
import Derived.Test.YtpdnipabaimofaaGreatJ09
import Derived.Test.YtpdnipabaimofaaGreatProg
import Derived.Test.YtpdnipabaimofaaGreatJ01
import Derived.Handy
import Derived.BigQuiet
import Derived.WalkLawsBesides
import Derived.WalkSpells
namespace Go.Proofs.YtpdnipabaimofaaGreat
open Go.RowKit

def rw01 : Rws := ⟨[0, 1, 1], [1], [0, 0, 1], [0]⟩
theorem rw01_ok : chkR rw01 := by decide
/-- A box of rows. -/
def RxAt (w : World) (b : Nat) (v1 v2 v3 v4 : Value) : Prop := w.heap[b]? = some (.cells #[v1, v2, v3, v4] 27 (0, 0))
section
variable {w w' : World} {b : Nat} {v1 v2 v3 v4 : Value}
theorem RxAt.cells (h : RxAt w b v1 v2 v3 v4) : w.cell? ⟨b, 0, none⟩ = some v1 ∧ w.cell? ⟨b, 1, none⟩ = some v2 ∧ w.cell? ⟨b, 2, none⟩ = some v3 ∧ w.cell? ⟨b, 3, none⟩ = some v4 := by
  unfold RxAt at h
  refine ⟨?_, ?_, ?_, ?_⟩ <;> · rw [Lib.cell_of_heap h]; rfl
theorem RxAt.frozen (h : RxAt w b v1 v2 v3 v4) (k : Nat) : w.frozen? ⟨b, k, none⟩ = false := Lib.frozen_of_heap h k
theorem RxAt.lt (h : RxAt w b v1 v2 v3 v4) : b < w.heap.size := (Array.getElem?_eq_some_iff.1 h).1
theorem RxAt.below (h : RxAt w b v1 v2 v3 v4) (hB : Below w.heap.size w w') : RxAt w' b v1 v2 v3 v4 := (hB.block b h.lt).trans h
theorem RxAt.grown {g : Nat} (h : RxAt w b v1 v2 v3 v4) (hg : w.grownBy w' (some g)) (hne : b ≠ g) : RxAt w' b v1 v2 v3 v4 := (hg.block b h.lt (fun e => hne (by injection e))).trans h
theorem RxAt.set01 (h : RxAt w b v1 v2 v3 v4) (x y : Value) : RxAt ((w.setCell ⟨b, 0, none⟩ x).setCell ⟨b, 1, none⟩ y) b x y v3 v4 := by
  have h1 := heap_setCell_same w b 0 _ _ x h
  have h2 := heap_setCell_same _ b 1 _ _ y h1
  unfold RxAt; simpa using h2
theorem RxAt.set23 (h : RxAt w b v1 v2 v3 v4) (x y : Value) : RxAt ((w.setCell ⟨b, 2, none⟩ x).setCell ⟨b, 3, none⟩ y) b v1 v2 x y := by
  have h1 := heap_setCell_same w b 2 _ _ x h
  have h2 := heap_setCell_same _ b 3 _ _ y h1
  unfold RxAt; simpa using h2
theorem RxAt.set4 (h : RxAt w b v1 v2 v3 v4) (x y z u : Value) : RxAt ((((w.setCell ⟨b, 0, none⟩ x).setCell ⟨b, 1, none⟩ y).setCell ⟨b, 2, none⟩ z).setCell ⟨b, 3, none⟩ u) b x y z u := by
  have h1 := (h.set01 x y).set23 z u
  exact h1
theorem RxAt.rowT (h : RxAt w b v1 v2 v3 v4) : RowT w (some b) 27 := rowT_box h
end

set_option maxRecDepth 100000 in
set_option maxHeartbeats 4000000 in
theorem make_c (A1 A2 : Option Addr) (c1 c2 : Nat) (vs : List Value) (w : World) (h : GrIn w w.heap.size gr01 A1 1 A2 2 vs) :
    Calls Tryz.prog 9 #[.agg #[.int .i64 2, .slice A1 1 c1, .slice A2 2 c2]] w fun e w' => ∃ a : RwA, a.r = rw01 ∧ e = .returned (.tuple #[rwVal a, .int .i64 0]) ∧ RwIn w' w'.heap.size a ∧ Below w.heap.size w w' := by
  have hx := (boxed_new h c1 c2).step (below_oneG _ (.cells #[.slice none 0 0, .slice none 0 0, .slice none 0 0, .slice none 0 0] 27))
  have hz : RxAt ((w.alloc (.cells #[.int .i64 2, .slice A1 1 c1, .slice A2 2 c2] 52)).alloc (.cells #[.slice none 0 0, .slice none 0 0, .slice none 0 0, .slice none 0 0] 27)) (w.heap.size + 1) (.slice none 0 0) (.slice none 0 0) (.slice none 0 0) (.slice none 0 0) := by
    have := (w.alloc (.cells #[.int .i64 2, .slice A1 1 c1, .slice A2 2 c2] 52)).alloc_heap_new (.cells #[.slice none 0 0, .slice none 0 0, .slice none 0 0, .slice none 0 0] 27)
    rw [World.size_alloc] at this
    exact this
  have HX := Lib.hid hx
  have HZ := Lib.hid hz
  obtain ⟨q0, q1, q2⟩ := hx.box.cells
  clear hx hz h
  have q0 : _ = some (Value.int .i64 2) := q0
  go_enter Tryz.func9, Tryz.ntmps9
  go_wp2_with (fail)
  refine (is_c gr01 A1 A2 1 2 c1 c2 vs _ HX.out.in_ gr01_sized).mono ?_
  rintro e w1 ⟨rfl, hB1⟩
  rw [decide_eq_true gr01_is]
  have HX1 := Lib.hid (HX.out.step hB1)
  have HZ1 := Lib.hid (HZ.out.below hB1)
  clear hB1 HX HZ q0 q1 q2
  obtain ⟨q0, q1, q2⟩ := HX1.out.box.cells
  have q0 : _ = some (Value.int .i64 2) := q0
  go_wp2_with (fail)
  refine (turned_c A1 A2 c1 c2 vs _ HX1.out.in_).mono ?_
  rintro e w2 ⟨B1, e1, B2, k2, e2, rfl, hr2, hB2⟩
  have hb3 := below_two w2 (.cells #[.int .i64 2, .slice B1 1 e1, .slice B2 k2 e2] 52) (.cells #[.slice none 0 0, .slice none 0 0, .slice none 0 0, .slice none 0 0] 27)
  have HX3 := Lib.hid ((HX1.out.step hB2).step hb3)
  have HZ3 := Lib.hid ((HZ1.out.below hB2).below hb3)
  have HR3 := Lib.hid ((hr2.below hb3).more hb3.size)
  have ht3 := (GAt.new w2 2 B1 1 e1 B2 k2 e2).below (below_oneG _ (.cells #[.slice none 0 0, .slice none 0 0, .slice none 0 0, .slice none 0 0] 27)) (by simp)
  have hr3 : RxAt ((w2.alloc (.cells #[.int .i64 2, .slice B1 1 e1, .slice B2 k2 e2] 52)).alloc (.cells #[.slice none 0 0, .slice none 0 0, .slice none 0 0, .slice none 0 0] 27)) (w2.heap.size + 1) (.slice none 0 0) (.slice none 0 0) (.slice none 0 0) (.slice none 0 0) := by
    have := (w2.alloc (.cells #[.int .i64 2, .slice B1 1 e1, .slice B2 k2 e2] 52)).alloc_heap_new (.cells #[.slice none 0 0, .slice none 0 0, .slice none 0 0, .slice none 0 0] 27)
    rw [World.size_alloc] at this
    exact this
  have HT3 := Lib.hid ht3
  have HQ3 := Lib.hid hr3
  have hs2 : w.heap.size + 1 < w2.heap.size := Nat.lt_of_lt_of_le HZ1.out.lt hB2.size
  have hs0 : w.heap.size < w2.heap.size := by omega
  have hs0' : w.heap.size < w2.heap.size + 1 := by omega
  have hq2 := (HX1.out.step hB2).box.cells
  obtain ⟨p0, p1, p2⟩ := hq2
  have p0 : _ = some (Value.int .i64 2) := p0
  clear hr2 hB2 hb3 ht3 hr3 q0 q1 q2 HX1 HZ1
  go_wp2_with (fail)
  generalize hW3 : (w2.alloc (.cells #[.int .i64 2, .slice B1 1 e1, .slice B2 k2 e2] 52)).alloc (.cells #[.slice none 0 0, .slice none 0 0, .slice none 0 0, .slice none 0 0] 27) = w3 at *
  clear hW3 p0 p1 p2
  refine (laid_01 A1 c1 w3 HX3.out.in_.es).mono ?_
  rintro e w4 ⟨O1, d1, T1, d2, rfl, ho4, ht4, hB4⟩
  have hx4 := HX3.out.step hB4
  have hz4 := HZ3.out.below hB4
  have hq4 := HQ3.out.below hB4
  have hT4 := hq4.rowT
  have hg4 : w4.grownBy ((w4.setCell ⟨w2.heap.size + 1, 0, none⟩ (.slice O1 3 d1)).setCell ⟨w2.heap.size + 1, 1, none⟩ (.slice T1 1 d2)) (some (w2.heap.size + 1)) := only_setCellS (only_setCellS (only_refl w4 _) 0 _) 1 _
  have HO4 := Lib.hid (own_T (own_more (base := w.heap.size) ho4 (HX3.out.bel.size)) hg4 hT4 (by decide))
  have HT4 := Lib.hid (own_T (own_more (base := w.heap.size) ht4 (HX3.out.bel.size)) hg4 hT4 (by decide))
  have HQ4 := Lib.hid (hq4.set01 (.slice O1 3 d1) (.slice T1 1 d2))
  have HZ4 := Lib.hid (hz4.grown hg4 (by omega))
  have HX4 : Hid (GAt ((w4.setCell ⟨w2.heap.size + 1, 0, none⟩ (.slice O1 3 d1)).setCell ⟨w2.heap.size + 1, 1, none⟩ (.slice T1 1 d2)) w.heap.size 2 A1 1 c1 A2 2 c2) := GAt.grown hx4.box hg4 (by intro e; injection e with e; omega)
  have hgt4 := HT3.out.below hB4 HT3.out.lt
  have HG4 : Hid (GAt ((w4.setCell ⟨w2.heap.size + 1, 0, none⟩ (.slice O1 3 d1)).setCell ⟨w2.heap.size + 1, 1, none⟩ (.slice T1 1 d2)) w2.heap.size 2 B1 1 e1 B2 k2 e2) := GAt.grown hgt4 hg4 (by intro e; injection e with e; omega)
  have HB4 := Lib.hid (hx4.bel.grown hg4 hx4.bel.size (fun k hk => by injection hk with hk; omega))
  have hs5 : w2.heap.size + 1 < ((w4.setCell ⟨w2.heap.size + 1, 0, none⟩ (.slice O1 3 d1)).setCell ⟨w2.heap.size + 1, 1, none⟩ (.slice T1 1 d2)).heap.size := HQ4.out.lt
  have HR5 : Hid (Reads ((w4.setCell ⟨w2.heap.size + 1, 0, none⟩ (.slice O1 3 d1)).setCell ⟨w2.heap.size + 1, 1, none⟩ (.slice T1 1 d2)) ((w4.setCell ⟨w2.heap.size + 1, 0, none⟩ (.slice O1 3 d1)).setCell ⟨w2.heap.size + 1, 1, none⟩ (.slice T1 1 d2)).heap.size 2 B1 1 (ev [⟨1, 0⟩])) := by
    refine ((HR3.out.below hB4).grown_ hg4 hB4.size (fun _ x hx e => ?_)).more (Nat.le_trans hB4.size (by simp))
    obtain ⟨b, o, y, he, hy, e0, _⟩ := HR3.out.edge_at (k := 0) (by omega)
    rw [hx] at he
    injection he with he
    subst he
    injection e with e
    subst e
    obtain rfl : y = ⟨1, 0⟩ := by have := hy.out; simp at this; exact this.symm
    have h0 := HQ3.out
    unfold RxAt at h0
    rw [Lib.cell_of_heap h0] at e0
    rcases o with _ | _ | _ | _ | o <;> simp at e0
  obtain ⟨p0, p1, p2⟩ := hx4.box.cells
  have p0 : _ = some (Value.int .i64 2) := p0
  obtain ⟨s0, s1, s2⟩ := hgt4.cells
  obtain ⟨t0, t1, t2, t3⟩ := hq4.cells
  have ft0 := hq4.frozen 0
  have ft1 := hq4.frozen 1
  have hne1 : w.heap.size ≠ w2.heap.size + 1 := by omega
  clear ho4 ht4 hB4 hx4 hz4 hq4 hT4 hg4 hgt4 HX3 HZ3 HR3 HT3 HQ3 hs0 hs0'
  go_wp2_with (fail)
  generalize (w4.setCell ⟨w2.heap.size + 1, 0, none⟩ (.slice O1 3 d1)).setCell ⟨w2.heap.size + 1, 1, none⟩ (.slice T1 1 d2) = w5 at *
  clear p0 p1 p2 s0 s1 s2 t0 t1 t2 t3 ft0 ft1
  refine (laid_10 B1 e1 w5 HR5.out).mono ?_
  rintro e w6 ⟨O2, d3, T2, d4, rfl, ho6, ht6, hB6⟩
  have hq6 := HQ4.out.below hB6
  have hz6 := HZ4.out.below hB6
  have hO6 := own_below HO4.out hB6
  have hT6 := own_below HT4.out hB6
  have ho6 := own_more (base := w.heap.size) ho6 HB4.out.size
  have ht6 := own_more (base := w.heap.size) ht6 HB4.out.size
  have hb6 := HB4.out.trans (hB6.mono HB4.out.size)
  have hg7 : w6.grownBy ((w6.setCell ⟨w2.heap.size + 1, 2, none⟩ (.slice O2 3 d3)).setCell ⟨w2.heap.size + 1, 3, none⟩ (.slice T2 1 d4)) (some (w2.heap.size + 1)) := only_setCellS (only_setCellS (only_refl w6 _) 2 _) 3 _
  have hq7 := hq6.set23 (.slice O2 3 d3) (.slice T2 1 d4)
  have hz7 := hz6.grown hg7 (by omega)
  have hr6 := hq6.rowT
  have HOa := Lib.hid (own_T hO6 hg7 hr6 (by decide))
  have HTa := Lib.hid (own_T hT6 hg7 hr6 (by decide))
  have HOb := Lib.hid (own_T ho6 hg7 hr6 (by decide))
  have HTb := Lib.hid (own_T ht6 hg7 hr6 (by decide))
  have HB7 := Lib.hid (hb6.grown hg7 hb6.size (fun k hk => by injection hk with hk; omega))
  have HQ7 := Lib.hid hq7
  have HZ7 := Lib.hid hz7
  obtain ⟨t0, t1, t2, t3⟩ := hq6.cells
  have ft2 := hq6.frozen 2
  have ft3 := hq6.frozen 3
  obtain ⟨z0, z1, z2, z3⟩ := hz6.cells
  have fz0 := hz6.frozen 0
  have fz1 := hz6.frozen 1
  have fz2 := hz6.frozen 2
  have fz3 := hz6.frozen 3
  have hne2 : w.heap.size + 1 ≠ w2.heap.size + 1 := by omega
  have hne3 : w2.heap.size ≠ w.heap.size := by omega
  clear hq6 hz6 hO6 hT6 ho6 ht6 hb6 hg7 hq7 hz7 hr6 hB6 HQ4 HZ4 HO4 HT4 HB4 HX4 HG4 HR5
  go_wp2_with (fail)
  generalize (w6.setCell ⟨w2.heap.size + 1, 2, none⟩ (.slice O2 3 d3)).setCell ⟨w2.heap.size + 1, 3, none⟩ (.slice T2 1 d4) = w7 at *
  have hg8 : w7.grownBy ((((w7.setCell ⟨w.heap.size + 1, 0, none⟩ (.slice O1 3 d1)).setCell ⟨w.heap.size + 1, 1, none⟩ (.slice T1 1 d2)).setCell ⟨w.heap.size + 1, 2, none⟩ (.slice O2 3 d3)).setCell ⟨w.heap.size + 1, 3, none⟩ (.slice T2 1 d4)) (some (w.heap.size + 1)) := only_setCellS (only_setCellS (only_setCellS (only_setCellS (only_refl w7 _) 0 _) 1 _) 2 _) 3 _
  have hr8 := HZ7.out.rowT
  obtain ⟨y0, y1, y2, y3⟩ := (HZ7.out.set4 (.slice O1 3 d1) (.slice T1 1 d2) (.slice O2 3 d3) (.slice T2 1 d4)).cells
  refine bodyPost_ret (v := .tuple #[.agg #[.slice O1 3 d1, .slice T1 1 d2, .slice O2 3 d3, .slice T2 1 d4], .int .i64 0]) ?_ rfl ⟨⟨rw01, O1, 3, d1, T1, 1, d2, O2, 3, d3, T2, 1, d4⟩, rfl, rfl, ?_, HB7.out.grown hg8 HB7.out.size (fun k hk => by injection hk with hk; omega)⟩
  · simp [results, Tryz.results9, y0, y1, y2, y3, go_sem]
  · have k1 := own_T HOa.out hg8 hr8 (by decide)
    have k2 := own_T HTa.out hg8 hr8 (by decide)
    have k3 := own_T HOb.out hg8 hr8 (by decide)
    have k4 := own_T HTb.out hg8 hr8 (by decide)
    exact ⟨own_reads k1, own_reads k2, own_reads k3, own_reads k4, (show 3 ≤ maxLen by decide), (show 1 ≤ maxLen by decide), (show 3 ≤ maxLen by decide), (show 1 ≤ maxLen by decide), (own_cap k2).1, (own_cap k4).1⟩
end Go.Proofs.YtpdnipabaimofaaGreat

namespace Go.Proofs.YtpdnipabaimofaaGreat
open Go.RowKit

end Go.Proofs.YtpdnipabaimofaaGreat
