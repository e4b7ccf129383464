/-
  rows.laid at the graphs of one edge: the walks. (Printed by genlaid.py.)
  graph.Turned and rows.Make at the graph of one edge: the walks.
  rows.Make at the graph of one edge: the walk.
  prog.Start: the walk.
-/
import Derived.Test.YtichoidkemeibaaGreatJ05
import Derived.Test.YtichoidkemeibaaGreatJ03
import Derived.Test.YtichoidkemeibaaGreatJ24
import Derived.Test.YtichoidkemeibaaGreatJ22
import Derived.Test.YtichoidkemeibaaGreatJ13
import Derived.Deep.RegionLaw
import Derived.LoopN
namespace Go.Proofs.YtichoidkemeibaaGreat
open Go.RowKit

theorem infoIntL : (Tryz.prog.info? 3).map (fun i => (i.zero, i.size, i.bytes)) = some (some (.int .i64 0), 1, 8) := by kernel_rfl

set_option maxRecDepth 100000 in
set_option maxHeartbeats 2000000 in
theorem laid_01 (A : Option Addr) (c : Nat) (w : World) (h : Reads w w.heap.size 2 A 1 (ev [⟨0, 1⟩])) :
    Calls Tryz.prog 79 #[.int .i64 2, .slice A 1 c] w fun e w' => ∃ A1 c1 A2 c2, e = .returned (.tuple #[.slice A1 3 c1, .slice A2 1 c2]) ∧ w'.ownsRow w.heap.size 3 1 (.slice A1 3 c1) 3 (iv [0, 1, 1]) ∧ w'.ownsRow w.heap.size 3 1 (.slice A2 1 c2) 1 (iv [1]) ∧ Below w.heap.size w w' := by
  have HR := Lib.hid h
  clear h
  obtain ⟨i0, hi0, hz0, hz1, hz2⟩ := info_parts infoIntL
  go_enter Tryz.func79, Tryz.ntmps79
  go_wp2_with (at_make; refine wpList_make_full _ rfl _ _ 25 rfl w.heap.size 3 i0 _ 1 Tryz.underlying25 hi0 hz0 hz1 _ _ _ _ 3 rfl rfl rfl rfl (by rw [hz2]; omega) (by unfold maxLen; omega) (Nat.le_refl _) ?_; intro w1 hown1 hg1)
  have hown : w1.ownsRow w.heap.size 3 1 (.slice (some ⟨w.heap.size, 0, none⟩) 3 3) 3 (iv [0, 0, 0]) := by
    have e : (madeCells (Value.int .i64 0).cells (3 * 1)).toList = iv [0, 0, 0] := by kernel_rfl
    rw [← e]; exact hown1
  have hB1 : Below w.heap.size w w1 := (Below.refl _ _).grown hg1 (Nat.le_refl _) (fun _ h => by cases h)
  clear hown1 hg1
  obtain ⟨b, o, x, rfl, hx, d0, d1⟩ := (HR.out.below hB1).edge_at (k := 0) (by omega)
  obtain rfl : x = ⟨0, 1⟩ := by have := hx.out; simp at this; exact this.symm
  simp only [Nat.zero_mul, Nat.add_zero] at d0 d1
  have hs1 : w.heap.size < w1.heap.size := (own_lt hown _ rfl).2
  obtain ⟨y, hy, cy⟩ := own_int_at hown (k := 1) (by omega)
  obtain rfl : y = 0 := by have := hy.out; simp at this; exact this.symm
  have fy := hown.frozenAt 1
  have hst := hown.stored 1 (.int .i64 1)
  have HST : Hid (((w1.setCell ⟨w.heap.size, 1, none⟩ (.int .i64 1)).alloc (.cells #[.int .i64 0, .int .i64 1] 73)).ownsRow w.heap.size 3 1 (.slice (some ⟨w.heap.size, 0, none⟩) 3 3) 3 (iv [0, 1, 0])) := World.ownsRow.alloc hst.1 (.cells #[.int .i64 0, .int .i64 1] 73)
  have hbs : Below w.heap.size w (w1.setCell ⟨w.heap.size, 1, none⟩ (.int .i64 1)) := hB1.grown hst.2 hB1.size (fun g hg => by injection hg with hg; omega)
  have HBS : Hid (Below w.heap.size w ((w1.setCell ⟨w.heap.size, 1, none⟩ (.int .i64 1)).alloc (.cells #[.int .i64 0, .int .i64 1] 73))) := hbs.trans ((below_one _ (.cells #[.int .i64 0, .int .i64 1] 73)).mono hbs.size)
  have hss : w.heap.size ≤ ((w1.setCell ⟨w.heap.size, 1, none⟩ (.int .i64 1)).alloc (.cells #[.int .i64 0, .int .i64 1] 73)).heap.size := HBS.out.size
  clear hown hB1 hx hy hst hbs
  refine wp_loop_rounds 2 ?_
  rw [rounds_succ]
  go_wp2_with (at_builtin; refine wpList_push elInt rfl _ _ rfl (own_nil (base := w.heap.size)) rfl _ rfl (by simp only [World.size_alloc, World.size_setCell]; rfl) (one_int _ 1) (by unfold maxLen; omega) (by omega) hss ?_; intro A4 c4 w4 ho4 p4)
  have ht4 : w4.ownsRow w.heap.size 3 1 (.slice A4 1 c4) 1 (iv [1]) := by simpa [iv] using ho4
  have HT4 := Lib.hid ht4
  have HO4 := Lib.hid (p4.keep HST.out Apart.none_right)
  have HB4 := Lib.hid (p4.below0 HBS.out hss)
  have hne : Apart (some ⟨w.heap.size, 0, none⟩) A4 := p4.apart HST.out Apart.none_right
  have HNE := Lib.hid hne
  clear ht4 ho4 p4 cy fy d0 d1 hs1 hss HST HBS hne
  rw [rounds_succ]
  go_wp2_with (fail)
  refine wp_loop_rounds 3 ?_
  have wr0 : IntKind.i64.wrap 0 = 0 := by decide
  have wr1 : IntKind.i64.wrap 1 = 1 := by decide
  have wr2 : IntKind.i64.wrap 2 = 2 := by decide
  obtain ⟨y0, hy0, cy0⟩ := own_int_at HO4.out (k := 0) (by omega)
  obtain rfl : y0 = 0 := by have := hy0.out; simp at this; exact this.symm
  obtain ⟨z0, hz0', cz0⟩ := own_int_at HO4.out (k := 1) (by omega)
  obtain rfl : z0 = 1 := by have := hz0'.out; simp at this; exact this.symm
  have fz0 := HO4.out.frozenAt 1
  have hsd0 := HO4.out.stored 1 (.int .i64 1)
  have ho5 : (w4.setCell ⟨w.heap.size, 1, none⟩ (.int .i64 1)).ownsRow w.heap.size 3 1 (.slice (some ⟨w.heap.size, 0, none⟩) 3 3) 3 (iv [0, 1, 0]) := hsd0.1
  have HO5 : Hid ((w4.setCell ⟨w.heap.size, 1, none⟩ (.int .i64 1)).drew.ownsRow w.heap.size 3 1 (.slice (some ⟨w.heap.size, 0, none⟩) 3 3) 3 (iv [0, 1, 0])) := ho5.drew
  have HT5 : Hid ((w4.setCell ⟨w.heap.size, 1, none⟩ (.int .i64 1)).drew.ownsRow w.heap.size 3 1 (.slice A4 1 c4) 1 (iv [1])) := (own_only HT4.out hsd0.2 (fun x hx e => HNE.out _ x rfl hx (by injection e with e; exact e.symm))).drew
  have HB5 : Hid (Below w.heap.size w (w4.setCell ⟨w.heap.size, 1, none⟩ (.int .i64 1)).drew) := (HB4.out.grown hsd0.2 HB4.out.size (fun g hg => by injection hg with hg; omega)).drew
  clear hy0 hz0' hsd0 ho5
  rw [rounds_succ]
  go_wp2_with (fail)
  go_region_law (fail)
  all_goals
    clear cy0 cz0 fz0 HO4 HT4 HB4
    generalize (w4.setCell ⟨w.heap.size, 1, none⟩ (.int .i64 1)).drew = w5 at *
    go_wp2_with (fail)
    obtain ⟨y1, hy1, cy1⟩ := own_int_at HO5.out (k := 1) (by omega)
    obtain rfl : y1 = 1 := by have := hy1.out; simp at this; exact this.symm
    obtain ⟨z1, hz1', cz1⟩ := own_int_at HO5.out (k := 2) (by omega)
    obtain rfl : z1 = 0 := by have := hz1'.out; simp at this; exact this.symm
    have fz1 := HO5.out.frozenAt 2
    have hsd1 := HO5.out.stored 2 (.int .i64 1)
    have ho6 : (w5.setCell ⟨w.heap.size, 2, none⟩ (.int .i64 1)).ownsRow w.heap.size 3 1 (.slice (some ⟨w.heap.size, 0, none⟩) 3 3) 3 (iv [0, 1, 1]) := hsd1.1
    have HO6 : Hid ((w5.setCell ⟨w.heap.size, 2, none⟩ (.int .i64 1)).drew.ownsRow w.heap.size 3 1 (.slice (some ⟨w.heap.size, 0, none⟩) 3 3) 3 (iv [0, 1, 1])) := ho6.drew
    have HT6 : Hid ((w5.setCell ⟨w.heap.size, 2, none⟩ (.int .i64 1)).drew.ownsRow w.heap.size 3 1 (.slice A4 1 c4) 1 (iv [1])) := (own_only HT5.out hsd1.2 (fun x hx e => HNE.out _ x rfl hx (by injection e with e; exact e.symm))).drew
    have HB6 : Hid (Below w.heap.size w (w5.setCell ⟨w.heap.size, 2, none⟩ (.int .i64 1)).drew) := (HB5.out.grown hsd1.2 HB5.out.size (fun g hg => by injection hg with hg; omega)).drew
    clear hy1 hz1' hsd1 ho6
    rw [rounds_succ]
    go_wp2_with (fail)
    go_region_law (fail)
    all_goals
      clear cy1 cz1 fz1 HO5 HT5 HB5
      generalize (w5.setCell ⟨w.heap.size, 2, none⟩ (.int .i64 1)).drew = w6 at *
      go_wp2_with (fail)
      rw [rounds_succ]
      go_wp2_with (fail)
      go_ret2
      exact ⟨_, _, _, _, rfl, HO6.out, HT6.out, HB6.out⟩

set_option maxRecDepth 100000 in
set_option maxHeartbeats 2000000 in
theorem laid_10 (A : Option Addr) (c : Nat) (w : World) (h : Reads w w.heap.size 2 A 1 (ev [⟨1, 0⟩])) :
    Calls Tryz.prog 79 #[.int .i64 2, .slice A 1 c] w fun e w' => ∃ A1 c1 A2 c2, e = .returned (.tuple #[.slice A1 3 c1, .slice A2 1 c2]) ∧ w'.ownsRow w.heap.size 3 1 (.slice A1 3 c1) 3 (iv [0, 0, 1]) ∧ w'.ownsRow w.heap.size 3 1 (.slice A2 1 c2) 1 (iv [0]) ∧ Below w.heap.size w w' := by
  have HR := Lib.hid h
  clear h
  obtain ⟨i0, hi0, hz0, hz1, hz2⟩ := info_parts infoIntL
  go_enter Tryz.func79, Tryz.ntmps79
  go_wp2_with (at_make; refine wpList_make_full _ rfl _ _ 25 rfl w.heap.size 3 i0 _ 1 Tryz.underlying25 hi0 hz0 hz1 _ _ _ _ 3 rfl rfl rfl rfl (by rw [hz2]; omega) (by unfold maxLen; omega) (Nat.le_refl _) ?_; intro w1 hown1 hg1)
  have hown : w1.ownsRow w.heap.size 3 1 (.slice (some ⟨w.heap.size, 0, none⟩) 3 3) 3 (iv [0, 0, 0]) := by
    have e : (madeCells (Value.int .i64 0).cells (3 * 1)).toList = iv [0, 0, 0] := by kernel_rfl
    rw [← e]; exact hown1
  have hB1 : Below w.heap.size w w1 := (Below.refl _ _).grown hg1 (Nat.le_refl _) (fun _ h => by cases h)
  clear hown1 hg1
  obtain ⟨b, o, x, rfl, hx, d0, d1⟩ := (HR.out.below hB1).edge_at (k := 0) (by omega)
  obtain rfl : x = ⟨1, 0⟩ := by have := hx.out; simp at this; exact this.symm
  simp only [Nat.zero_mul, Nat.add_zero] at d0 d1
  have hs1 : w.heap.size < w1.heap.size := (own_lt hown _ rfl).2
  obtain ⟨y, hy, cy⟩ := own_int_at hown (k := 2) (by omega)
  obtain rfl : y = 0 := by have := hy.out; simp at this; exact this.symm
  have fy := hown.frozenAt 2
  have hst := hown.stored 2 (.int .i64 1)
  have HST : Hid (((w1.setCell ⟨w.heap.size, 2, none⟩ (.int .i64 1)).alloc (.cells #[.int .i64 1, .int .i64 0] 73)).ownsRow w.heap.size 3 1 (.slice (some ⟨w.heap.size, 0, none⟩) 3 3) 3 (iv [0, 0, 1])) := World.ownsRow.alloc hst.1 (.cells #[.int .i64 1, .int .i64 0] 73)
  have hbs : Below w.heap.size w (w1.setCell ⟨w.heap.size, 2, none⟩ (.int .i64 1)) := hB1.grown hst.2 hB1.size (fun g hg => by injection hg with hg; omega)
  have HBS : Hid (Below w.heap.size w ((w1.setCell ⟨w.heap.size, 2, none⟩ (.int .i64 1)).alloc (.cells #[.int .i64 1, .int .i64 0] 73))) := hbs.trans ((below_one _ (.cells #[.int .i64 1, .int .i64 0] 73)).mono hbs.size)
  have hss : w.heap.size ≤ ((w1.setCell ⟨w.heap.size, 2, none⟩ (.int .i64 1)).alloc (.cells #[.int .i64 1, .int .i64 0] 73)).heap.size := HBS.out.size
  clear hown hB1 hx hy hst hbs
  refine wp_loop_rounds 2 ?_
  rw [rounds_succ]
  go_wp2_with (at_builtin; refine wpList_push elInt rfl _ _ rfl (own_nil (base := w.heap.size)) rfl _ rfl (by simp only [World.size_alloc, World.size_setCell]; rfl) (one_int _ 0) (by unfold maxLen; omega) (by omega) hss ?_; intro A4 c4 w4 ho4 p4)
  have ht4 : w4.ownsRow w.heap.size 3 1 (.slice A4 1 c4) 1 (iv [0]) := by simpa [iv] using ho4
  have HT4 := Lib.hid ht4
  have HO4 := Lib.hid (p4.keep HST.out Apart.none_right)
  have HB4 := Lib.hid (p4.below0 HBS.out hss)
  have hne : Apart (some ⟨w.heap.size, 0, none⟩) A4 := p4.apart HST.out Apart.none_right
  have HNE := Lib.hid hne
  clear ht4 ho4 p4 cy fy d0 d1 hs1 hss HST HBS hne
  rw [rounds_succ]
  go_wp2_with (fail)
  refine wp_loop_rounds 3 ?_
  have wr0 : IntKind.i64.wrap 0 = 0 := by decide
  have wr1 : IntKind.i64.wrap 1 = 1 := by decide
  have wr2 : IntKind.i64.wrap 2 = 2 := by decide
  obtain ⟨y0, hy0, cy0⟩ := own_int_at HO4.out (k := 0) (by omega)
  obtain rfl : y0 = 0 := by have := hy0.out; simp at this; exact this.symm
  obtain ⟨z0, hz0', cz0⟩ := own_int_at HO4.out (k := 1) (by omega)
  obtain rfl : z0 = 0 := by have := hz0'.out; simp at this; exact this.symm
  have fz0 := HO4.out.frozenAt 1
  have hsd0 := HO4.out.stored 1 (.int .i64 0)
  have ho5 : (w4.setCell ⟨w.heap.size, 1, none⟩ (.int .i64 0)).ownsRow w.heap.size 3 1 (.slice (some ⟨w.heap.size, 0, none⟩) 3 3) 3 (iv [0, 0, 1]) := hsd0.1
  have HO5 : Hid ((w4.setCell ⟨w.heap.size, 1, none⟩ (.int .i64 0)).drew.ownsRow w.heap.size 3 1 (.slice (some ⟨w.heap.size, 0, none⟩) 3 3) 3 (iv [0, 0, 1])) := ho5.drew
  have HT5 : Hid ((w4.setCell ⟨w.heap.size, 1, none⟩ (.int .i64 0)).drew.ownsRow w.heap.size 3 1 (.slice A4 1 c4) 1 (iv [0])) := (own_only HT4.out hsd0.2 (fun x hx e => HNE.out _ x rfl hx (by injection e with e; exact e.symm))).drew
  have HB5 : Hid (Below w.heap.size w (w4.setCell ⟨w.heap.size, 1, none⟩ (.int .i64 0)).drew) := (HB4.out.grown hsd0.2 HB4.out.size (fun g hg => by injection hg with hg; omega)).drew
  clear hy0 hz0' hsd0 ho5
  rw [rounds_succ]
  go_wp2_with (fail)
  go_region_law (fail)
  all_goals
    clear cy0 cz0 fz0 HO4 HT4 HB4
    generalize (w4.setCell ⟨w.heap.size, 1, none⟩ (.int .i64 0)).drew = w5 at *
    go_wp2_with (fail)
    obtain ⟨y1, hy1, cy1⟩ := own_int_at HO5.out (k := 1) (by omega)
    obtain rfl : y1 = 0 := by have := hy1.out; simp at this; exact this.symm
    obtain ⟨z1, hz1', cz1⟩ := own_int_at HO5.out (k := 2) (by omega)
    obtain rfl : z1 = 1 := by have := hz1'.out; simp at this; exact this.symm
    have fz1 := HO5.out.frozenAt 2
    have hsd1 := HO5.out.stored 2 (.int .i64 1)
    have ho6 : (w5.setCell ⟨w.heap.size, 2, none⟩ (.int .i64 1)).ownsRow w.heap.size 3 1 (.slice (some ⟨w.heap.size, 0, none⟩) 3 3) 3 (iv [0, 0, 1]) := hsd1.1
    have HO6 : Hid ((w5.setCell ⟨w.heap.size, 2, none⟩ (.int .i64 1)).drew.ownsRow w.heap.size 3 1 (.slice (some ⟨w.heap.size, 0, none⟩) 3 3) 3 (iv [0, 0, 1])) := ho6.drew
    have HT6 : Hid ((w5.setCell ⟨w.heap.size, 2, none⟩ (.int .i64 1)).drew.ownsRow w.heap.size 3 1 (.slice A4 1 c4) 1 (iv [0])) := (own_only HT5.out hsd1.2 (fun x hx e => HNE.out _ x rfl hx (by injection e with e; exact e.symm))).drew
    have HB6 : Hid (Below w.heap.size w (w5.setCell ⟨w.heap.size, 2, none⟩ (.int .i64 1)).drew) := (HB5.out.grown hsd1.2 HB5.out.size (fun g hg => by injection hg with hg; omega)).drew
    clear hy1 hz1' hsd1 ho6
    rw [rounds_succ]
    go_wp2_with (fail)
    go_region_law (fail)
    all_goals
      clear cy1 cz1 fz1 HO5 HT5 HB5
      generalize (w5.setCell ⟨w.heap.size, 2, none⟩ (.int .i64 1)).drew = w6 at *
      go_wp2_with (fail)
      rw [rounds_succ]
      go_wp2_with (fail)
      go_ret2
      exact ⟨_, _, _, _, rfl, HO6.out, HT6.out, HB6.out⟩

end Go.Proofs.YtichoidkemeibaaGreat

namespace Go.Proofs.YtichoidkemeibaaGreat
open Go.RowKit

def gr01 : Gr := ⟨2, [⟨0, 1⟩], [[], []]⟩
def gr10 : Gr := ⟨2, [⟨1, 0⟩], [[], []]⟩
theorem gr01_is : isG gr01 := by decide
theorem gr10_ok : checkG gr10 := by decide
theorem gr01_sized : sized gr01 := fun l hl x hx => by
  have : l = [] := by simp [gr01] at hl; exact hl
  subst this; simp at hx
theorem gr10_sized : sized gr10 := fun l hl x hx => by
  have : l = [] := by simp [gr10] at hl; exact hl
  subst this; simp at hx

set_option maxRecDepth 100000 in
set_option maxHeartbeats 4000000 in
theorem turned_c (A1 A2 : Option Addr) (c1 c2 : Nat) (vs : List Value) (w : World) (h : GrIn w w.heap.size gr01 A1 1 A2 2 vs) :
    Calls Tryz.prog 78 #[.agg #[.int .i64 2, .slice A1 1 c1, .slice A2 2 c2]] w fun e w' => ∃ B1 d1 B2 k2 d2, e = .returned (.tuple #[.agg #[.int .i64 2, .slice B1 1 d1, .slice B2 k2 d2], .int .i64 0]) ∧ Reads w' w'.heap.size 2 B1 1 (ev [⟨1, 0⟩]) ∧ Below w.heap.size w w' := by
  have hx := (boxed_new h c1 c2).step (below_oneG _ (.cells #[.int .i64 0, .slice none 0 0, .slice none 0 0] 77))
  have hz := GAt.new (w.alloc (.cells #[.int .i64 2, .slice A1 1 c1, .slice A2 2 c2] 77)) 0 none 0 0 none 0 0
  rw [World.size_alloc] at hz
  have HG := Lib.hid h
  have HX := Lib.hid hx
  have HZ := Lib.hid hz
  obtain ⟨q0, q1, q2⟩ := hx.box.cells
  clear hx hz h
  go_enter Tryz.func78, Tryz.ntmps78
  go_wp2_with (fail)
  refine (cloneE_c A1 1 c1 [⟨0, 1⟩] _ (HX.out.in_.es) (by omega)).mono ?_
  rintro e w1 ⟨B1, d1, rfl, ho1, hB1⟩
  have hx1 := HX.out.step hB1
  have hz1 := HZ.out.below hB1 HZ.out.lt
  have hbx1 : GAt w1 w.heap.size 2 A1 1 c1 A2 2 c2 := hx1.box
  obtain ⟨g, cap, hB, hgb⟩ := ho1.form (by omega)
  cases hB
  have hg2 := (own_lt ho1 _ rfl).1
  simp only [World.size_alloc] at hg2
  have hgl := (own_lt ho1 _ rfl).2
  simp only at hgl
  have hbx2 := hbx1.set1 (A3 := some ⟨g, 0, none⟩) (d := 1) (e := d1)
  have hgr2 : w1.grownBy (w1.setCell ⟨w.heap.size, 1, none⟩ (.slice (some ⟨g, 0, none⟩) 1 d1)) (some w.heap.size) := only_setCellS (only_refl w1 _) 1 _
  have ho2 := own_only ho1 hgr2 (fun a ha e => by cases ha; simp at e; omega)
  have hz2 := hz1.grown hgr2 (by intro e; injection e with e; omega)
  have hbel2 : Below w.heap.size w (w1.setCell ⟨w.heap.size, 1, none⟩ (.slice (some ⟨g, 0, none⟩) 1 d1)) := hx1.bel.setCell (p := ⟨w.heap.size, 1, none⟩) (Nat.le_refl _) _
  obtain ⟨t0, t1, t2⟩ := hbx1.cells
  have fb := hbx1.frozen 1
  have HBX2 := Lib.hid hbx2
  have HO2 := Lib.hid ho2
  have HZ2 := Lib.hid hz2
  have HB2 := Lib.hid hbel2
  have hgl2 : g < (w1.setCell ⟨w.heap.size, 1, none⟩ (.slice (some ⟨g, 0, none⟩) 1 d1)).heap.size := by simpa using hgl
  clear ho1 hB1 hx1 hz1 hbx1 hgb hbx2 hgr2 ho2 hz2 hbel2 HX HZ q0 q1 q2 hgl
  go_wp2_with (fail)
  generalize w1.setCell ⟨w.heap.size, 1, none⟩ (.slice (some ⟨g, 0, none⟩) 1 d1) = w2 at *
  clear t0 t1 t2 fb
  obtain ⟨t0, t1, t2⟩ := HBX2.out.cells
  obtain ⟨b', o', x, he, hx, d0, d1'⟩ := (own_reads HO2.out).edge_at (k := 0) (by omega)
  cases he
  obtain rfl : x = ⟨0, 1⟩ := by have := hx.out; simp at this; exact this.symm
  simp only [Nat.zero_mul, Nat.add_zero, Nat.zero_add] at d0 d1'
  have f0 := HO2.out.frozenAt 0
  have f1 := HO2.out.frozenAt 1
  have hs1 := HO2.out.stored 0 (.int .i64 1)
  have hs2 := hs1.1.stored 1 (.int .i64 0)
  have hgr3 : w2.grownBy ((w2.setCell ⟨g, 0, none⟩ (.int .i64 1)).setCell ⟨g, 1, none⟩ (.int .i64 0)) (some g) := only_setCellS (only_setCellS (only_refl w2 _) 0 _) 1 _
  have ho3 : ((w2.setCell ⟨g, 0, none⟩ (.int .i64 1)).setCell ⟨g, 1, none⟩ (.int .i64 0)).ownsRow (w.heap.size + 1 + 1) 73 2 (.slice (some ⟨g, 0, none⟩) 1 d1) 1 (ev [⟨1, 0⟩]) := by
    simpa [ev, ec] using hs2.1
  have hbx3 := HBX2.out.grown hgr3 (by intro e; injection e with e; omega)
  have hz3 := HZ2.out.grown hgr3 (by intro e; injection e with e; omega)
  have hb3 := HB2.out.grown hgr3 HB2.out.size (fun k hk => by injection hk with hk; omega)
  have HO3 := Lib.hid (World.ownsRow.alloc ho3 (.cells #[.int .i64 0, .int .i64 1] 73))
  have HBX3 := Lib.hid (hbx3.below (below_oneG _ (.cells #[.int .i64 0, .int .i64 1] 73)) hbx3.lt)
  have HZ3 := Lib.hid (hz3.below (below_oneG _ (.cells #[.int .i64 0, .int .i64 1] 73)) hz3.lt)
  have HB3 := Lib.hid (hb3.trans ((below_oneG _ (.cells #[.int .i64 0, .int .i64 1] 73)).mono hb3.size))
  have hwl : w.heap.size < w2.heap.size := HBX2.out.lt
  clear hx hs1 hs2 hgr3 ho3 hbx3 hz3 hb3 HO2 HBX2 HZ2 HB2
  refine wp_loop_rounds 2 ?_
  rw [rounds_succ]
  go_wp2_with (fail)
  generalize ((w2.setCell ⟨g, 0, none⟩ (.int .i64 1)).setCell ⟨g, 1, none⟩ (.int .i64 0)).alloc (.cells #[.int .i64 0, .int .i64 1] 73) = w3 at *
  clear t0 t1 t2 d0 d1' f0 f1 hgl2
  obtain ⟨t0, t1, t2⟩ := HBX3.out.cells
  have HGR : Hid (GrIn w3 w3.heap.size gr10 (some ⟨g, 0, none⟩) 1 A2 2 vs) := by
    have hg := HG.out.below HB3.out
    have hg3 := hg.more HB3.out.size
    exact ⟨own_reads HO3.out, hg3.rows, hg3.words, by unfold maxLen; omega, hg3.m2⟩
  rw [rounds_succ]
  go_wp2_with (fail)
  refine (normal_c gr10 (some ⟨g, 0, none⟩) A2 1 2 d1 c2 vs _ HGR.out gr10_sized).mono ?_
  rintro e w4 hN
  unfold NDone at hN
  rw [if_pos gr10_ok] at hN
  obtain ⟨g', B1, n1, e1, B2, n2, e2, us, rfl, hg', ⟨hn, hes⟩, hgr, hB4⟩ := hN
  have hes' : g'.es = [⟨1, 0⟩] := hes rfl
  have hn' : g'.n = 2 := hn
  have hn1 : n1 = 1 := by have h1 := hgr.len1; rw [hes'] at h1; exact h1.symm
  subst hn1
  have HR4 : Hid (Reads w4 w4.heap.size 2 B1 1 (ev [⟨1, 0⟩])) := by have h1 := hgr.es; rw [hes'] at h1; exact h1
  have hz4 := HZ3.out.below hB4 HZ3.out.lt
  have HB4 := Lib.hid (HB3.out.trans (hB4.mono HB3.out.size))
  rw [hn']
  have hp4 := putG_at hz4 2 B1 1 e1 B2 n2 e2
  have hs4 : w.heap.size + 1 < w4.heap.size := hz4.lt
  obtain ⟨z0, z1, z2⟩ := hz4.cells
  have fz0 := hz4.frozen 0
  have fz1 := hz4.frozen 1
  have fz2 := hz4.frozen 2
  have HP4 := Lib.hid hp4
  have hne : 0 < 1 → ∀ x, B1 = some x → some x.block ≠ some (w.heap.size + 1) := fun _ x hx e => by
    obtain ⟨b, o, y, he, hy, d0, d1'⟩ := HR4.out.edge_at (k := 0) (by omega)
    rw [hx] at he
    injection he with he
    subst he
    injection e with e
    subst e
    obtain rfl : y = ⟨1, 0⟩ := by have := hy.out; simp at this; exact this.symm
    unfold GAt at hz4
    rw [Lib.cell_of_heap hz4] at d0
    rcases o with _ | _ | _ | o <;> simp at d0
  have HRF := Lib.hid (HR4.out.grown_ (putG_grown w4 (w.heap.size + 1) 2 B1 1 e1 B2 n2 e2) (Nat.le_refl _) hne)
  have HBF := Lib.hid (putG_below HB4.out (Nat.le_succ w.heap.size) 2 B1 1 e1 B2 n2 e2)
  clear hne hn' hn hes hes' hgr hB4 hg' hz4 hp4 t0 t1 t2 HO3 HBX3 HZ3 HGR
  go_wp2_with (fail)
  refine (show bodyPost _ _ _ Exit.ret _ (putG w4 (w.heap.size + 1) 2 B1 1 e1 B2 n2 e2) from ?_)
  obtain ⟨y0, y1, y2⟩ := HP4.out.cells
  refine bodyPost_ret (v := .tuple #[.agg #[.int .i64 2, .slice B1 1 e1, .slice B2 n2 e2], .int .i64 0]) ?_ rfl ⟨B1, e1, B2, n2, e2, rfl, HRF.out.more (putG_grown w4 (w.heap.size + 1) 2 B1 1 e1 B2 n2 e2).size, HBF.out⟩
  simp [results, Tryz.results78, y0, y1, y2, go_sem]
end Go.Proofs.YtichoidkemeibaaGreat

namespace Go.Proofs.YtichoidkemeibaaGreat
open Go.RowKit

def rw01 : Rws := ⟨[0, 1, 1], [1], [0, 0, 1], [0]⟩
theorem rw01_ok : chkR rw01 := by decide
/-- A box of rows. -/
def RxAt (w : World) (b : Nat) (v1 v2 v3 v4 : Value) : Prop := w.heap[b]? = some (.cells #[v1, v2, v3, v4] 27 (0, 0))
section
variable {w w' : World} {b : Nat} {v1 v2 v3 v4 : Value}
theorem RxAt.cells (h : RxAt w b v1 v2 v3 v4) : w.cell? ⟨b, 0, none⟩ = some v1 ∧ w.cell? ⟨b, 1, none⟩ = some v2 ∧ w.cell? ⟨b, 2, none⟩ = some v3 ∧ w.cell? ⟨b, 3, none⟩ = some v4 := by
  unfold RxAt at h
  refine ⟨?_, ?_, ?_, ?_⟩ <;> · rw [Lib.cell_of_heap h]; rfl
theorem RxAt.frozen (h : RxAt w b v1 v2 v3 v4) (k : Nat) : w.frozen? ⟨b, k, none⟩ = false := Lib.frozen_of_heap h k
theorem RxAt.lt (h : RxAt w b v1 v2 v3 v4) : b < w.heap.size := (Array.getElem?_eq_some_iff.1 h).1
theorem RxAt.below (h : RxAt w b v1 v2 v3 v4) (hB : Below w.heap.size w w') : RxAt w' b v1 v2 v3 v4 := (hB.block b h.lt).trans h
theorem RxAt.grown {g : Nat} (h : RxAt w b v1 v2 v3 v4) (hg : w.grownBy w' (some g)) (hne : b ≠ g) : RxAt w' b v1 v2 v3 v4 := (hg.block b h.lt (fun e => hne (by injection e))).trans h
theorem RxAt.set01 (h : RxAt w b v1 v2 v3 v4) (x y : Value) : RxAt ((w.setCell ⟨b, 0, none⟩ x).setCell ⟨b, 1, none⟩ y) b x y v3 v4 := by
  have h1 := heap_setCell_same w b 0 _ _ x h
  have h2 := heap_setCell_same _ b 1 _ _ y h1
  unfold RxAt; simpa using h2
theorem RxAt.set23 (h : RxAt w b v1 v2 v3 v4) (x y : Value) : RxAt ((w.setCell ⟨b, 2, none⟩ x).setCell ⟨b, 3, none⟩ y) b v1 v2 x y := by
  have h1 := heap_setCell_same w b 2 _ _ x h
  have h2 := heap_setCell_same _ b 3 _ _ y h1
  unfold RxAt; simpa using h2
theorem RxAt.set4 (h : RxAt w b v1 v2 v3 v4) (x y z u : Value) : RxAt ((((w.setCell ⟨b, 0, none⟩ x).setCell ⟨b, 1, none⟩ y).setCell ⟨b, 2, none⟩ z).setCell ⟨b, 3, none⟩ u) b x y z u := by
  have h1 := (h.set01 x y).set23 z u
  exact h1
theorem RxAt.rowT (h : RxAt w b v1 v2 v3 v4) : RowT w (some b) 27 := rowT_box h
end

set_option maxRecDepth 100000 in
set_option maxHeartbeats 4000000 in
theorem make_c (A1 A2 : Option Addr) (c1 c2 : Nat) (vs : List Value) (w : World) (h : GrIn w w.heap.size gr01 A1 1 A2 2 vs) :
    Calls Tryz.prog 38 #[.agg #[.int .i64 2, .slice A1 1 c1, .slice A2 2 c2]] w fun e w' => ∃ a : RwA, a.r = rw01 ∧ e = .returned (.tuple #[rwVal a, .int .i64 0]) ∧ RwIn w' w'.heap.size a ∧ Below w.heap.size w w' := by
  have hx := (boxed_new h c1 c2).step (below_oneG _ (.cells #[.slice none 0 0, .slice none 0 0, .slice none 0 0, .slice none 0 0] 27))
  have hz : RxAt ((w.alloc (.cells #[.int .i64 2, .slice A1 1 c1, .slice A2 2 c2] 77)).alloc (.cells #[.slice none 0 0, .slice none 0 0, .slice none 0 0, .slice none 0 0] 27)) (w.heap.size + 1) (.slice none 0 0) (.slice none 0 0) (.slice none 0 0) (.slice none 0 0) := by
    have := (w.alloc (.cells #[.int .i64 2, .slice A1 1 c1, .slice A2 2 c2] 77)).alloc_heap_new (.cells #[.slice none 0 0, .slice none 0 0, .slice none 0 0, .slice none 0 0] 27)
    rw [World.size_alloc] at this
    exact this
  have HX := Lib.hid hx
  have HZ := Lib.hid hz
  obtain ⟨q0, q1, q2⟩ := hx.box.cells
  clear hx hz h
  have q0 : _ = some (Value.int .i64 2) := q0
  go_enter Tryz.func38, Tryz.ntmps38
  go_wp2_with (fail)
  refine (is_c gr01 A1 A2 1 2 c1 c2 vs _ HX.out.in_ gr01_sized).mono ?_
  rintro e w1 ⟨rfl, hB1⟩
  rw [decide_eq_true gr01_is]
  have HX1 := Lib.hid (HX.out.step hB1)
  have HZ1 := Lib.hid (HZ.out.below hB1)
  clear hB1 HX HZ q0 q1 q2
  obtain ⟨q0, q1, q2⟩ := HX1.out.box.cells
  have q0 : _ = some (Value.int .i64 2) := q0
  go_wp2_with (fail)
  refine (turned_c A1 A2 c1 c2 vs _ HX1.out.in_).mono ?_
  rintro e w2 ⟨B1, e1, B2, k2, e2, rfl, hr2, hB2⟩
  have hb3 := below_two w2 (.cells #[.int .i64 2, .slice B1 1 e1, .slice B2 k2 e2] 77) (.cells #[.slice none 0 0, .slice none 0 0, .slice none 0 0, .slice none 0 0] 27)
  have HX3 := Lib.hid ((HX1.out.step hB2).step hb3)
  have HZ3 := Lib.hid ((HZ1.out.below hB2).below hb3)
  have HR3 := Lib.hid ((hr2.below hb3).more hb3.size)
  have ht3 := (GAt.new w2 2 B1 1 e1 B2 k2 e2).below (below_oneG _ (.cells #[.slice none 0 0, .slice none 0 0, .slice none 0 0, .slice none 0 0] 27)) (by simp)
  have hr3 : RxAt ((w2.alloc (.cells #[.int .i64 2, .slice B1 1 e1, .slice B2 k2 e2] 77)).alloc (.cells #[.slice none 0 0, .slice none 0 0, .slice none 0 0, .slice none 0 0] 27)) (w2.heap.size + 1) (.slice none 0 0) (.slice none 0 0) (.slice none 0 0) (.slice none 0 0) := by
    have := (w2.alloc (.cells #[.int .i64 2, .slice B1 1 e1, .slice B2 k2 e2] 77)).alloc_heap_new (.cells #[.slice none 0 0, .slice none 0 0, .slice none 0 0, .slice none 0 0] 27)
    rw [World.size_alloc] at this
    exact this
  have HT3 := Lib.hid ht3
  have HQ3 := Lib.hid hr3
  have hs2 : w.heap.size + 1 < w2.heap.size := Nat.lt_of_lt_of_le HZ1.out.lt hB2.size
  have hs0 : w.heap.size < w2.heap.size := by omega
  have hs0' : w.heap.size < w2.heap.size + 1 := by omega
  have hq2 := (HX1.out.step hB2).box.cells
  obtain ⟨p0, p1, p2⟩ := hq2
  have p0 : _ = some (Value.int .i64 2) := p0
  clear hr2 hB2 hb3 ht3 hr3 q0 q1 q2 HX1 HZ1
  go_wp2_with (fail)
  generalize hW3 : (w2.alloc (.cells #[.int .i64 2, .slice B1 1 e1, .slice B2 k2 e2] 77)).alloc (.cells #[.slice none 0 0, .slice none 0 0, .slice none 0 0, .slice none 0 0] 27) = w3 at *
  clear hW3 p0 p1 p2
  refine (laid_01 A1 c1 w3 HX3.out.in_.es).mono ?_
  rintro e w4 ⟨O1, d1, T1, d2, rfl, ho4, ht4, hB4⟩
  have hx4 := HX3.out.step hB4
  have hz4 := HZ3.out.below hB4
  have hq4 := HQ3.out.below hB4
  have hT4 := hq4.rowT
  have hg4 : w4.grownBy ((w4.setCell ⟨w2.heap.size + 1, 0, none⟩ (.slice O1 3 d1)).setCell ⟨w2.heap.size + 1, 1, none⟩ (.slice T1 1 d2)) (some (w2.heap.size + 1)) := only_setCellS (only_setCellS (only_refl w4 _) 0 _) 1 _
  have HO4 := Lib.hid (own_T (own_more (base := w.heap.size) ho4 (HX3.out.bel.size)) hg4 hT4 (by decide))
  have HT4 := Lib.hid (own_T (own_more (base := w.heap.size) ht4 (HX3.out.bel.size)) hg4 hT4 (by decide))
  have HQ4 := Lib.hid (hq4.set01 (.slice O1 3 d1) (.slice T1 1 d2))
  have HZ4 := Lib.hid (hz4.grown hg4 (by omega))
  have HX4 : Hid (GAt ((w4.setCell ⟨w2.heap.size + 1, 0, none⟩ (.slice O1 3 d1)).setCell ⟨w2.heap.size + 1, 1, none⟩ (.slice T1 1 d2)) w.heap.size 2 A1 1 c1 A2 2 c2) := GAt.grown hx4.box hg4 (by intro e; injection e with e; omega)
  have hgt4 := HT3.out.below hB4 HT3.out.lt
  have HG4 : Hid (GAt ((w4.setCell ⟨w2.heap.size + 1, 0, none⟩ (.slice O1 3 d1)).setCell ⟨w2.heap.size + 1, 1, none⟩ (.slice T1 1 d2)) w2.heap.size 2 B1 1 e1 B2 k2 e2) := GAt.grown hgt4 hg4 (by intro e; injection e with e; omega)
  have HB4 := Lib.hid (hx4.bel.grown hg4 hx4.bel.size (fun k hk => by injection hk with hk; omega))
  have hs5 : w2.heap.size + 1 < ((w4.setCell ⟨w2.heap.size + 1, 0, none⟩ (.slice O1 3 d1)).setCell ⟨w2.heap.size + 1, 1, none⟩ (.slice T1 1 d2)).heap.size := HQ4.out.lt
  have HR5 : Hid (Reads ((w4.setCell ⟨w2.heap.size + 1, 0, none⟩ (.slice O1 3 d1)).setCell ⟨w2.heap.size + 1, 1, none⟩ (.slice T1 1 d2)) ((w4.setCell ⟨w2.heap.size + 1, 0, none⟩ (.slice O1 3 d1)).setCell ⟨w2.heap.size + 1, 1, none⟩ (.slice T1 1 d2)).heap.size 2 B1 1 (ev [⟨1, 0⟩])) := by
    refine ((HR3.out.below hB4).grown_ hg4 hB4.size (fun _ x hx e => ?_)).more (Nat.le_trans hB4.size (by simp))
    obtain ⟨b, o, y, he, hy, e0, _⟩ := HR3.out.edge_at (k := 0) (by omega)
    rw [hx] at he
    injection he with he
    subst he
    injection e with e
    subst e
    obtain rfl : y = ⟨1, 0⟩ := by have := hy.out; simp at this; exact this.symm
    have h0 := HQ3.out
    unfold RxAt at h0
    rw [Lib.cell_of_heap h0] at e0
    rcases o with _ | _ | _ | _ | o <;> simp at e0
  obtain ⟨p0, p1, p2⟩ := hx4.box.cells
  have p0 : _ = some (Value.int .i64 2) := p0
  obtain ⟨s0, s1, s2⟩ := hgt4.cells
  obtain ⟨t0, t1, t2, t3⟩ := hq4.cells
  have ft0 := hq4.frozen 0
  have ft1 := hq4.frozen 1
  have hne1 : w.heap.size ≠ w2.heap.size + 1 := by omega
  clear ho4 ht4 hB4 hx4 hz4 hq4 hT4 hg4 hgt4 HX3 HZ3 HR3 HT3 HQ3 hs0 hs0'
  go_wp2_with (fail)
  generalize (w4.setCell ⟨w2.heap.size + 1, 0, none⟩ (.slice O1 3 d1)).setCell ⟨w2.heap.size + 1, 1, none⟩ (.slice T1 1 d2) = w5 at *
  clear p0 p1 p2 s0 s1 s2 t0 t1 t2 t3 ft0 ft1
  refine (laid_10 B1 e1 w5 HR5.out).mono ?_
  rintro e w6 ⟨O2, d3, T2, d4, rfl, ho6, ht6, hB6⟩
  have hq6 := HQ4.out.below hB6
  have hz6 := HZ4.out.below hB6
  have hO6 := own_below HO4.out hB6
  have hT6 := own_below HT4.out hB6
  have ho6 := own_more (base := w.heap.size) ho6 HB4.out.size
  have ht6 := own_more (base := w.heap.size) ht6 HB4.out.size
  have hb6 := HB4.out.trans (hB6.mono HB4.out.size)
  have hg7 : w6.grownBy ((w6.setCell ⟨w2.heap.size + 1, 2, none⟩ (.slice O2 3 d3)).setCell ⟨w2.heap.size + 1, 3, none⟩ (.slice T2 1 d4)) (some (w2.heap.size + 1)) := only_setCellS (only_setCellS (only_refl w6 _) 2 _) 3 _
  have hq7 := hq6.set23 (.slice O2 3 d3) (.slice T2 1 d4)
  have hz7 := hz6.grown hg7 (by omega)
  have hr6 := hq6.rowT
  have HOa := Lib.hid (own_T hO6 hg7 hr6 (by decide))
  have HTa := Lib.hid (own_T hT6 hg7 hr6 (by decide))
  have HOb := Lib.hid (own_T ho6 hg7 hr6 (by decide))
  have HTb := Lib.hid (own_T ht6 hg7 hr6 (by decide))
  have HB7 := Lib.hid (hb6.grown hg7 hb6.size (fun k hk => by injection hk with hk; omega))
  have HQ7 := Lib.hid hq7
  have HZ7 := Lib.hid hz7
  obtain ⟨t0, t1, t2, t3⟩ := hq6.cells
  have ft2 := hq6.frozen 2
  have ft3 := hq6.frozen 3
  obtain ⟨z0, z1, z2, z3⟩ := hz6.cells
  have fz0 := hz6.frozen 0
  have fz1 := hz6.frozen 1
  have fz2 := hz6.frozen 2
  have fz3 := hz6.frozen 3
  have hne2 : w.heap.size + 1 ≠ w2.heap.size + 1 := by omega
  have hne3 : w2.heap.size ≠ w.heap.size := by omega
  clear hq6 hz6 hO6 hT6 ho6 ht6 hb6 hg7 hq7 hz7 hr6 hB6 HQ4 HZ4 HO4 HT4 HB4 HX4 HG4 HR5
  go_wp2_with (fail)
  generalize (w6.setCell ⟨w2.heap.size + 1, 2, none⟩ (.slice O2 3 d3)).setCell ⟨w2.heap.size + 1, 3, none⟩ (.slice T2 1 d4) = w7 at *
  have hg8 : w7.grownBy ((((w7.setCell ⟨w.heap.size + 1, 0, none⟩ (.slice O1 3 d1)).setCell ⟨w.heap.size + 1, 1, none⟩ (.slice T1 1 d2)).setCell ⟨w.heap.size + 1, 2, none⟩ (.slice O2 3 d3)).setCell ⟨w.heap.size + 1, 3, none⟩ (.slice T2 1 d4)) (some (w.heap.size + 1)) := only_setCellS (only_setCellS (only_setCellS (only_setCellS (only_refl w7 _) 0 _) 1 _) 2 _) 3 _
  have hr8 := HZ7.out.rowT
  obtain ⟨y0, y1, y2, y3⟩ := (HZ7.out.set4 (.slice O1 3 d1) (.slice T1 1 d2) (.slice O2 3 d3) (.slice T2 1 d4)).cells
  refine bodyPost_ret (v := .tuple #[.agg #[.slice O1 3 d1, .slice T1 1 d2, .slice O2 3 d3, .slice T2 1 d4], .int .i64 0]) ?_ rfl ⟨⟨rw01, O1, 3, d1, T1, 1, d2, O2, 3, d3, T2, 1, d4⟩, rfl, rfl, ?_, HB7.out.grown hg8 HB7.out.size (fun k hk => by injection hk with hk; omega)⟩
  · simp [results, Tryz.results38, y0, y1, y2, y3, go_sem]
  · have k1 := own_T HOa.out hg8 hr8 (by decide)
    have k2 := own_T HTa.out hg8 hr8 (by decide)
    have k3 := own_T HOb.out hg8 hr8 (by decide)
    have k4 := own_T HTb.out hg8 hr8 (by decide)
    exact ⟨own_reads k1, own_reads k2, own_reads k3, own_reads k4, (show 3 ≤ maxLen by decide), (show 1 ≤ maxLen by decide), (show 3 ≤ maxLen by decide), (show 1 ≤ maxLen by decide), (own_cap k2).1, (own_cap k4).1⟩
end Go.Proofs.YtichoidkemeibaaGreat

namespace Go.Proofs.YtichoidkemeibaaGreat
open Go.RowKit

/-- What a query begins with. -/
def startM (kind src dst slot : Int) : List Msg :=
  if kind = 1 then [⟨slot, 0, src, 0⟩, ⟨slot, 1, dst, 0⟩] else if kind = 2 ∨ kind = 3 then [⟨slot, 0, src, 0⟩] else []

/-- One message more. -/
structure BeginDone (w : World) (b base n : Nat) (l : List Msg) (w' : World) : Prop where
  more : ∃ A' c', Boxed w' b 34 (.slice A' (n + 1) c') ∧ w'.ownsRow base 44 4 (.slice A' (n + 1) c') (n + 1) (mv l)
  keep : ∀ k cs t fr, w.heap[k]? = some (.cells cs t fr) → t ≠ 44 → k ≠ b → w'.heap[k]? = some (.cells cs t fr)
  bel : Below base w w'
  size : w.heap.size ≤ w'.heap.size
theorem begin_c (dir v slot : Int) (b bs : Nat) (base : Nat) (A : Option Addr) (n c : Nat) (l : List Msg) (w : World) (hb : Boxed w b 34 (.slice A n c)) (hs : w.cell? ⟨bs, 0, none⟩ = some (.int .i64 slot)) (ho : w.ownsRow base 44 4 (.slice A n c) n (mv l)) (hn : n ≤ 100) (hbase : base ≤ w.heap.size) (hbb : base ≤ b) :
    Calls Tryz.prog 39 #[.int .i64 dir, .int .i64 v, .pointer (some ⟨b, 0, none⟩), .pointer (some ⟨bs, 0, none⟩)] w fun e w' => e = .returned (.tuple #[]) ∧ BeginDone w b base n (l ++ [⟨slot, dir, v, 0⟩]) w' := by
  have c0 := Boxed.cell hb
  have f0 := Boxed.frozen hb
  have HB := Lib.hid hb
  have HO := Lib.hid ho
  clear hb ho
  go_enter Tryz.func39, Tryz.ntmps39
  go_wp2_with (at_builtin; refine wpList_push elMail rfl _ _ rfl HO.out rfl _ rfl rfl (mc_one ⟨slot, dir, v, 0⟩) (by unfold maxLen; omega) (by omega) hbase ?_; intro A4 c4 w4 ho4 p4; have hT1 := rowT_own HO.out; have hb4 := box_T HB.out p4.grown hT1 (by decide); have g0 := Boxed.cell hb4; have g1 := Boxed.frozen hb4; have HO4 := Lib.hid ho4; have HP4 := Lib.hid p4; have HB4 := Lib.hid hb4; have HT1 := Lib.hid hT1; clear ho4 p4 hT1 hb4)
  have hg2 := grownBy_setCell' w4 b (.slice A4 (n + 1) c4)
  have hT2 : RowT w4 (some b) 34 := rowT_box HB4.out
  go_end0
  refine ⟨rfl, ⟨⟨A4, c4, Boxed.set _ HB4.out, own_T (by rw [mv_append]; simpa [mv, mc] using HO4.out) hg2 hT2 (by decide)⟩, fun k cs t fr hk ht hkb => ?_, (HP4.out.below HO.out (Below.refl _ _) (Nat.le_refl _) hbase).setCell (p := ⟨b, 0, none⟩) hbb _, Nat.le_trans HP4.out.grown.size hg2.size⟩⟩
  have h1 := box_T hk HP4.out.grown HT1.out ht
  exact (hg2.block k (Array.getElem?_eq_some_iff.1 h1).1 (fun e => hkb (by injection e))).trans h1

set_option maxRecDepth 100000 in
set_option maxHeartbeats 2000000 in
theorem start_c (q : QuA) (slot : Int) (w : World) :
    Calls Tryz.prog 14 #[quVal q, .int .i64 slot] w fun e w' => ∃ A' k c', e = .returned (.slice A' k c') ∧ k = (startM q.kind q.src q.dst slot).length ∧ w'.ownsRow w.heap.size 44 4 (.slice A' k c') k (mv (startM q.kind q.src q.dst slot)) ∧ Below w.heap.size w w' := by
  show Calls Tryz.prog 14 #[.agg #[.int .i64 q.kind, .int .i64 q.src, .int .i64 q.dst, .slice q.W q.nw q.cw, .int .i64 q.radius, .int .i64 q.most], .int .i64 slot] w _
  have hmf : ∀ (fn : Fn) (first cap : Array Value) (w : World), (Instr.makeFunc fn first cap).run Tryz.prog w = .ok (.func fn first cap) w := fun _ _ _ _ => rfl
  obtain ⟨W, hW⟩ : ∃ W, W = ((w.alloc (quBox q)).alloc (.cells #[.int .i64 slot] 3)).alloc (.cells #[.slice none 0 0] 34) := ⟨_, rfl⟩
  have hq : W.heap[w.heap.size]? = some (quBox q) := by
    rw [hW, Below.heap_alloc _ _ _ (by simp; omega), Below.heap_alloc _ _ _ (by simp)]
    exact w.alloc_heap_new _
  have hsl : W.heap[w.heap.size + 1]? = some (.cells #[.int .i64 slot] 3 (0, 0)) := by
    rw [hW, Below.heap_alloc _ _ _ (by simp)]
    have := (w.alloc (quBox q)).alloc_heap_new (.cells #[.int .i64 slot] 3)
    rw [World.size_alloc] at this
    exact this
  have hbx : Boxed W (w.heap.size + 2) 34 (.slice none 0 0) := by
    rw [hW]
    have := ((w.alloc (quBox q)).alloc (.cells #[.int .i64 slot] 3)).alloc_heap_new (.cells #[.slice none 0 0] 34)
    rw [World.size_alloc, World.size_alloc] at this
    exact this
  have hbel : Below w.heap.size w W := by rw [hW]; exact (below_two w _ _).trans ((below_one _ _).mono (by simp; omega))
  have hsz : w.heap.size ≤ W.heap.size := hbel.size
  have HQ := Lib.hid hq
  have HSL := Lib.hid hsl
  have HBX := Lib.hid hbx
  have HBE := Lib.hid hbel
  have HW := Lib.hid hW
  have hbc : ∀ (dir v : Int), Calls Tryz.prog 39 #[.int .i64 dir, .int .i64 v, .pointer (some ⟨w.heap.size + 2, 0, none⟩), .pointer (some ⟨w.heap.size + 1, 0, none⟩)] W fun e w' => e = .returned (.tuple #[]) ∧ BeginDone W (w.heap.size + 2) w.heap.size 0 ([] ++ [⟨slot, dir, v, 0⟩]) w' := fun dir v =>
    begin_c dir v slot (w.heap.size + 2) (w.heap.size + 1) w.heap.size none 0 0 [] W HBX.out (by rw [Lib.cell_of_heap HSL.out]; rfl) (by simpa [mv] using own_nil) (by omega) hsz (by omega)
  have HBC := Lib.hid hbc
  clear hW hq hsl hbx hbel hbc
  by_cases k1 : q.kind = 1
  · have g1 : (q.kind == 1) = true := by simpa using k1
    have hS : Hid (startM q.kind q.src q.dst slot = [⟨slot, 0, q.src, 0⟩, ⟨slot, 1, q.dst, 0⟩]) := if_pos k1
    clear k1
    go_enter Tryz.func14, Tryz.ntmps14
    go_wp2_with (fail)
    change Calls _ _ _ (((w.alloc (quBox q)).alloc (.cells #[.int .i64 slot] 3)).alloc (.cells #[.slice none 0 0] 34)) _
    rw [← HW.out]
    refine (HBC.out 0 q.src).mono ?_
    rintro e w1 ⟨rfl, hD⟩
    obtain ⟨A1, c1, hb1, ho1⟩ := hD.more
    have hq1 := hD.keep _ _ _ _ HQ.out (by decide) (by omega)
    have hs1 := hD.keep _ _ _ _ HSL.out (by decide) (by omega)
    have x2 : w1.cell? ⟨w.heap.size, 2, none⟩ = some (.int .i64 q.dst) := by rw [Lib.cell_of_heap hq1]; rfl
    have HBE1 := Lib.hid (HBE.out.trans hD.bel)
    have hs1c : w1.cell? ⟨w.heap.size + 1, 0, none⟩ = some (.int .i64 slot) := by rw [Lib.cell_of_heap hs1]; rfl
    have HC2 := Lib.hid (begin_c 1 q.dst slot (w.heap.size + 2) (w.heap.size + 1) w.heap.size A1 (0 + 1) c1 _ w1 hb1 hs1c ho1 (by omega) (Nat.le_trans hsz hD.size) (by omega))
    clear hb1 ho1 hq1 hs1 hD hs1c
    go_wp2_with (fail)
    refine Calls.mono HC2.out ?_
    rintro e w2 ⟨rfl, hD⟩
    obtain ⟨A2, c2, hb2, ho2⟩ := hD.more
    have x5 := Boxed.cell hb2
    have HB2 := Lib.hid (HBE1.out.trans hD.bel)
    have HO2 := Lib.hid ho2
    clear hb2 ho2 hD x2
    go_wp2_with (fail)
    go_ret
    refine ⟨A2, 2, c2, rfl, by rw [hS.out]; rfl, ?_, HB2.out⟩
    rw [hS.out]
    exact HO2.out
  have g1 : (q.kind == 1) = false := by simpa using k1
  by_cases k2 : q.kind = 2 ∨ q.kind = 3
  · have hS : Hid (startM q.kind q.src q.dst slot = [⟨slot, 0, q.src, 0⟩]) := by show _ = _; unfold startM; rw [if_neg k1, if_pos k2]
    rcases k2 with k2 | k2
    · have g2 : (q.kind == 2) = true := by simpa using k2
      clear k1 k2
      go_enter Tryz.func14, Tryz.ntmps14
      go_wp2_with (fail)
      change Calls _ _ _ (((w.alloc (quBox q)).alloc (.cells #[.int .i64 slot] 3)).alloc (.cells #[.slice none 0 0] 34)) _
      rw [← HW.out]
      refine (HBC.out 0 q.src).mono ?_
      rintro e w1 ⟨rfl, hD⟩
      obtain ⟨A2, c2, hb2, ho2⟩ := hD.more
      have x5 := Boxed.cell hb2
      have HB2 := Lib.hid (HBE.out.trans hD.bel)
      have HO2 := Lib.hid ho2
      clear hb2 ho2 hD
      go_wp2_with (fail)
      go_ret
      refine ⟨A2, 1, c2, rfl, by rw [hS.out]; rfl, ?_, HB2.out⟩
      rw [hS.out]
      exact HO2.out
    · have g2 : (q.kind == 2) = false := by simpa using (show q.kind ≠ 2 by omega)
      have g3 : (q.kind == 3) = true := by simpa using k2
      clear k1 k2
      go_enter Tryz.func14, Tryz.ntmps14
      go_wp2_with (fail)
      change Calls _ _ _ (((w.alloc (quBox q)).alloc (.cells #[.int .i64 slot] 3)).alloc (.cells #[.slice none 0 0] 34)) _
      rw [← HW.out]
      refine (HBC.out 0 q.src).mono ?_
      rintro e w1 ⟨rfl, hD⟩
      obtain ⟨A2, c2, hb2, ho2⟩ := hD.more
      have x5 := Boxed.cell hb2
      have HB2 := Lib.hid (HBE.out.trans hD.bel)
      have HO2 := Lib.hid ho2
      clear hb2 ho2 hD
      go_wp2_with (fail)
      go_ret
      refine ⟨A2, 1, c2, rfl, by rw [hS.out]; rfl, ?_, HB2.out⟩
      rw [hS.out]
      exact HO2.out
  · have hS : Hid (startM q.kind q.src q.dst slot = []) := by show _ = _; unfold startM; rw [if_neg k1, if_neg k2]
    have g2 : (q.kind == 2) = false := by simpa using (show q.kind ≠ 2 from fun h => k2 (.inl h))
    have g3 : (q.kind == 3) = false := by simpa using (show q.kind ≠ 3 from fun h => k2 (.inr h))
    have HBF := HBE.out
    rw [HW.out] at HBF
    have HBG := Lib.hid HBF
    clear k1 k2 HBF
    go_enter Tryz.func14, Tryz.ntmps14
    go_wp2_with (fail)
    go_ret
    exact ⟨none, 0, 0, rfl, by rw [hS.out]; rfl, by rw [hS.out]; exact own_nil, HBG.out⟩
end Go.Proofs.YtichoidkemeibaaGreat
