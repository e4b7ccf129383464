/-
  rows.laid at the graphs of one edge: the walks. (Printed by genlaid.py.)
  graph.Turned and rows.Make at the graph of one edge: the walks.
-/
import Derived.Test.YtpdnipabaimofaaGreatJ05
import Derived.Test.YtpdnipabaimofaaGreatJ02
import Derived.Test.YtpdnipabaimofaaGreatJ38
import Derived.Deep.RegionLaw
import Derived.LoopN
namespace Go.Proofs.YtpdnipabaimofaaGreat
open Go.RowKit

theorem infoIntL : (Tryz.prog.info? 3).map (fun i => (i.zero, i.size, i.bytes)) = some (some (.int .i64 0), 1, 8) := by kernel_rfl

set_option maxRecDepth 100000 in
set_option maxHeartbeats 2000000 in
theorem laid_01 (A : Option Addr) (c : Nat) (w : World) (h : Reads w w.heap.size 2 A 1 (ev [⟨0, 1⟩])) :
    Calls Tryz.prog 19 #[.int .i64 2, .slice A 1 c] w fun e w' => ∃ A1 c1 A2 c2, e = .returned (.tuple #[.slice A1 3 c1, .slice A2 1 c2]) ∧ w'.ownsRow w.heap.size 3 1 (.slice A1 3 c1) 3 (iv [0, 1, 1]) ∧ w'.ownsRow w.heap.size 3 1 (.slice A2 1 c2) 1 (iv [1]) ∧ Below w.heap.size w w' := by
  have HR := Lib.hid h
  clear h
  obtain ⟨i0, hi0, hz0, hz1, hz2⟩ := info_parts infoIntL
  go_enter Tryz.func19, Tryz.ntmps19
  go_wp2_with (at_make; refine wpList_make_full _ rfl _ _ 25 rfl w.heap.size 3 i0 _ 1 Tryz.underlying25 hi0 hz0 hz1 _ _ _ _ 3 rfl rfl rfl rfl (by rw [hz2]; omega) (by unfold maxLen; omega) (Nat.le_refl _) ?_; intro w1 hown1 hg1)
  have hown : w1.ownsRow w.heap.size 3 1 (.slice (some ⟨w.heap.size, 0, none⟩) 3 3) 3 (iv [0, 0, 0]) := by
    have e : (madeCells (Value.int .i64 0).cells (3 * 1)).toList = iv [0, 0, 0] := by kernel_rfl
    rw [← e]; exact hown1
  have hB1 : Below w.heap.size w w1 := (Below.refl _ _).grown hg1 (Nat.le_refl _) (fun _ h => by cases h)
  clear hown1 hg1
  obtain ⟨b, o, x, rfl, hx, d0, d1⟩ := (HR.out.below hB1).edge_at (k := 0) (by omega)
  obtain rfl : x = ⟨0, 1⟩ := by have := hx.out; simp at this; exact this.symm
  simp only [Nat.zero_mul, Nat.add_zero] at d0 d1
  have hs1 : w.heap.size < w1.heap.size := (own_lt hown _ rfl).2
  obtain ⟨y, hy, cy⟩ := own_int_at hown (k := 1) (by omega)
  obtain rfl : y = 0 := by have := hy.out; simp at this; exact this.symm
  have fy := hown.frozenAt 1
  have hst := hown.stored 1 (.int .i64 1)
  have HST : Hid (((w1.setCell ⟨w.heap.size, 1, none⟩ (.int .i64 1)).alloc (.cells #[.int .i64 0, .int .i64 1] 48)).ownsRow w.heap.size 3 1 (.slice (some ⟨w.heap.size, 0, none⟩) 3 3) 3 (iv [0, 1, 0])) := World.ownsRow.alloc hst.1 (.cells #[.int .i64 0, .int .i64 1] 48)
  have hbs : Below w.heap.size w (w1.setCell ⟨w.heap.size, 1, none⟩ (.int .i64 1)) := hB1.grown hst.2 hB1.size (fun g hg => by injection hg with hg; omega)
  have HBS : Hid (Below w.heap.size w ((w1.setCell ⟨w.heap.size, 1, none⟩ (.int .i64 1)).alloc (.cells #[.int .i64 0, .int .i64 1] 48))) := hbs.trans ((below_one _ (.cells #[.int .i64 0, .int .i64 1] 48)).mono hbs.size)
  have hss : w.heap.size ≤ ((w1.setCell ⟨w.heap.size, 1, none⟩ (.int .i64 1)).alloc (.cells #[.int .i64 0, .int .i64 1] 48)).heap.size := HBS.out.size
  clear hown hB1 hx hy hst hbs
  refine wp_loop_rounds 2 ?_
  rw [rounds_succ]
  go_wp2_with (at_builtin; refine wpList_push elInt rfl _ _ rfl (own_nil (base := w.heap.size)) rfl _ rfl (by simp only [World.size_alloc, World.size_setCell]; rfl) (one_int _ 1) (by unfold maxLen; omega) (by omega) hss ?_; intro A4 c4 w4 ho4 p4)
  have ht4 : w4.ownsRow w.heap.size 3 1 (.slice A4 1 c4) 1 (iv [1]) := by simpa [iv] using ho4
  have HT4 := Lib.hid ht4
  have HO4 := Lib.hid (p4.keep HST.out Apart.none_right)
  have HB4 := Lib.hid (p4.below0 HBS.out hss)
  have hne : Apart (some ⟨w.heap.size, 0, none⟩) A4 := p4.apart HST.out Apart.none_right
  have HNE := Lib.hid hne
  clear ht4 ho4 p4 cy fy d0 d1 hs1 hss HST HBS hne
  rw [rounds_succ]
  go_wp2_with (fail)
  refine wp_loop_rounds 3 ?_
  have wr0 : IntKind.i64.wrap 0 = 0 := by decide
  have wr1 : IntKind.i64.wrap 1 = 1 := by decide
  have wr2 : IntKind.i64.wrap 2 = 2 := by decide
  obtain ⟨y0, hy0, cy0⟩ := own_int_at HO4.out (k := 0) (by omega)
  obtain rfl : y0 = 0 := by have := hy0.out; simp at this; exact this.symm
  obtain ⟨z0, hz0', cz0⟩ := own_int_at HO4.out (k := 1) (by omega)
  obtain rfl : z0 = 1 := by have := hz0'.out; simp at this; exact this.symm
  have fz0 := HO4.out.frozenAt 1
  have hsd0 := HO4.out.stored 1 (.int .i64 1)
  have ho5 : (w4.setCell ⟨w.heap.size, 1, none⟩ (.int .i64 1)).ownsRow w.heap.size 3 1 (.slice (some ⟨w.heap.size, 0, none⟩) 3 3) 3 (iv [0, 1, 0]) := hsd0.1
  have HO5 : Hid ((w4.setCell ⟨w.heap.size, 1, none⟩ (.int .i64 1)).drew.ownsRow w.heap.size 3 1 (.slice (some ⟨w.heap.size, 0, none⟩) 3 3) 3 (iv [0, 1, 0])) := ho5.drew
  have HT5 : Hid ((w4.setCell ⟨w.heap.size, 1, none⟩ (.int .i64 1)).drew.ownsRow w.heap.size 3 1 (.slice A4 1 c4) 1 (iv [1])) := (own_only HT4.out hsd0.2 (fun x hx e => HNE.out _ x rfl hx (by injection e with e; exact e.symm))).drew
  have HB5 : Hid (Below w.heap.size w (w4.setCell ⟨w.heap.size, 1, none⟩ (.int .i64 1)).drew) := (HB4.out.grown hsd0.2 HB4.out.size (fun g hg => by injection hg with hg; omega)).drew
  clear hy0 hz0' hsd0 ho5
  rw [rounds_succ]
  go_wp2_with (fail)
  go_region_law (fail)
  all_goals
    clear cy0 cz0 fz0 HO4 HT4 HB4
    generalize (w4.setCell ⟨w.heap.size, 1, none⟩ (.int .i64 1)).drew = w5 at *
    go_wp2_with (fail)
    obtain ⟨y1, hy1, cy1⟩ := own_int_at HO5.out (k := 1) (by omega)
    obtain rfl : y1 = 1 := by have := hy1.out; simp at this; exact this.symm
    obtain ⟨z1, hz1', cz1⟩ := own_int_at HO5.out (k := 2) (by omega)
    obtain rfl : z1 = 0 := by have := hz1'.out; simp at this; exact this.symm
    have fz1 := HO5.out.frozenAt 2
    have hsd1 := HO5.out.stored 2 (.int .i64 1)
    have ho6 : (w5.setCell ⟨w.heap.size, 2, none⟩ (.int .i64 1)).ownsRow w.heap.size 3 1 (.slice (some ⟨w.heap.size, 0, none⟩) 3 3) 3 (iv [0, 1, 1]) := hsd1.1
    have HO6 : Hid ((w5.setCell ⟨w.heap.size, 2, none⟩ (.int .i64 1)).drew.ownsRow w.heap.size 3 1 (.slice (some ⟨w.heap.size, 0, none⟩) 3 3) 3 (iv [0, 1, 1])) := ho6.drew
    have HT6 : Hid ((w5.setCell ⟨w.heap.size, 2, none⟩ (.int .i64 1)).drew.ownsRow w.heap.size 3 1 (.slice A4 1 c4) 1 (iv [1])) := (own_only HT5.out hsd1.2 (fun x hx e => HNE.out _ x rfl hx (by injection e with e; exact e.symm))).drew
    have HB6 : Hid (Below w.heap.size w (w5.setCell ⟨w.heap.size, 2, none⟩ (.int .i64 1)).drew) := (HB5.out.grown hsd1.2 HB5.out.size (fun g hg => by injection hg with hg; omega)).drew
    clear hy1 hz1' hsd1 ho6
    rw [rounds_succ]
    go_wp2_with (fail)
    go_region_law (fail)
    all_goals
      clear cy1 cz1 fz1 HO5 HT5 HB5
      generalize (w5.setCell ⟨w.heap.size, 2, none⟩ (.int .i64 1)).drew = w6 at *
      go_wp2_with (fail)
      rw [rounds_succ]
      go_wp2_with (fail)
      go_ret2
      exact ⟨_, _, _, _, rfl, HO6.out, HT6.out, HB6.out⟩

set_option maxRecDepth 100000 in
set_option maxHeartbeats 2000000 in
theorem laid_10 (A : Option Addr) (c : Nat) (w : World) (h : Reads w w.heap.size 2 A 1 (ev [⟨1, 0⟩])) :
    Calls Tryz.prog 19 #[.int .i64 2, .slice A 1 c] w fun e w' => ∃ A1 c1 A2 c2, e = .returned (.tuple #[.slice A1 3 c1, .slice A2 1 c2]) ∧ w'.ownsRow w.heap.size 3 1 (.slice A1 3 c1) 3 (iv [0, 0, 1]) ∧ w'.ownsRow w.heap.size 3 1 (.slice A2 1 c2) 1 (iv [0]) ∧ Below w.heap.size w w' := by
  have HR := Lib.hid h
  clear h
  obtain ⟨i0, hi0, hz0, hz1, hz2⟩ := info_parts infoIntL
  go_enter Tryz.func19, Tryz.ntmps19
  go_wp2_with (at_make; refine wpList_make_full _ rfl _ _ 25 rfl w.heap.size 3 i0 _ 1 Tryz.underlying25 hi0 hz0 hz1 _ _ _ _ 3 rfl rfl rfl rfl (by rw [hz2]; omega) (by unfold maxLen; omega) (Nat.le_refl _) ?_; intro w1 hown1 hg1)
  have hown : w1.ownsRow w.heap.size 3 1 (.slice (some ⟨w.heap.size, 0, none⟩) 3 3) 3 (iv [0, 0, 0]) := by
    have e : (madeCells (Value.int .i64 0).cells (3 * 1)).toList = iv [0, 0, 0] := by kernel_rfl
    rw [← e]; exact hown1
  have hB1 : Below w.heap.size w w1 := (Below.refl _ _).grown hg1 (Nat.le_refl _) (fun _ h => by cases h)
  clear hown1 hg1
  obtain ⟨b, o, x, rfl, hx, d0, d1⟩ := (HR.out.below hB1).edge_at (k := 0) (by omega)
  obtain rfl : x = ⟨1, 0⟩ := by have := hx.out; simp at this; exact this.symm
  simp only [Nat.zero_mul, Nat.add_zero] at d0 d1
  have hs1 : w.heap.size < w1.heap.size := (own_lt hown _ rfl).2
  obtain ⟨y, hy, cy⟩ := own_int_at hown (k := 2) (by omega)
  obtain rfl : y = 0 := by have := hy.out; simp at this; exact this.symm
  have fy := hown.frozenAt 2
  have hst := hown.stored 2 (.int .i64 1)
  have HST : Hid (((w1.setCell ⟨w.heap.size, 2, none⟩ (.int .i64 1)).alloc (.cells #[.int .i64 1, .int .i64 0] 48)).ownsRow w.heap.size 3 1 (.slice (some ⟨w.heap.size, 0, none⟩) 3 3) 3 (iv [0, 0, 1])) := World.ownsRow.alloc hst.1 (.cells #[.int .i64 1, .int .i64 0] 48)
  have hbs : Below w.heap.size w (w1.setCell ⟨w.heap.size, 2, none⟩ (.int .i64 1)) := hB1.grown hst.2 hB1.size (fun g hg => by injection hg with hg; omega)
  have HBS : Hid (Below w.heap.size w ((w1.setCell ⟨w.heap.size, 2, none⟩ (.int .i64 1)).alloc (.cells #[.int .i64 1, .int .i64 0] 48))) := hbs.trans ((below_one _ (.cells #[.int .i64 1, .int .i64 0] 48)).mono hbs.size)
  have hss : w.heap.size ≤ ((w1.setCell ⟨w.heap.size, 2, none⟩ (.int .i64 1)).alloc (.cells #[.int .i64 1, .int .i64 0] 48)).heap.size := HBS.out.size
  clear hown hB1 hx hy hst hbs
  refine wp_loop_rounds 2 ?_
  rw [rounds_succ]
  go_wp2_with (at_builtin; refine wpList_push elInt rfl _ _ rfl (own_nil (base := w.heap.size)) rfl _ rfl (by simp only [World.size_alloc, World.size_setCell]; rfl) (one_int _ 0) (by unfold maxLen; omega) (by omega) hss ?_; intro A4 c4 w4 ho4 p4)
  have ht4 : w4.ownsRow w.heap.size 3 1 (.slice A4 1 c4) 1 (iv [0]) := by simpa [iv] using ho4
  have HT4 := Lib.hid ht4
  have HO4 := Lib.hid (p4.keep HST.out Apart.none_right)
  have HB4 := Lib.hid (p4.below0 HBS.out hss)
  have hne : Apart (some ⟨w.heap.size, 0, none⟩) A4 := p4.apart HST.out Apart.none_right
  have HNE := Lib.hid hne
  clear ht4 ho4 p4 cy fy d0 d1 hs1 hss HST HBS hne
  rw [rounds_succ]
  go_wp2_with (fail)
  refine wp_loop_rounds 3 ?_
  have wr0 : IntKind.i64.wrap 0 = 0 := by decide
  have wr1 : IntKind.i64.wrap 1 = 1 := by decide
  have wr2 : IntKind.i64.wrap 2 = 2 := by decide
  obtain ⟨y0, hy0, cy0⟩ := own_int_at HO4.out (k := 0) (by omega)
  obtain rfl : y0 = 0 := by have := hy0.out; simp at this; exact this.symm
  obtain ⟨z0, hz0', cz0⟩ := own_int_at HO4.out (k := 1) (by omega)
  obtain rfl : z0 = 0 := by have := hz0'.out; simp at this; exact this.symm
  have fz0 := HO4.out.frozenAt 1
  have hsd0 := HO4.out.stored 1 (.int .i64 0)
  have ho5 : (w4.setCell ⟨w.heap.size, 1, none⟩ (.int .i64 0)).ownsRow w.heap.size 3 1 (.slice (some ⟨w.heap.size, 0, none⟩) 3 3) 3 (iv [0, 0, 1]) := hsd0.1
  have HO5 : Hid ((w4.setCell ⟨w.heap.size, 1, none⟩ (.int .i64 0)).drew.ownsRow w.heap.size 3 1 (.slice (some ⟨w.heap.size, 0, none⟩) 3 3) 3 (iv [0, 0, 1])) := ho5.drew
  have HT5 : Hid ((w4.setCell ⟨w.heap.size, 1, none⟩ (.int .i64 0)).drew.ownsRow w.heap.size 3 1 (.slice A4 1 c4) 1 (iv [0])) := (own_only HT4.out hsd0.2 (fun x hx e => HNE.out _ x rfl hx (by injection e with e; exact e.symm))).drew
  have HB5 : Hid (Below w.heap.size w (w4.setCell ⟨w.heap.size, 1, none⟩ (.int .i64 0)).drew) := (HB4.out.grown hsd0.2 HB4.out.size (fun g hg => by injection hg with hg; omega)).drew
  clear hy0 hz0' hsd0 ho5
  rw [rounds_succ]
  go_wp2_with (fail)
  go_region_law (fail)
  all_goals
    clear cy0 cz0 fz0 HO4 HT4 HB4
    generalize (w4.setCell ⟨w.heap.size, 1, none⟩ (.int .i64 0)).drew = w5 at *
    go_wp2_with (fail)
    obtain ⟨y1, hy1, cy1⟩ := own_int_at HO5.out (k := 1) (by omega)
    obtain rfl : y1 = 0 := by have := hy1.out; simp at this; exact this.symm
    obtain ⟨z1, hz1', cz1⟩ := own_int_at HO5.out (k := 2) (by omega)
    obtain rfl : z1 = 1 := by have := hz1'.out; simp at this; exact this.symm
    have fz1 := HO5.out.frozenAt 2
    have hsd1 := HO5.out.stored 2 (.int .i64 1)
    have ho6 : (w5.setCell ⟨w.heap.size, 2, none⟩ (.int .i64 1)).ownsRow w.heap.size 3 1 (.slice (some ⟨w.heap.size, 0, none⟩) 3 3) 3 (iv [0, 0, 1]) := hsd1.1
    have HO6 : Hid ((w5.setCell ⟨w.heap.size, 2, none⟩ (.int .i64 1)).drew.ownsRow w.heap.size 3 1 (.slice (some ⟨w.heap.size, 0, none⟩) 3 3) 3 (iv [0, 0, 1])) := ho6.drew
    have HT6 : Hid ((w5.setCell ⟨w.heap.size, 2, none⟩ (.int .i64 1)).drew.ownsRow w.heap.size 3 1 (.slice A4 1 c4) 1 (iv [0])) := (own_only HT5.out hsd1.2 (fun x hx e => HNE.out _ x rfl hx (by injection e with e; exact e.symm))).drew
    have HB6 : Hid (Below w.heap.size w (w5.setCell ⟨w.heap.size, 2, none⟩ (.int .i64 1)).drew) := (HB5.out.grown hsd1.2 HB5.out.size (fun g hg => by injection hg with hg; omega)).drew
    clear hy1 hz1' hsd1 ho6
    rw [rounds_succ]
    go_wp2_with (fail)
    go_region_law (fail)
    all_goals
      clear cy1 cz1 fz1 HO5 HT5 HB5
      generalize (w5.setCell ⟨w.heap.size, 2, none⟩ (.int .i64 1)).drew = w6 at *
      go_wp2_with (fail)
      rw [rounds_succ]
      go_wp2_with (fail)
      go_ret2
      exact ⟨_, _, _, _, rfl, HO6.out, HT6.out, HB6.out⟩

end Go.Proofs.YtpdnipabaimofaaGreat

namespace Go.Proofs.YtpdnipabaimofaaGreat
open Go.RowKit

def gr01 : Gr := ⟨2, [⟨0, 1⟩], [[], []]⟩
def gr10 : Gr := ⟨2, [⟨1, 0⟩], [[], []]⟩
theorem gr01_is : isG gr01 := by decide
theorem gr10_ok : checkG gr10 := by decide
theorem gr01_sized : sized gr01 := fun l hl x hx => by
  have : l = [] := by simp [gr01] at hl; exact hl
  subst this; simp at hx
theorem gr10_sized : sized gr10 := fun l hl x hx => by
  have : l = [] := by simp [gr10] at hl; exact hl
  subst this; simp at hx

set_option maxRecDepth 100000 in
set_option maxHeartbeats 4000000 in
theorem turned_c (A1 A2 : Option Addr) (c1 c2 : Nat) (vs : List Value) (w : World) (h : GrIn w w.heap.size gr01 A1 1 A2 2 vs) :
    Calls Tryz.prog 18 #[.agg #[.int .i64 2, .slice A1 1 c1, .slice A2 2 c2]] w fun e w' => ∃ B1 d1 B2 k2 d2, e = .returned (.tuple #[.agg #[.int .i64 2, .slice B1 1 d1, .slice B2 k2 d2], .int .i64 0]) ∧ Reads w' w'.heap.size 2 B1 1 (ev [⟨1, 0⟩]) ∧ Below w.heap.size w w' := by
  have hx := (boxed_new h c1 c2).step (below_oneG _ (.cells #[.int .i64 0, .slice none 0 0, .slice none 0 0] 52))
  have hz := GAt.new (w.alloc (.cells #[.int .i64 2, .slice A1 1 c1, .slice A2 2 c2] 52)) 0 none 0 0 none 0 0
  rw [World.size_alloc] at hz
  have HG := Lib.hid h
  have HX := Lib.hid hx
  have HZ := Lib.hid hz
  obtain ⟨q0, q1, q2⟩ := hx.box.cells
  clear hx hz h
  go_enter Tryz.func18, Tryz.ntmps18
  go_wp2_with (fail)
  refine (cloneE_c A1 1 c1 [⟨0, 1⟩] _ (HX.out.in_.es) (by omega)).mono ?_
  rintro e w1 ⟨B1, d1, rfl, ho1, hB1⟩
  have hx1 := HX.out.step hB1
  have hz1 := HZ.out.below hB1 HZ.out.lt
  have hbx1 : GAt w1 w.heap.size 2 A1 1 c1 A2 2 c2 := hx1.box
  obtain ⟨g, cap, hB, hgb⟩ := ho1.form (by omega)
  cases hB
  have hg2 := (own_lt ho1 _ rfl).1
  simp only [World.size_alloc] at hg2
  have hgl := (own_lt ho1 _ rfl).2
  simp only at hgl
  have hbx2 := hbx1.set1 (A3 := some ⟨g, 0, none⟩) (d := 1) (e := d1)
  have hgr2 : w1.grownBy (w1.setCell ⟨w.heap.size, 1, none⟩ (.slice (some ⟨g, 0, none⟩) 1 d1)) (some w.heap.size) := only_setCellS (only_refl w1 _) 1 _
  have ho2 := own_only ho1 hgr2 (fun a ha e => by cases ha; simp at e; omega)
  have hz2 := hz1.grown hgr2 (by intro e; injection e with e; omega)
  have hbel2 : Below w.heap.size w (w1.setCell ⟨w.heap.size, 1, none⟩ (.slice (some ⟨g, 0, none⟩) 1 d1)) := hx1.bel.setCell (p := ⟨w.heap.size, 1, none⟩) (Nat.le_refl _) _
  obtain ⟨t0, t1, t2⟩ := hbx1.cells
  have fb := hbx1.frozen 1
  have HBX2 := Lib.hid hbx2
  have HO2 := Lib.hid ho2
  have HZ2 := Lib.hid hz2
  have HB2 := Lib.hid hbel2
  have hgl2 : g < (w1.setCell ⟨w.heap.size, 1, none⟩ (.slice (some ⟨g, 0, none⟩) 1 d1)).heap.size := by simpa using hgl
  clear ho1 hB1 hx1 hz1 hbx1 hgb hbx2 hgr2 ho2 hz2 hbel2 HX HZ q0 q1 q2 hgl
  go_wp2_with (fail)
  generalize w1.setCell ⟨w.heap.size, 1, none⟩ (.slice (some ⟨g, 0, none⟩) 1 d1) = w2 at *
  clear t0 t1 t2 fb
  obtain ⟨t0, t1, t2⟩ := HBX2.out.cells
  obtain ⟨b', o', x, he, hx, d0, d1'⟩ := (own_reads HO2.out).edge_at (k := 0) (by omega)
  cases he
  obtain rfl : x = ⟨0, 1⟩ := by have := hx.out; simp at this; exact this.symm
  simp only [Nat.zero_mul, Nat.add_zero, Nat.zero_add] at d0 d1'
  have f0 := HO2.out.frozenAt 0
  have f1 := HO2.out.frozenAt 1
  have hs1 := HO2.out.stored 0 (.int .i64 1)
  have hs2 := hs1.1.stored 1 (.int .i64 0)
  have hgr3 : w2.grownBy ((w2.setCell ⟨g, 0, none⟩ (.int .i64 1)).setCell ⟨g, 1, none⟩ (.int .i64 0)) (some g) := only_setCellS (only_setCellS (only_refl w2 _) 0 _) 1 _
  have ho3 : ((w2.setCell ⟨g, 0, none⟩ (.int .i64 1)).setCell ⟨g, 1, none⟩ (.int .i64 0)).ownsRow (w.heap.size + 1 + 1) 48 2 (.slice (some ⟨g, 0, none⟩) 1 d1) 1 (ev [⟨1, 0⟩]) := by
    simpa [ev, ec] using hs2.1
  have hbx3 := HBX2.out.grown hgr3 (by intro e; injection e with e; omega)
  have hz3 := HZ2.out.grown hgr3 (by intro e; injection e with e; omega)
  have hb3 := HB2.out.grown hgr3 HB2.out.size (fun k hk => by injection hk with hk; omega)
  have HO3 := Lib.hid (World.ownsRow.alloc ho3 (.cells #[.int .i64 0, .int .i64 1] 48))
  have HBX3 := Lib.hid (hbx3.below (below_oneG _ (.cells #[.int .i64 0, .int .i64 1] 48)) hbx3.lt)
  have HZ3 := Lib.hid (hz3.below (below_oneG _ (.cells #[.int .i64 0, .int .i64 1] 48)) hz3.lt)
  have HB3 := Lib.hid (hb3.trans ((below_oneG _ (.cells #[.int .i64 0, .int .i64 1] 48)).mono hb3.size))
  have hwl : w.heap.size < w2.heap.size := HBX2.out.lt
  clear hx hs1 hs2 hgr3 ho3 hbx3 hz3 hb3 HO2 HBX2 HZ2 HB2
  refine wp_loop_rounds 2 ?_
  rw [rounds_succ]
  go_wp2_with (fail)
  generalize ((w2.setCell ⟨g, 0, none⟩ (.int .i64 1)).setCell ⟨g, 1, none⟩ (.int .i64 0)).alloc (.cells #[.int .i64 0, .int .i64 1] 48) = w3 at *
  clear t0 t1 t2 d0 d1' f0 f1 hgl2
  obtain ⟨t0, t1, t2⟩ := HBX3.out.cells
  have HGR : Hid (GrIn w3 w3.heap.size gr10 (some ⟨g, 0, none⟩) 1 A2 2 vs) := by
    have hg := HG.out.below HB3.out
    have hg3 := hg.more HB3.out.size
    exact ⟨own_reads HO3.out, hg3.rows, hg3.words, by unfold maxLen; omega, hg3.m2⟩
  rw [rounds_succ]
  go_wp2_with (fail)
  refine (normal_c gr10 (some ⟨g, 0, none⟩) A2 1 2 d1 c2 vs _ HGR.out gr10_sized).mono ?_
  rintro e w4 hN
  unfold NDone at hN
  rw [if_pos gr10_ok] at hN
  obtain ⟨g', B1, n1, e1, B2, n2, e2, us, rfl, hg', ⟨hn, hes⟩, hgr, hB4⟩ := hN
  have hes' : g'.es = [⟨1, 0⟩] := hes rfl
  have hn' : g'.n = 2 := hn
  have hn1 : n1 = 1 := by have h1 := hgr.len1; rw [hes'] at h1; exact h1.symm
  subst hn1
  have HR4 : Hid (Reads w4 w4.heap.size 2 B1 1 (ev [⟨1, 0⟩])) := by have h1 := hgr.es; rw [hes'] at h1; exact h1
  have hz4 := HZ3.out.below hB4 HZ3.out.lt
  have HB4 := Lib.hid (HB3.out.trans (hB4.mono HB3.out.size))
  rw [hn']
  have hp4 := putG_at hz4 2 B1 1 e1 B2 n2 e2
  have hs4 : w.heap.size + 1 < w4.heap.size := hz4.lt
  obtain ⟨z0, z1, z2⟩ := hz4.cells
  have fz0 := hz4.frozen 0
  have fz1 := hz4.frozen 1
  have fz2 := hz4.frozen 2
  have HP4 := Lib.hid hp4
  have hne : 0 < 1 → ∀ x, B1 = some x → some x.block ≠ some (w.heap.size + 1) := fun _ x hx e => by
    obtain ⟨b, o, y, he, hy, d0, d1'⟩ := HR4.out.edge_at (k := 0) (by omega)
    rw [hx] at he
    injection he with he
    subst he
    injection e with e
    subst e
    obtain rfl : y = ⟨1, 0⟩ := by have := hy.out; simp at this; exact this.symm
    unfold GAt at hz4
    rw [Lib.cell_of_heap hz4] at d0
    rcases o with _ | _ | _ | o <;> simp at d0
  have HRF := Lib.hid (HR4.out.grown_ (putG_grown w4 (w.heap.size + 1) 2 B1 1 e1 B2 n2 e2) (Nat.le_refl _) hne)
  have HBF := Lib.hid (putG_below HB4.out (Nat.le_succ w.heap.size) 2 B1 1 e1 B2 n2 e2)
  clear hne hn' hn hes hes' hgr hB4 hg' hz4 hp4 t0 t1 t2 HO3 HBX3 HZ3 HGR
  go_wp2_with (fail)
  refine (show bodyPost _ _ _ Exit.ret _ (putG w4 (w.heap.size + 1) 2 B1 1 e1 B2 n2 e2) from ?_)
  obtain ⟨y0, y1, y2⟩ := HP4.out.cells
  refine bodyPost_ret (v := .tuple #[.agg #[.int .i64 2, .slice B1 1 e1, .slice B2 n2 e2], .int .i64 0]) ?_ rfl ⟨B1, e1, B2, n2, e2, rfl, HRF.out.more (putG_grown w4 (w.heap.size + 1) 2 B1 1 e1 B2 n2 e2).size, HBF.out⟩
  simp [results, Tryz.results18, y0, y1, y2, go_sem]
end Go.Proofs.YtpdnipabaimofaaGreat
