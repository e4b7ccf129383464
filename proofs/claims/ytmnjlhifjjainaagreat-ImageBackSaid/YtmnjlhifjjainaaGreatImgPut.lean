/-
  The program prints a graph.
-/
import Derived.Test.YtmnjlhifjjainaaGreatImgRows
namespace Go.Proofs.YtmnjlhifjjainaaGreat
open Go.RowKit

theorem elIntRow : Elem Tryz.prog 48 49 1 24 := Elem.mk_ Tryz.underlying48 (z := .slice none 0 0) (by kernel_rfl) rfl (by decide)
theorem infoIntRow : (Tryz.prog.info? 49).map (fun i => (i.zero, i.size, i.bytes)) = some (some (.slice none 0 0), 1, 24) := by kernel_rfl

set_option maxRecDepth 100000 in
set_option maxHeartbeats 1000000 in
theorem print_no (g : Gr) (A1 A2 : Option Addr) (n1 n2 c1 c2 : Nat) (vs : List Value) (w : World) (h : GrIn w w.heap.size g A1 n1 A2 n2 vs) (hb : Hid (sized g)) (hg : ¬ isG g) :
    Calls Tryz.prog 6 #[.agg #[.int .i64 g.n, .slice A1 n1 c1, .slice A2 n2 c2]] w fun e w' => e = .returned (.tuple #[.string (printS g), .int .i64 (printE g)]) ∧ Below w.heap.size w w' := by
  have HX := Lib.hid (boxed_new h c1 c2)
  have HG := Lib.hid hg
  clear h hg
  go_enter Tryz.func6, Tryz.ntmps6
  go_wp2_with (fail)
  refine (is_c g A1 A2 n1 n2 c1 c2 vs _ HX.out.in_ hb).mono ?_
  rintro e w1 ⟨rfl, hB1⟩
  have HX1 := Lib.hid (HX.out.step hB1)
  rw [decide_eq_false HG.out]
  clear hB1 HX
  go_wp2_with (fail)
  go_ret2
  refine ⟨?_, HX1.out.bel⟩
  unfold printS printE
  rw [if_neg HG.out, if_neg HG.out]
  rfl

set_option maxRecDepth 100000 in
set_option maxHeartbeats 8000000 in
theorem print_yes (g : Gr) (N : Nat) (hN : g.n = (N : Int)) (A1 A2 : Option Addr) (n1 n2 c1 c2 : Nat) (vs : List Value) (w : World) (h : GrIn w w.heap.size g A1 n1 A2 n2 vs) (hb : Hid (sized g)) (hg : isG g) :
    Calls Tryz.prog 6 #[.agg #[.int .i64 (N : Int), .slice A1 n1 c1, .slice A2 n2 c2]] w fun e w' => e = .returned (.tuple #[.string ⟨(imgB g).toArray⟩, .int .i64 0]) ∧ Below w.heap.size w w' := by
  have hn2 : n2 = N := by have e1 := h.len2; have e2 := hg.1.2.2.1; omega
  subst hn2
  have hN2 : n2 ≤ 200 := by have := hg.1.1.2; omega
  have L1 := Lib.hid h.len1
  have hn1 : n1 ≤ 2000 := by have e1 := h.len1; have e2 := hg.1.2.1; omega
  have HX := boxed_new h c1 c2
  have HG := Lib.hid hg
  have L2 := Lib.hid h.len2
  rw [hN] at HX
  have HX := Lib.hid HX
  have HN := Lib.hid hN
  obtain ⟨i0, hi0, hz0, hz1, hz2⟩ := info_parts infoIntRow
  clear h hg hN
  go_enter Tryz.func6, Tryz.ntmps6
  go_wp2_with (fail)
  refine (show Calls Tryz.prog 15 #[.agg #[.int .i64 (n2 : Int), .slice A1 n1 c1, .slice A2 n2 c2]] _ _ from HN.out ▸ is_c g A1 A2 n1 n2 c1 c2 vs _ HX.out.in_ hb).mono ?_
  rintro e w1 ⟨rfl, hB1⟩
  have HX1 := Lib.hid (HX.out.step hB1)
  rw [decide_eq_true HG.out]
  clear hB1 HX
  obtain ⟨q0, q1, q2⟩ := HX1.out.box.cells
  rw [HN.out] at q0
  go_wp2_with (at_make; refine wpList_make_full _ rfl _ _ 48 rfl w1.heap.size 49 i0 _ 1 Tryz.underlying48 hi0 hz0 hz1 _ _ _ _ n2 rfl rfl rfl rfl (by rw [hz2]; omega) (by unfold maxLen; omega) (Nat.le_refl _) ?_; intro w3 hown1 hg1; have hB3 : Below w1.heap.size w1 w3 := (Below.refl _ _).grown hg1 (Nat.le_refl _) (fun _ h => by cases h); have hX3 := HX1.out.stepB hB3 HX1.out.box.lt; obtain ⟨p0, p1, p2⟩ := hX3.box.cells; have HX3 := Lib.hid hX3; clear hX3)
  have hown : w3.ownsRow w1.heap.size 49 1 (.slice (some ⟨w1.heap.size, 0, none⟩) n2 n2) n2 (List.replicate n2 (.slice none 0 0)) := by
    have e := toList_madeCells_one (.slice none 0 0) n2
    rw [Nat.mul_one] at hown1
    exact e ▸ hown1
  have hbx : w.heap.size < w1.heap.size := HX1.out.box.lt
  obtain ⟨b, hb1⟩ : ∃ b, w1.heap.size = b := ⟨_, rfl⟩
  rw [hb1] at hown hB3 hbx ⊢
  clear hown1 hg1 q0 q1 q2 p0 p1 p2 HX3
  go_loopw [21] (fun i wr => ∃ (j : Nat) (us : List Value), j ≤ n1 ∧ i = .int .i64 j ∧ wr.ownsRow b 49 1 (.slice (some ⟨b, 0, none⟩) n2 n2) n2 us ∧
      RowsOwn wr (b + 1) 3 1 us (ivs (rowsL (g.es.take j) n2)) ∧ Below b w1 wr) (fun i _ => n1 - (intOf i).toNat)
  case atStart =>
    refine ⟨0, _, Nat.zero_le _, rfl, hown, ?_, hB3⟩
    rw [List.take_zero, rowsL_nil, ivs, List.map_replicate]
    exact rowsOwn_nils _ _ _ _ _
  case round =>
    clear hown hB3
    obtain ⟨j, us, hj, rfl, ho, hrs, hB⟩ := hrel
    have HXr := HX1.out.stepB hB hbx
    by_cases hlt : j < n1
    · obtain ⟨b1, o1, x, rfl, hx, d0, d1⟩ := HXr.gr.es.edge_at hlt
      have hpe := HG.out.1.2.2.2.1 x (List.mem_of_getElem? hx.out)
      obtain ⟨⟨hs1, hs2⟩, -⟩ := hpe
      obtain ⟨r, hr⟩ : ∃ r : Nat, x.src = (r : Int) := ⟨x.src.toNat, by omega⟩
      have hrlt : r < n2 := by have := HN.out; omega
      rw [hr] at d0
      have HR := Lib.hid hr
      have hrow : (ivs (rowsL (g.es.take j) n2))[r]? = some (iv (toOf (g.es.take j) r)) := ivs_get (rowsL_get _ hrlt)
      obtain ⟨Ar, mr, cr, hvr, hor0⟩ := hrs.at_ hrow
      have hal := Lib.hid (fun a ha => (own_lt hor0 a ha).2)
      have hor := own_below hor0 (below_one wr (.cells #[.int .i64 (r : Int), .int .i64 x.dst] 38))
      clear hr hs1 hs2 HXr hor0
      have ho4 := own_below ho (below_one wr (.cells #[.int .i64 (r : Int), .int .i64 x.dst] 38))
      have hrs4 := hrs.below (below_one wr (.cells #[.int .i64 (r : Int), .int .i64 x.dst] 38))
      have hsz : b ≤ wr.heap.size := Nat.le_trans (Nat.le_of_eq hb1.symm) hB.size
      have hBB := hB.alloc hsz (.cells #[.int .i64 (r : Int), .int .i64 x.dst] 38)
      obtain ⟨w4, hw4⟩ : ∃ w4, w4 = wr.alloc (.cells #[.int .i64 (r : Int), .int .i64 x.dst] 38) := ⟨_, rfl⟩
      have hbox : w4.heap[wr.heap.size]? = some (.cells #[.int .i64 (r : Int), .int .i64 x.dst] 38 (0, 0)) := by rw [hw4]; exact Array.getElem?_push_size
      have e0 : w4.cell? ⟨wr.heap.size, 0, none⟩ = some (.int .i64 (r : Int)) := by rw [Lib.cell_of_heap hbox]; rfl
      have e1 : w4.cell? ⟨wr.heap.size, 1, none⟩ = some (.int .i64 x.dst) := by rw [Lib.cell_of_heap hbox]; rfl
      have HW4 := Lib.hid hw4
      rw [← hw4] at ho4 hrs4 hBB hor
      have hsz4 : b ≤ w4.heap.size := by rw [hw4, World.size_alloc]; omega
      clear hbox ho hrs hB hw4
      have hcr := own_slice_at ho4 hvr
      have hfr := ho4.frozenAt r
      have hgl := (own_lt ho4 _ rfl).2
      have f3 : (0 : Int) ≤ (r : Int) := by omega
      have f4 : (r : Int) < (n2 : Int) := by omega
      have hmr : mr ≤ n1 := by
        have h1 := hor.1
        rw [iv_len] at h1
        have h2 := toOf_le (g.es.take j) r
        have h3 := List.length_take_le j g.es
        omega
      have hapo : Apart (some ⟨b, 0, none⟩) Ar := own_ne ho4 hor (by decide)
      have hB5 := below_one w4 (.cells #[.int .i64 x.dst] 3)
      have hwl : wr.heap.size < w4.heap.size := by rw [HW4.out, World.size_alloc]; omega
      have y0 : (w4.alloc (.cells #[.int .i64 x.dst] 3)).cell? ⟨wr.heap.size, 0, none⟩ = some (.int .i64 (r : Int)) := (hB5.cell (p := ⟨wr.heap.size, 0, none⟩) hwl).trans e0
      have y1 : (w4.alloc (.cells #[.int .i64 x.dst] 3)).cell? ⟨b, r, none⟩ = some (.slice Ar mr cr) := (hB5.cell (p := ⟨b, r, none⟩) hgl).trans hcr
      have y2 : (w4.alloc (.cells #[.int .i64 x.dst] 3)).frozen? ⟨b, r, none⟩ = false := (hB5.frozen (p := ⟨b, r, none⟩) hgl).trans hfr
      clear hB5
      have hfin : Hid (∀ (A4 : Option Addr) (c4 : Nat) (w5 : World), w5.ownsRow (b + 1) 3 1 (.slice A4 (mr + 1) c4) (mr + 1) (iv (toOf (g.es.take j) r) ++ #[Value.int .i64 x.dst].toList) → Pushed w4 w5 Ar A4 →
          w5.cell? ⟨b, r, none⟩ = some (.slice Ar mr cr) ∧ w5.frozen? ⟨b, r, none⟩ = false ∧ w5.cell? ⟨wr.heap.size, 0, none⟩ = some (.int .i64 (r : Int))) := fun A4 c4 w5 _ p5 => by
        have h := p5.keep ho4 hapo
        refine ⟨own_slice_at h hvr, h.frozenAt r, ?_⟩
        have hz : wr.heap.size < w4.heap.size := by rw [HW4.out, World.size_alloc]; omega
        have hne : some wr.heap.size ≠ Ar.map (·.block) := by
          intro h
          cases hA : Ar with
          | none => rw [hA] at h; cases h
          | some a => rw [hA] at h; simp at h; have := hal.out a hA; omega
        rw [World.cell?_of_block (p5.grown.block _ hz hne)]
        exact e0
      have hend : Hid (∀ (A4 : Option Addr) (c4 : Nat) (w5 : World), w5.ownsRow (b + 1) 3 1 (.slice A4 (mr + 1) c4) (mr + 1) (iv (toOf (g.es.take j) r) ++ #[Value.int .i64 x.dst].toList) → Pushed w4 w5 Ar A4 →
          (w5.setCell ⟨b, r, none⟩ (.slice A4 (mr + 1) c4)).ownsRow b 49 1 (.slice (some ⟨b, 0, none⟩) n2 n2) n2 (us.set r (.slice A4 (mr + 1) c4)) ∧
          RowsOwn (w5.setCell ⟨b, r, none⟩ (.slice A4 (mr + 1) c4)) (b + 1) 3 1 (us.set r (.slice A4 (mr + 1) c4)) (ivs (rowsL (g.es.take (j + 1)) n2)) ∧
          Below b w1 (w5.setCell ⟨b, r, none⟩ (.slice A4 (mr + 1) c4))) := fun A4 c4 w5 ho5 p5 => by
        have h := (p5.keep ho4 hapo).stored r (.slice A4 (mr + 1) c4)
        refine ⟨h.1, ?_, (p5.below hor hBB (by omega) hsz4).grown h.2 (Nat.le_trans hsz4 p5.larger) (fun g hg => by injection hg; omega)⟩
        have h2 := (hrs4.push hvr (by rw [ivs, List.length_map, rowsL_len]; exact hrlt) ho5 p5).only h.2 (Nat.lt_succ_self _)
        have e : ivs (rowsL (g.es.take (j + 1)) n2) = (ivs (rowsL (g.es.take j) n2)).set r (iv (toOf (g.es.take j) r) ++ #[Value.int .i64 x.dst].toList) := by
          rw [List.take_add_one, hx.out, Option.toList_some, rowsL_snoc _ _ HR.out hrlt, ivs, List.map_set, iv_append]
          simp [iv, ivs]
        rw [e]; exact h2
      clear hrow hrs4
      go_wp2_with (fail)
      rw [← HW4.out]
      go_region_law (first | (refine step_push_drew elInt rfl (.tmp 32) (.tmp 35) rfl hor rfl _ rfl rfl (one_int _ _) (by unfold maxLen; omega) (by omega) (by omega) ?_; intro A4 c4 w5 ho5 p5; obtain ⟨hc5, hf5, hc6⟩ := hfin.out A4 c4 w5 ho5 p5))
      all_goals
        go_wp2_with (fail)
        go_roundw
        case rel => exact ⟨j + 1, _, by omega, by go_num, hend.out A4 c4 w5 ho5 p5⟩
        case measure => simp [intOf]; omega
    · obtain rfl : n1 = j := by omega
      obtain ⟨wo, hwo⟩ : ∃ wo : World, wo = wr := ⟨_, rfl⟩
      subst hwo
      rw [List.take_of_length_le (by rw [L1.out]; exact Nat.le_refl _)] at hrs
      have hXr := HX1.out.stepB hB hbx
      have hgr := Lib.hid hXr.in_
      have hrd := Lib.hid hrs.reads
      have hblt : b < wo.heap.size := (own_lt ho _ rfl).2
      have hsl := Lib.hid (fun (v : Nat) (A : Option Addr) (n c : Nat) (h : us[v]? = some (.slice A n c)) => own_slice_at ho h)
      have hX5 := hXr.step (below_one wo (.cells #[.pointer none, .slice none 0 0] 53))
      obtain ⟨q0, q1, q2⟩ := hX5.box.cells
      rw [HN.out] at q0
      have hgn : good (n2 : Int) := ⟨by omega, by omega⟩
      have hbel := Lib.hid hXr.bel
      have hXR := Lib.hid hXr
      have hboxlt : w.heap.size < wo.heap.size := hXr.box.lt
      clear hXr hX5 hrs ho hB
      go_wp2_with (fail)
      refine (number_ok hgn _).mono ?_
      rintro e w6 ⟨rfl, hB6⟩
      have hib6 := Lib.hid (isB_below (isB_fresh wo) hB6)
      have hBB6 := Lib.hid ((below_one wo (.cells #[.pointer none, .slice none 0 0] 53)).trans (hB6.mono (by simp)))
      clear hB6 q0 q1 q2 hgn
      go_wp2_with (fail)
      refine (must_ok _ _).mono ?_
      rintro e w7 ⟨rfl, rfl⟩
      obtain ⟨s1, hs1⟩ : ∃ s : ByteArray, s = (⟨(numBytes n2).toArray⟩ : ByteArray) := ⟨_, rfl⟩
      have HS1 : Hid (s1.data.toList = numBytes n2) := by
        show _ = _
        rw [hs1]
      have hz1 : s1.size ≤ 5 := by
        have h1 := (numBytes_len n2).2
        rw [← HS1.out, size_list] at h1
        exact h1
      rw [← hs1]
      clear hs1
      have hov : ¬ 9223372036854775807 < 2 + s1.size := by omega
      go_wp2_with (fail)
      obtain ⟨s2, hs2⟩ : ∃ s : ByteArray, s = (⟨#[119, 103]⟩ : ByteArray) ++ s1 := ⟨_, rfl⟩
      have HS2 : Hid (s2.data.toList = [119, 103] ++ numBytes n2) := by
        show _ = _
        have e := cat_bytes [119, 103] s1
        rw [hs2]
        rw [show (⟨#[119, 103]⟩ : ByteArray) = ⟨([119, 103] : List UInt8).toArray⟩ from rfl, e, HS1.out]
      have hz2 : s2.size ≤ 7 := by
        rw [← size_list, HS2.out, List.length_append]
        have h1 := (numBytes_len n2).2
        simp
        omega
      rw [← hs2]
      clear hs2 hov
      have HZ2 : Hid (([] : List UInt8).length + s2.size ≤ 140737488355328) := by
        show _ ≤ _
        simp
        omega
      refine (writeString_c wo.heap.size wo.heap.size [] s2 _ hib6.out HZ2.out hBB6.out.size).mono ?_
      rintro e w8 ⟨rfl, hib8, hB8⟩
      rw [List.nil_append, HS2.out] at hib8
      have hBB8 := Lib.hid (hBB6.out.trans hB8)
      clear hB8 hib6 hBB6 HZ2 hz2 hz1
      obtain ⟨B, hBe⟩ : ∃ B, wo.heap.size = B := ⟨_, rfl⟩
      rw [hBe] at hib8 hBB8 hblt hboxlt hgr hrd ⊢
      have hX8 := hXR.out.stepB hBB8.out hboxlt
      obtain ⟨q0, q1, q2⟩ := hX8.box.cells
      rw [HN.out] at q0
      clear hX8
      go_wp2_with (fail)
      clear q0 q1 q2
      go_loopw [50] (fun i wq => ∃ v : Nat, v ≤ n2 ∧ i = .int .i64 v ∧ IsB wq B B ([119, 103] ++ (numBytes n2 ++ bodyB g v)) ∧ Below B wo wq) (fun i _ => n2 - (intOf i).toNat)
      case atStart => exact ⟨0, Nat.zero_le _, rfl, by rw [bodyB_zero, List.append_nil]; exact hib8, hBB8.out⟩
      case round =>
        clear hib8 hBB8
        obtain ⟨v, hv, rfl, hib, hBq⟩ := hrel
        have hBsz := hBq.size
        rw [hBe] at hBsz
        by_cases hvlt : v < n2
        · obtain ⟨A, n, c, l, hvs, hxl⟩ := hgr.out.row_is hvlt
          obtain ⟨b3, o3, rfl, d0, hn, hrw⟩ := (hgr.out.below hBq).row_of hvs.out hxl.out
          obtain ⟨A5, m5, c5, hu5, hm5, hr5⟩ := hrd.out.at_ (ivs_get (rowsL_get g.es hvlt))
          have d1 := (hBq.cell (p := ⟨b, v, none⟩) hblt).trans (hsl.out v A5 m5 c5 hu5)
          obtain ⟨hl8, hl4, hpl⟩ := isG_row HG.out hxl.out
          have hln := hrw.str_len
          have hn8 : n ≤ 8 := by omega
          have HR5 := Lib.hid ((hr5.below hBq).more hBsz)
          have HAG := Lib.hid (toOf_good HG.out.1 v)
          have HIB := Lib.hid hib
          have HBQ := Lib.hid hBq
          have HL := Lib.hid hln
          have HL4 := Lib.hid hl4
          have HPL := Lib.hid hpl
          have f4 : (v : Int) < (n2 : Int) := by omega
          clear hib hBq hr5 hrw hln hl4 hpl hl8 hu5 hm5 hn
          go_wp2_with (fail)
          refine (numbers_ok A5 m5 c5 (toOf g.es v) _ HR5.out HAG.out).mono ?_
          rintro e w9 ⟨rfl, hB9⟩
          have HIB9 := Lib.hid (isB_below HIB.out hB9)
          have HB9 := Lib.hid (HBQ.out.trans (hB9.mono hBsz))
          clear hB9 HIB HBQ HR5 d0 d1
          go_wp2_with (fail)
          refine (must_ok _ _).mono ?_
          rintro e w10 ⟨rfl, rfl⟩
          have hgn : good (n : Int) := ⟨by omega, by omega⟩
          go_wp2_with (fail)
          refine (number_ok hgn _).mono ?_
          rintro e w11 ⟨rfl, hB11⟩
          have hs9 := Nat.le_trans (Nat.le_of_eq hBe.symm) HB9.out.size
          have HIB11 := Lib.hid (isB_below HIB9.out hB11)
          have HB11 := Lib.hid (HB9.out.trans (hB11.mono hs9))
          clear hB11 HIB9 HB9 hgn hs9
          go_wp2_with (fail)
          refine (must_ok _ _).mono ?_
          rintro e w12 ⟨rfl, rfl⟩
          obtain ⟨t1, ht1⟩ : ∃ s : ByteArray, s = (⟨(rowBytes (toOf g.es v)).toArray⟩ : ByteArray) := ⟨_, rfl⟩
          obtain ⟨t2, ht2⟩ : ∃ s : ByteArray, s = (⟨(numBytes n).toArray⟩ : ByteArray) := ⟨_, rfl⟩
          have HT1 : Hid (t1.data.toList = rowBytes (toOf g.es v)) := by
            show _ = _
            rw [ht1]
          have HT2 : Hid (t2.data.toList = numBytes l.length) := by
            show _ = _
            rw [ht2, HL.out]
          have hz1 : t1.size ≤ 30000 := by
            rw [← size_list, HT1.out]
            unfold rowBytes
            have h1 := (numBytes_len (toOf g.es v).length).2
            have h2 := rowB_len (toOf g.es v)
            have h3 := HAG.out.1
            rw [List.length_append]
            omega
          have hz2 : t2.size ≤ 5 := by
            rw [← size_list, HT2.out]
            exact (numBytes_len l.length).2
          rw [← ht1, ← ht2]
          clear ht1 ht2
          have hov : ¬ 9223372036854775807 < t1.size + t2.size := by omega
          go_wp2_with (fail)
          obtain ⟨t3, ht3⟩ : ∃ s : ByteArray, s = t1 ++ t2 := ⟨_, rfl⟩
          have HT3 : Hid (t3.data.toList = rowBytes (toOf g.es v) ++ numBytes l.length) := by
            show _ = _
            have e := cat_bytes t1.data.toList t2
            have e2 : (⟨t1.data.toList.toArray⟩ : ByteArray) = t1 := by simp
            rw [e2] at e
            rw [ht3, e, HT1.out, HT2.out]
          have hz3 : t3.size ≤ 30005 := by
            rw [← size_list, HT3.out, List.length_append, ← HT1.out, ← HT2.out, size_list, size_list]
            omega
          rw [← ht3]
          clear ht3 hov
          have hpre := bodyB_len HG.out v (by rw [L2.out]; exact hv)
          have HZ : Hid (([119, 103] ++ (numBytes n2 ++ bodyB g v) : List UInt8).length + t3.size ≤ 140737488355328) := by
            show _ ≤ _
            have h1 := (numBytes_len n2).2
            rw [List.length_append, List.length_append]
            simp only [List.length_cons, List.length_nil]
            omega
          have hs11 := Nat.le_trans (Nat.le_of_eq hBe.symm) HB11.out.size
          refine (writeString_c B B _ t3 _ HIB11.out HZ.out hs11).mono ?_
          rintro e w13 ⟨rfl, hib13, hB13⟩
          have HB13 := Lib.hid (HB11.out.trans hB13)
          rw [HT3.out] at hib13
          clear hB13 HIB11 HB11 HZ hz1 hz2 hz3 hs11
          go_wp2_with (fail)
          go_loopw [73] (fun i wz => ∃ m : Nat, m ≤ n ∧ i = .int .i64 m ∧ IsB wz B B ([119, 103] ++ (numBytes n2 ++ bodyB g v) ++ (rowBytes (toOf g.es v) ++ numBytes l.length) ++ wordsB (l.take m)) ∧ Below B wo wz) (fun i _ => n - (intOf i).toNat)
          case atStart => exact ⟨0, Nat.zero_le _, rfl, by rw [List.take_zero, show wordsB [] = [] from rfl, List.append_nil]; exact hib13, HB13.out⟩
          case round =>
            clear hib13 HB13
            obtain ⟨m, hm, rfl, hib, hBz⟩ := hrel
            have hBsz := hBz.size
            rw [hBe] at hBsz
            by_cases hmn : m < n
            · obtain ⟨b3, o3, e3, d0, hn, hrw⟩ := (hgr.out.below hBz).row_of hvs.out hxl.out
              obtain ⟨b4, o4, s, rfl, hxs, d3⟩ := hrw.str_at hmn
              have hss := HL4.out s (List.mem_of_getElem? hxs.out)
              have HIB := Lib.hid hib
              have HBZ := Lib.hid hBz
              clear hib hBz hrw hn d0 e3
              go_wp2_with (fail)
              refine (text_ok hss _).mono ?_
              rintro e w14 ⟨rfl, hB14⟩
              have HIB14 := Lib.hid (isB_below HIB.out hB14)
              have HB14 := Lib.hid (HBZ.out.trans (hB14.mono hBsz))
              clear hB14 HIB HBZ d3
              go_wp2_with (fail)
              refine (must_ok _ _).mono ?_
              rintro e w15 ⟨rfl, rfl⟩
              have hs14 := Nat.le_trans (Nat.le_of_eq hBe.symm) HB14.out.size
              have hpre := bodyB_len HG.out v (by rw [L2.out]; exact hv)
              have HZ : Hid (([119, 103] ++ (numBytes n2 ++ bodyB g v) ++ (rowBytes (toOf g.es v) ++ numBytes l.length) ++ wordsB (l.take m) : List UInt8).length + (⟨(textStr s).data.toList.toArray⟩ : ByteArray).size ≤ 140737488355328) := by
                show _ ≤ _
                have h1 := (numBytes_len n2).2
                have h2 := (numBytes_len l.length).2
                have h3 := wordsB_len (l.take m) (fun w hw => HL4.out w (List.mem_of_mem_take hw))
                have h4 : (l.take m).length ≤ n := by rw [List.length_take]; omega
                have h5 := (numBytes_len (toOf g.es v).length).2
                have h6 := rowB_len (toOf g.es v)
                have h7 := HAG.out.1
                have h8 : (⟨(textStr s).data.toList.toArray⟩ : ByteArray).size ≤ 4005 := by
                  rw [← size_list]
                  show (textStr s).data.toList.length ≤ _
                  rw [textStr_list hss, List.length_append, size_list]
                  have := (numBytes_len s.size).2
                  omega
                unfold rowBytes
                simp only [List.length_append, List.length_cons, List.length_nil]
                omega
              go_wp2_with (fail)
              refine (writeString_c B B _ _ _ HIB14.out HZ.out hs14).mono ?_
              rintro e w16 ⟨rfl, hib16, hB16⟩
              have HB16 := Lib.hid (HB14.out.trans hB16)
              clear hB16 HIB14 HB14 HZ
              go_wp2_with (fail)
              go_roundw
              case rel =>
                refine ⟨m + 1, by omega, by go_num, ?_, HB16.out⟩
                rw [List.take_add_one, hxs.out, Option.toList_some, wordsB_snoc, ← List.append_assoc]
                exact hib16
              case measure => simp [intOf]; omega
            · obtain rfl : m = n := by omega
              have hfin : Hid (IsB wr B B ([119, 103] ++ (numBytes n2 ++ bodyB g (v + 1)))) := by
                show IsB _ _ _ _
                rw [bodyB_succ, HPL.out, placeB_part]
                rw [List.take_of_length_le (by rw [HL.out]; exact Nat.le_refl _)] at hib
                simpa only [List.append_assoc] using hib
              go_wp2_with (fail)
              go_roundw
              case rel => exact ⟨v + 1, by omega, by go_num, hfin.out, hBz⟩
              case measure => simp [intOf]; omega
        · obtain rfl : n2 = v := by omega
          have HIB := Lib.hid hib
          go_wp2_with (fail)
          refine (builderString_c B B _ _ HIB.out hBsz).mono ?_
          rintro e w9 ⟨rfl, hB9⟩
          have hBB := Lib.hid (hbel.out.trans ((hBq.trans hB9).mono (by omega)))
          clear hB9 hBq
          go_wp2_with (fail)
          go_ret2
          refine ⟨?_, hBB.out⟩
          unfold imgB
          rw [HN.out, Int.toNat_natCast, L2.out]
          rfl

theorem print_c (g : Gr) (A1 A2 : Option Addr) (n1 n2 c1 c2 : Nat) (vs : List Value) (w : World) (h : GrIn w w.heap.size g A1 n1 A2 n2 vs) (hb : Hid (sized g)) :
    Calls Tryz.prog 6 #[.agg #[.int .i64 g.n, .slice A1 n1 c1, .slice A2 n2 c2]] w fun e w' => e = .returned (.tuple #[.string (printS g), .int .i64 (printE g)]) ∧ Below w.heap.size w w' := by
  by_cases hg : isG g
  · obtain ⟨N, hN⟩ : ∃ N : Nat, g.n = (N : Int) := ⟨g.n.toNat, by have := hg.1.1.1; omega⟩
    have e := print_yes g N hN A1 A2 n1 n2 c1 c2 vs w h hb hg
    unfold printS printE
    rw [if_pos hg, if_pos hg, hN]
    exact e
  · exact print_no g A1 A2 n1 n2 c1 c2 vs w h hb hg
end Go.Proofs.YtmnjlhifjjainaaGreat
