/-
  A graph in memory of its own.
-/
import Derived.Test.YtmnjlhifjjainaaImgBox
namespace Go.Proofs.Ytmnjlhifjjainaa
open Go.RowKit

theorem own_end {a : Act} {w w5 : World} {g : Gr} {o n1 d3 n2 d4 : Nat} {A3 A4 : Option Addr} {us : List Value} (ht : a.tmps.getD 2 undef = .pointer (some ⟨o, 0, none⟩)) (hd : a.defers = [])
    (hQ : GAt w5 o g.n A3 n1 d3 A4 n2 d4) (hG : GrIn w5 w5.heap.size g A3 n1 A4 n2 us) (hB : Below w.heap.size w w5) :
    bodyPost Try.prog Try.f27 (fun e w' => ∃ A3 d3 A4 d4 us, e = .returned (.agg #[.int .i64 g.n, .slice A3 n1 d3, .slice A4 n2 d4]) ∧ GrIn w' w'.heap.size g A3 n1 A4 n2 us ∧ Below w.heap.size w w') Exit.ret a w5 := by
  obtain ⟨c0, c1, c2⟩ := hQ.cells
  refine bodyPost_ret (v := .agg #[.int .i64 g.n, .slice A3 n1 d3, .slice A4 n2 d4]) ?_ hd ?_
  · rw [Array.getD_eq_getD_getElem?] at ht
    simp [results, Try.results27, ht, c0, c1, c2, go_sem]
  · exact ⟨A3, d3, A4, d4, us, rfl, hG, hB⟩

set_option maxRecDepth 100000 in
set_option maxHeartbeats 4000000 in
theorem ownG_c (g : Gr) (A1 A2 : Option Addr) (n1 n2 c1 c2 : Nat) (vs : List Value) (w : World) (h : GrIn w w.heap.size g A1 n1 A2 n2 vs) (hn1 : n1 ≤ 1000000) (hn2 : n2 ≤ 1000000) (hw : Hid (∀ l ∈ g.ws, l.length ≤ 1000000)) :
    Calls Try.prog 27 #[.agg #[.int .i64 g.n, .slice A1 n1 c1, .slice A2 n2 c2]] w fun e w' =>
      ∃ A3 d3 A4 d4 us, e = .returned (.agg #[.int .i64 g.n, .slice A3 n1 d3, .slice A4 n2 d4]) ∧ GrIn w' w'.heap.size g A3 n1 A4 n2 us ∧ Below w.heap.size w w' := by
  have L1 := Lib.hid h.len1
  have L2 := Lib.hid h.len2
  have hx1 := (boxed_new h c1 c2).step (below_one _ (.cells #[.int .i64 0, .slice none 0 0, .slice none 0 0] 54))
  have hx2 := Lib.hid (hx1.step (below_one _ (.cells #[.int .i64 g.n, .slice none 0 0, .slice none 0 0] 54)))
  have hz := (GAt.new (w.alloc (.cells #[.int .i64 g.n, .slice A1 n1 c1, .slice A2 n2 c2] 54)) 0 none 0 0 none 0 0).below (below_one _ (.cells #[.int .i64 g.n, .slice none 0 0, .slice none 0 0] 54)) (GAt.new (w.alloc (.cells #[.int .i64 g.n, .slice A1 n1 c1, .slice A2 n2 c2] 54)) 0 none 0 0 none 0 0).lt
  have ho := GAt.new ((w.alloc (.cells #[.int .i64 g.n, .slice A1 n1 c1, .slice A2 n2 c2] 54)).alloc (.cells #[.int .i64 0, .slice none 0 0, .slice none 0 0] 54)) g.n none 0 0 none 0 0
  rw [World.size_alloc] at hz
  rw [World.size_alloc, World.size_alloc] at ho
  clear h hx1
  go_enter Try.func27, Try.ntmps27
  go_wp2_with (at_builtin; refine wpList_cat elEdges rfl _ _ rfl (own_nil (base := w.heap.size + 1 + 1 + 1)) rfl hx2.out.in_.es rfl (ev_one _) (by unfold maxLen; omega) (by omega) (by simp) ?_; intro A3 d3 w3 hoe p3; rw [Nat.zero_add] at hoe ⊢; rw [List.nil_append] at hoe; have ho3 := ho.below (p3.below0 (Below.refl (w.heap.size + 1 + 1 + 1) _) (by simp)) (Nat.lt_succ_self _); obtain ⟨e0, e1, e2⟩ := ho3.cells; have f1 := ho3.frozen 1)
  have hB3 := p3.below0 (Below.refl (w.heap.size + 1 + 1 + 1) _) (by simp)
  have hs3 := hoe.1
  have hB4 := (hB3.mono (Nat.le_succ (w.heap.size + 1 + 1))).setCell (p := ⟨w.heap.size + 1 + 1, 1, none⟩) (Nat.le_refl _) (.slice A3 n1 d3)
  have hX4 := Lib.hid (hx2.out.stepB hB4 (by omega))
  have hz4 := Lib.hid (hz.below hB4 (by omega))
  have ho4 := Lib.hid (ho3.set1 (A3 := A3) (d := n1) (e := d3))
  have he4 := Lib.hid (isF_own hoe (only_setCellS (only_refl w3 (some (w.heap.size + 1 + 1))) 1 (.slice A3 n1 d3)) (Nat.lt_succ_self _))
  clear hx2 hz ho hB3 hB4 p3 hoe ho3 e0 e1 e2 f1 hs3
  generalize w3.setCell ⟨w.heap.size + 1 + 1, 1, none⟩ (.slice A3 n1 d3) = w4 at *
  go_loopw [4] (fun i wr => ∃ (k : Nat) (A4 : Option Addr) (d4 : Nat) (us : List Value), k ≤ n2 ∧ i = .int .i64 k ∧ GAt wr (w.heap.size + 1 + 1) g.n A3 n1 d3 A4 k d4 ∧ GAt wr (w.heap.size + 1) 0 none 0 0 none 0 0 ∧
      wr.ownsRow (w.heap.size + 1 + 1 + 1) 97 2 (.slice A3 n1 d3) n1 (ev g.es) ∧ wr.ownsRow (w.heap.size + 1 + 1 + 1) 22 1 (.slice A4 k d4) k us ∧
      RowsOwn wr (w.heap.size + 1 + 1 + 1) 9 1 us (wv (g.ws.take k)) ∧ Boxed w w.heap.size g A1 n1 c1 A2 n2 c2 vs wr) (fun i _ => n2 - (intOf i).toNat)
  case atStart => exact ⟨0, none, 0, [], Nat.zero_le _, rfl, ho4.out, hz4.out, he4.out, own_nil, by rw [List.take_zero]; exact rowsOwn_nil _ _ _ _, hX4.out⟩
  case round =>
    clear hX4 hz4 ho4 he4
    obtain ⟨k, A4, d4, us, hk, rfl, ho, hz, he, hr, hrs, hx⟩ := hrel
    have hbz : w.heap.size + 1 + 1 + 1 ≤ wr.heap.size := ho.lt
    obtain ⟨q0, q1, q2⟩ := hx.box.cells
    obtain ⟨z0, z1, z2⟩ := hz.cells
    obtain ⟨e0, e1, e2⟩ := ho.cells
    by_cases hlt : k < n2
    · obtain ⟨b2, o2, A, n, c, l, rfl, hxl, d0, hn, hrd⟩ := hx.gr.row_at hlt
      have hln := hrd.str_len
      have hn6 : n ≤ 1000000 := by have := hw.out l (List.mem_of_getElem? hxl.out); omega
      have HRD := Lib.hid (hrd.more (Nat.le_of_lt hx.box.lt))
      have HX := Lib.hid hx
      clear hx hrd hn hln
      go_wp2_with (fail)
      refine (ownTexts_c A n c l _ HRD.out (by omega)).mono ?_
      rintro e w6 ⟨A7, c7, rfl, ho7, hB6⟩
      have ho6 := ho.below hB6 ho.lt
      have hz6 := Lib.hid (hz.below hB6 hz.lt)
      have he6 := Lib.hid (own_below he hB6)
      have hr6 := own_below hr hB6
      have hrs6 := Lib.hid (hrs.below hB6)
      have hX6 := Lib.hid (HX.out.step hB6)
      have hbz6 : w.heap.size + 1 + 1 + 1 ≤ w6.heap.size := ho6.lt
      have hap : Hid (Apart A7 A4) := own_ne ho7 hr6 (by decide)
      have hape : Hid (Apart A3 A4) := own_ne he6.out hr6 (by decide)
      have hapr : Hid (ApartAll us A7) := hrs.apart_base ho7 (Nat.le_refl _)
      have hapw : Hid (ApartAll us A4) := hrs6.out.apart_ne hr6 (by decide)
      have HO7 := Lib.hid ho7
      have HO6 := Lib.hid ho6
      obtain ⟨y0, y1, y2⟩ := ho6.cells
      clear ho hz he hr hrs HX HRD hB6 e0 e1 e2 q0 q1 q2 z0 z1 z2 d0 ho7 ho6
      go_wp2_with (at_builtin; refine wpList_push elRows rfl _ _ rfl hr6 rfl _ rfl rfl (one_slice _ _ _) (by unfold maxLen; omega) (by omega) hbz6 ?_; intro A8 c8 w8 hr8 p8; have ho8 := HO6.out.below (p8.below hr6 (Below.refl (w.heap.size + 1 + 1 + 1) w6) (Nat.le_refl _) hbz6) (Nat.lt_succ_self _); obtain ⟨x0, x1, x2⟩ := ho8.cells; have f2 := ho8.frozen 2)
      have hB8 := p8.below hr6 (Below.refl (w.heap.size + 1 + 1 + 1) w6) (Nat.le_refl _) hbz6
      have hB9 := (hB8.mono (Nat.le_succ (w.heap.size + 1 + 1))).setCell (p := ⟨w.heap.size + 1 + 1, 2, none⟩) (Nat.le_refl _) (.slice A8 (k + 1) c8)
      have hg9 := only_setCellS (only_refl w8 (some (w.heap.size + 1 + 1))) 2 (.slice A8 (k + 1) c8)
      have hend : Hid (GAt (w8.setCell ⟨w.heap.size + 1 + 1, 2, none⟩ (.slice A8 (k + 1) c8)) (w.heap.size + 1 + 1) g.n A3 n1 d3 A8 (k + 1) c8 ∧ GAt (w8.setCell ⟨w.heap.size + 1 + 1, 2, none⟩ (.slice A8 (k + 1) c8)) (w.heap.size + 1) 0 none 0 0 none 0 0 ∧
          (w8.setCell ⟨w.heap.size + 1 + 1, 2, none⟩ (.slice A8 (k + 1) c8)).ownsRow (w.heap.size + 1 + 1 + 1) 97 2 (.slice A3 n1 d3) n1 (ev g.es) ∧ (w8.setCell ⟨w.heap.size + 1 + 1, 2, none⟩ (.slice A8 (k + 1) c8)).ownsRow (w.heap.size + 1 + 1 + 1) 22 1 (.slice A8 (k + 1) c8) (k + 1) (us ++ [.slice A7 n c7]) ∧
          RowsOwn (w8.setCell ⟨w.heap.size + 1 + 1, 2, none⟩ (.slice A8 (k + 1) c8)) (w.heap.size + 1 + 1 + 1) 9 1 (us ++ [.slice A7 n c7]) (wv (g.ws.take (k + 1))) ∧ Boxed w w.heap.size g A1 n1 c1 (some ⟨b2, o2, none⟩) n2 c2 vs (w8.setCell ⟨w.heap.size + 1 + 1, 2, none⟩ (.slice A8 (k + 1) c8))) := by
        refine ⟨ho8.set2, hz6.out.below hB9 (by omega), isF_own (p8.keep he6.out hape.out) hg9 (Nat.lt_succ_self _), isF_own hr8 hg9 (Nat.lt_succ_self _), ?_, hX6.out.stepB hB9 (by omega)⟩
        have h1 := ((hrs6.out.kept p8 hapw.out).snoc (own_more (p8.keep HO7.out hap.out) hbz) hapr.out).only hg9 (Nat.lt_succ_self _)
        have e : wv (g.ws.take (k + 1)) = wv (g.ws.take k) ++ [sv l] := by
          rw [List.take_add_one, hxl.out, wv_append]
          rfl
        rw [e]; exact h1
      clear hB8 hB9 hg9 hr8 p8 ho8 x0 x1 x2 f2 y0 y1 y2 HO6 HO7 hX6 hrs6 he6 hz6 hap hape hapr hapw
      go_wp2_with (fail)
      go_roundw
      case rel => exact ⟨k + 1, A8, c8, us ++ [.slice A7 n c7], by omega, by go_num, hend.out⟩
      case measure => simp [intOf]; omega
    · obtain rfl : k = n2 := by omega
      rw [List.take_of_length_le (by rw [L2.out]; exact Nat.le_refl _)] at hrs
      have g0 := hz.frozen 0
      have g1 := hz.frozen 1
      have g2 := hz.frozen 2
      have HZ := Lib.hid hz
      have HX := Lib.hid hx
      have HE := Lib.hid he
      have HR := Lib.hid hr
      have HRS := Lib.hid hrs
      clear hz hx he hr hrs ho
      go_wp2_with (fail)
      refine (show bodyPost _ _ _ Exit.ret _ (putG wr (w.heap.size + 1) g.n A3 n1 d3 A4 k d4) from ?_)
      have hgp := putG_grown wr (w.heap.size + 1) g.n A3 n1 d3 A4 k d4
      have hz9 := putG_at HZ.out g.n A3 n1 d3 A4 k d4
      have h1 := isF_own HE.out hgp (by omega)
      have h2 := isF_own HR.out hgp (by omega)
      have h3 := HRS.out.only hgp (by omega)
      have hB9 := putG_below HX.out.bel (Nat.le_succ w.heap.size) g.n A3 n1 d3 A4 k d4
      generalize putG wr (w.heap.size + 1) g.n A3 n1 d3 A4 k d4 = w9 at hz9 h1 h2 h3 hB9 ⊢
      exact own_end (o := w.heap.size + 1) rfl rfl hz9 (grIn_own h1 h2 h3) hB9
end Go.Proofs.Ytmnjlhifjjainaa
