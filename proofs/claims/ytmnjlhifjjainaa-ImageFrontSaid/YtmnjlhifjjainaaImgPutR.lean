/-
  The reference prints a graph.
-/
import Derived.Test.YtmnjlhifjjainaaImgRows
import Derived.Test.YtmnjlhifjjainaaImgIsR
namespace Go.Proofs.Ytmnjlhifjjainaa
open Go.RowKit

theorem cat_list (a b : ByteArray) : (a ++ b).data.toList = a.data.toList ++ b.data.toList := by
  have e := cat_bytes a.data.toList b
  have e2 : (⟨a.data.toList.toArray⟩ : ByteArray) = a := by simp
  rw [e2] at e
  rw [e]

set_option maxRecDepth 100000 in
set_option maxHeartbeats 2000000 in
theorem to_c (g : Gr) (v : Nat) (A1 A2 : Option Addr) (n1 n2 c1 c2 : Nat) (vs : List Value) (w : World) (h : GrIn w w.heap.size g A1 n1 A2 n2 vs) (hn1 : n1 ≤ 2000) :
    Calls Try.prog 66 #[.agg #[.int .i64 g.n, .slice A1 n1 c1, .slice A2 n2 c2], .int .i64 (v : Int)] w fun e w' =>
      ∃ A m c, e = .returned (.slice A m c) ∧ w'.ownsRow w.heap.size 3 1 (.slice A m c) m (iv (toOf g.es v)) ∧ Below w.heap.size w w' := by
  have L1 := Lib.hid h.len1
  have HX := Lib.hid (boxed_new h c1 c2)
  clear h
  go_enter Try.func66, Try.ntmps66
  go_wp2_with (fail)
  go_loopw [5, 6] (fun out i wr => ∃ (k m : Nat) (A : Option Addr) (c : Nat), k ≤ n1 ∧ i = .int .i64 k ∧ out = .slice A m c ∧ m ≤ k ∧ wr.ownsRow (w.heap.size + 1) 3 1 (.slice A m c) m (iv (toOf (g.es.take k) v)) ∧ Boxed w w.heap.size g A1 n1 c1 A2 n2 c2 vs wr) (fun _ i _ => n1 - (intOf i).toNat)
  case atStart => exact ⟨0, 0, none, 0, Nat.zero_le _, rfl, rfl, Nat.le_refl _, own_nil, HX.out⟩
  case round =>
    clear HX
    obtain ⟨k, m, A, c, hk, rfl, rfl, hmk, ho, hx⟩ := hrel
    obtain ⟨q0, q1, q2⟩ := hx.box.cells
    by_cases hlt : k < n1
    · obtain ⟨b1, o1, x, rfl, hxx, d0, d1⟩ := hx.gr.es.edge_at hlt
      have hstep : Hid (toOf (g.es.take (k + 1)) v = if x.src = v then toOf (g.es.take k) v ++ [x.dst] else toOf (g.es.take k) v) := by
        show _ = _
        rw [List.take_add_one, hxx.out, Option.toList_some, toOf_snoc]
      by_cases hs : x.src = v
      · have HS := Lib.hid hs
        have hs2 : (x.src == (v : Int)) = true := by rw [beq_iff_eq]; exact hs
        clear hs
        have hbw := hx.box.lt
        have HX := Lib.hid hx
        have HM := Lib.hid hmk
        clear hx
        go_wp2_with (at_builtin; refine wpList_push elInt rfl _ _ rfl ho rfl _ rfl rfl (one_int _ _) (by unfold maxLen; omega) (by omega) hbw ?_; intro A4 c4 w4 ho4 p4)
        go_roundw
        case rel =>
          refine ⟨k + 1, m + 1, A4, c4, by omega, by go_num, rfl, by omega, ?_, HX.out.stepB (p4.below ho (Below.refl _ _) (Nat.le_refl _) hbw) (Nat.lt_succ_self _)⟩
          rw [hstep.out, if_pos HS.out, iv_append, show iv [x.dst] = [Value.int .i64 x.dst] from rfl]
          exact ho4
        case measure => simp [intOf]; omega
      · have HS := Lib.hid hs
        have hs2 : (x.src == (v : Int)) = false := by rw [beq_eq_false_iff_ne]; exact hs
        clear hs
        have HX := Lib.hid hx
        have HM := Lib.hid hmk
        clear hx
        go_wp2_with (fail)
        go_roundw
        case rel =>
          refine ⟨k + 1, m, A, c, by omega, by go_num, rfl, by omega, ?_, HX.out⟩
          rw [hstep.out, if_neg HS.out]
          exact ho
        case measure => simp [intOf]; omega
    · have hf : Hid (g.es.take k = g.es) := List.take_of_length_le (by have := L1.out; omega)
      rw [hf.out] at ho
      have HX := Lib.hid hx
      clear hx
      go_wp2_with (fail)
      go_ret
      exact ⟨A, m, c, rfl, own_more ho (Nat.le_succ _), HX.out.bel⟩

set_option maxRecDepth 100000 in
set_option maxHeartbeats 1000000 in
theorem refPrint_no (g : Gr) (A1 A2 : Option Addr) (n1 n2 c1 c2 : Nat) (vs : List Value) (w : World) (h : GrIn w w.heap.size g A1 n1 A2 n2 vs) (hb : Hid (sized g)) (hg : ¬ isG g) :
    Calls Try.prog 29 #[.agg #[.int .i64 g.n, .slice A1 n1 c1, .slice A2 n2 c2]] w fun e w' => e = .returned (.tuple #[.string (printS g), .int .i64 (printE g)]) ∧ Below w.heap.size w w' := by
  have HX := Lib.hid (boxed_new h c1 c2)
  have HG := Lib.hid hg
  clear h hg
  go_enter Try.func29, Try.ntmps29
  go_wp2_with (fail)
  refine (refIs_c g A1 A2 n1 n2 c1 c2 vs _ HX.out.in_ hb).mono ?_
  rintro e w1 ⟨rfl, hB1⟩
  have HX1 := Lib.hid (HX.out.step hB1)
  rw [decide_eq_false HG.out]
  clear hB1 HX
  go_wp2_with (fail)
  go_ret2
  refine ⟨?_, HX1.out.bel⟩
  unfold printS printE
  rw [if_neg HG.out, if_neg HG.out]
  rfl

set_option maxRecDepth 100000 in
set_option maxHeartbeats 4000000 in
theorem refPrint_yes (g : Gr) (N : Nat) (hN : g.n = (N : Int)) (A1 A2 : Option Addr) (n1 n2 c1 c2 : Nat) (vs : List Value) (w : World) (h : GrIn w w.heap.size g A1 n1 A2 n2 vs) (hb : Hid (sized g)) (hg : isG g) :
    Calls Try.prog 29 #[.agg #[.int .i64 (N : Int), .slice A1 n1 c1, .slice A2 n2 c2]] w fun e w' => e = .returned (.tuple #[.string ⟨(imgB g).toArray⟩, .int .i64 0]) ∧ Below w.heap.size w w' := by
  have hn2 : n2 = N := by have e1 := h.len2; have e2 := hg.1.2.2.1; omega
  subst hn2
  have hN2 : n2 ≤ 200 := by have := hg.1.1.2; omega
  have hn1 : n1 ≤ 2000 := by have e1 := h.len1; have e2 := hg.1.2.1; omega
  have HX := boxed_new h c1 c2
  have HG := Lib.hid hg
  have L2 := Lib.hid h.len2
  rw [hN] at HX
  have HX := Lib.hid HX
  have HN := Lib.hid hN
  clear h hg hN
  go_enter Try.func29, Try.ntmps29
  go_wp2_with (fail)
  refine (show Calls Try.prog 63 #[.agg #[.int .i64 (n2 : Int), .slice A1 n1 c1, .slice A2 n2 c2]] _ _ from HN.out ▸ refIs_c g A1 A2 n1 n2 c1 c2 vs _ HX.out.in_ hb).mono ?_
  rintro e w1 ⟨rfl, hB1⟩
  have HX1 := Lib.hid (HX.out.step hB1)
  rw [decide_eq_true HG.out]
  clear hB1 HX
  obtain ⟨q0, q1, q2⟩ := HX1.out.box.cells
  rw [HN.out] at q0
  have hgn : good (n2 : Int) := ⟨by omega, by omega⟩
  go_wp2_with (fail)
  refine (refNumber_ok hgn _).mono ?_
  rintro e w3 ⟨rfl, hB3⟩
  have HX3 := Lib.hid (HX1.out.step hB3)
  clear hB3 HX1 q0 q1 q2 hgn
  rw [Int.toNat_natCast]
  obtain ⟨s1, hs1⟩ : ∃ s : ByteArray, s = (⟨(numBytes n2).toArray⟩ : ByteArray) := ⟨_, rfl⟩
  have HS1 : Hid (s1.data.toList = numBytes n2) := by
    show _ = _
    rw [hs1]
  have hz1 : s1.size ≤ 5 := by
    have h1 := (numBytes_len n2).2
    rw [← HS1.out, size_list] at h1
    exact h1
  rw [← hs1]
  clear hs1
  have hov : ¬ 9223372036854775807 < 2 + s1.size := by omega
  obtain ⟨q0, q1, q2⟩ := HX3.out.box.cells
  rw [HN.out] at q0
  go_wp2_with (fail)
  obtain ⟨s2, hs2⟩ : ∃ s : ByteArray, s = (⟨#[119, 103]⟩ : ByteArray) ++ s1 := ⟨_, rfl⟩
  have HS2 : Hid (s2.data.toList = [119, 103] ++ (numBytes n2 ++ bodyB g 0)) := by
    show _ = _
    rw [hs2, cat_list, HS1.out, bodyB_zero, List.append_nil]
  rw [← hs2]
  clear hs2 hov q0 q1 q2
  go_loopw [6, 7] (fun out i wq => ∃ (v : Nat) (s : ByteArray), v ≤ n2 ∧ i = .int .i64 v ∧ out = .string s ∧ Hid (s.data.toList = [119, 103] ++ (numBytes n2 ++ bodyB g v)) ∧ Boxed w w.heap.size g A1 n1 c1 A2 n2 c2 vs wq) (fun _ i _ => n2 - (intOf i).toNat)
  case atStart => exact ⟨0, s2, Nat.zero_le _, rfl, rfl, HS2.out, HX3.out⟩
  case round =>
    clear HX3 HS2
    obtain ⟨v, s, hv, rfl, rfl, hs, hx⟩ := hrel
    obtain ⟨q0, q1, q2⟩ := hx.box.cells
    rw [HN.out] at q0
    by_cases hvlt : v < n2
    · obtain ⟨A, n, c, l, hvs, hxl⟩ := hx.gr.row_is hvlt
      obtain ⟨hl8, hl4, hpl⟩ := isG_row HG.out hxl.out
      have HL4 := Lib.hid hl4
      have HPL := Lib.hid hpl
      have hssz : s.size ≤ 12000007 := by
        have h1 := bodyB_len HG.out v (by rw [L2.out]; exact hv)
        have h2 := (numBytes_len n2).2
        rw [← size_list, hs.out]
        simp only [List.length_append, List.length_cons, List.length_nil]
        omega
      have HX := Lib.hid hx
      clear hx hl4 hpl
      go_wp2_with (fail)
      refine (show Calls Try.prog 66 #[.agg #[.int .i64 (n2 : Int), .slice A1 n1 c1, .slice A2 n2 c2], .int .i64 (v : Int)] _ _ from HN.out ▸ to_c g v A1 A2 n1 n2 c1 c2 vs _ HX.out.in_ hn1).mono ?_
      rintro e w4 ⟨A5, m5, c5, rfl, ho5, hB4⟩
      have HX4 := Lib.hid (HX.out.step hB4)
      have HR5 := Lib.hid (own_reads ho5)
      have HAG := Lib.hid (toOf_good HG.out.1 v)
      clear hB4 HX ho5 q0 q1 q2
      go_wp2_with (fail)
      refine (refNumbers_ok A5 m5 c5 (toOf g.es v) _ HR5.out HAG.out).mono ?_
      rintro e w6 ⟨rfl, hB6⟩
      have HX6 := Lib.hid (HX4.out.step hB6)
      clear hB6 HX4 HR5
      obtain ⟨b3, o3, rfl, d0, hn, hrw⟩ := HX6.out.gr.row_of hvs.out hxl.out
      have hln := hrw.str_len
      have hn8 : n ≤ 8 := by omega
      have HL := Lib.hid hln
      obtain ⟨q0, q1, q2⟩ := HX6.out.box.cells
      have hgn : good (n : Int) := ⟨by omega, by omega⟩
      have f4 : (v : Int) < (n2 : Int) := by omega
      clear hrw hln hl8 hn
      go_wp2_with (fail)
      refine (refNumber_ok hgn _).mono ?_
      rintro e w7 ⟨rfl, hB7⟩
      have HX7 := Lib.hid (HX6.out.step hB7)
      clear hB7 HX6 hgn q0 q1 q2 d0
      rw [Int.toNat_natCast]
      obtain ⟨t1, ht1⟩ : ∃ s : ByteArray, s = (⟨(rowBytes (toOf g.es v)).toArray⟩ : ByteArray) := ⟨_, rfl⟩
      obtain ⟨t2, ht2⟩ : ∃ s : ByteArray, s = (⟨(numBytes n).toArray⟩ : ByteArray) := ⟨_, rfl⟩
      have HT1 : Hid (t1.data.toList = rowBytes (toOf g.es v)) := by
        show _ = _
        rw [ht1]
      have HT2 : Hid (t2.data.toList = numBytes l.length) := by
        show _ = _
        rw [ht2, HL.out]
      have hz1 : t1.size ≤ 30000 := by
        rw [← size_list, HT1.out]
        unfold rowBytes
        have h1 := (numBytes_len (toOf g.es v).length).2
        have h2 := rowB_len (toOf g.es v)
        have h3 := HAG.out.1
        rw [List.length_append]
        omega
      have hz2 : t2.size ≤ 5 := by
        rw [← size_list, HT2.out]
        exact (numBytes_len l.length).2
      rw [← ht1, ← ht2]
      clear ht1 ht2
      have hov1 : ¬ 9223372036854775807 < s.size + t1.size := by omega
      have hsz2 : (s ++ t1).size = s.size + t1.size := by rw [← size_list, cat_list, List.length_append, size_list, size_list]
      have hov2 : ¬ 9223372036854775807 < (s ++ t1).size + t2.size := by omega
      have hov3 : ¬ 9223372036854775807 < s.size + t1.size + t2.size := by omega
      clear hsz2
      obtain ⟨q0, q1, q2⟩ := HX7.out.box.cells
      go_wp2_with (fail)
      obtain ⟨t3, ht3⟩ : ∃ x : ByteArray, x = s ++ t1 ++ t2 := ⟨_, rfl⟩
      have HT3 : Hid (t3.data.toList = [119, 103] ++ (numBytes n2 ++ bodyB g v) ++ (rowBytes (toOf g.es v) ++ numBytes l.length) ++ wordsB (l.take 0)) := by
        show _ = _
        rw [ht3, cat_list, cat_list, hs.out, HT1.out, HT2.out, List.take_zero, show wordsB [] = [] from rfl, List.append_nil, List.append_assoc]
      rw [← ht3]
      clear ht3 hov1 hov2 hov3 hs hssz hz1 hz2 q0 q1 q2
      go_loopw [6, 12] (fun out i wz => ∃ (m : Nat) (s : ByteArray), m ≤ n ∧ i = .int .i64 m ∧ out = .string s ∧ Hid (s.data.toList = [119, 103] ++ (numBytes n2 ++ bodyB g v) ++ (rowBytes (toOf g.es v) ++ numBytes l.length) ++ wordsB (l.take m)) ∧ Boxed w w.heap.size g A1 n1 c1 (some ⟨b3, o3, none⟩) n2 c2 vs wz) (fun _ i _ => n - (intOf i).toNat)
      case atStart => exact ⟨0, t3, Nat.zero_le _, rfl, rfl, HT3.out, HX7.out⟩
      case round =>
        clear HX7 HT3
        obtain ⟨m, s, hm, rfl, rfl, hs, hx⟩ := hrel
        obtain ⟨q0, q1, q2⟩ := hx.box.cells
        obtain ⟨b4, o4, e4, d0, hn, hrw⟩ := hx.gr.row_of hvs.out hxl.out
        cases e4
        by_cases hmn : m < n
        · obtain ⟨b5, o5, t, rfl, hxs, d3⟩ := hrw.str_at hmn
          have hss := HL4.out t (List.mem_of_getElem? hxs.out)
          have HX := Lib.hid hx
          clear hx hrw hn
          go_wp2_with (fail)
          refine (refText_ok hss _).mono ?_
          rintro e w14 ⟨rfl, hB14⟩
          have HX14 := Lib.hid (HX.out.step hB14)
          clear hB14 HX d0 d3 q0 q1 q2
          obtain ⟨t1, ht1⟩ : ∃ s : ByteArray, s = (⟨(textStr t).data.toList.toArray⟩ : ByteArray) := ⟨_, rfl⟩
          have HT1 : Hid (t1.data.toList = (textStr t).data.toList) := by
            show _ = _
            rw [ht1]
          have hz1 : t1.size ≤ 4005 := by
            rw [← size_list, HT1.out, textStr_list hss, List.length_append, size_list]
            have := (numBytes_len t.size).2
            omega
          have hz2 : s.size ≤ 13000000 := by
            rw [← size_list, hs.out]
            have h0 := bodyB_len HG.out v (by rw [L2.out]; exact hv)
            have h1 := (numBytes_len n2).2
            have h2 := (numBytes_len l.length).2
            have h3 := wordsB_len (l.take m) (fun w hw => HL4.out w (List.mem_of_mem_take hw))
            have h4 : (l.take m).length ≤ n := by rw [List.length_take]; omega
            have h5 := (numBytes_len (toOf g.es v).length).2
            have h6 := rowB_len (toOf g.es v)
            have h7 := HAG.out.1
            unfold rowBytes
            simp only [List.length_append, List.length_cons, List.length_nil]
            omega
          have hov : ¬ 9223372036854775807 < s.size + t1.size := by omega
          have ht1' : (⟨(textStr t).data⟩ : ByteArray) = t1 := by rw [ht1]
          have ht1'' : textStr t = t1 := ht1'
          first | rw [← ht1] | rw [ht1'] | rw [ht1'']
          clear ht1 ht1' ht1''
          go_wp2_with (fail)
          go_roundw
          case rel =>
            refine ⟨m + 1, s ++ t1, by omega, by go_num, rfl, ?_, HX14.out⟩
            show _ = _
            rw [cat_list, hs.out, HT1.out, List.take_add_one, hxs.out, Option.toList_some, wordsB_snoc]
            simp only [List.append_assoc]
          case measure => simp [intOf]; omega
        · obtain rfl : m = n := by omega
          have hfin : Hid (s.data.toList = [119, 103] ++ (numBytes n2 ++ bodyB g (v + 1))) := by
            show _ = _
            rw [bodyB_succ, HPL.out, placeB_part, hs.out, List.take_of_length_le (by rw [HL.out]; exact Nat.le_refl _)]
            simp only [List.append_assoc]
          have HX := Lib.hid hx
          clear hx hrw
          go_wp2_with (fail)
          go_roundw
          case rel => exact ⟨v + 1, s, by omega, by go_num, rfl, hfin.out, HX.out⟩
          case measure => simp [intOf]; omega
    · obtain rfl : n2 = v := by omega
      have HX := Lib.hid hx
      have hfin : Hid (s = ⟨(imgB g).toArray⟩) := by
        show _ = _
        apply bytes_ext
        show _ = imgB g
        unfold imgB
        rw [hs.out, HN.out, Int.toNat_natCast, L2.out]
      clear hx
      go_wp2_with (fail)
      go_ret2
      exact ⟨by rw [← hfin.out]; rfl, HX.out.bel⟩

theorem refPrint_c (g : Gr) (A1 A2 : Option Addr) (n1 n2 c1 c2 : Nat) (vs : List Value) (w : World) (h : GrIn w w.heap.size g A1 n1 A2 n2 vs) (hb : Hid (sized g)) :
    Calls Try.prog 29 #[.agg #[.int .i64 g.n, .slice A1 n1 c1, .slice A2 n2 c2]] w fun e w' => e = .returned (.tuple #[.string (printS g), .int .i64 (printE g)]) ∧ Below w.heap.size w w' := by
  by_cases hg : isG g
  · obtain ⟨N, hN⟩ : ∃ N : Nat, g.n = (N : Int) := ⟨g.n.toNat, by have := hg.1.1.1; omega⟩
    have e := refPrint_yes g N hN A1 A2 n1 n2 c1 c2 vs w h hb hg
    unfold printS printE
    rw [if_pos hg, if_pos hg, hN]
    exact e
  · exact refPrint_no g A1 A2 n1 n2 c1 c2 vs w h hb hg
end Go.Proofs.Ytmnjlhifjjainaa
