/-
  GetReply, both sides.
-/
import Derived.Test.YtmnjlhifjjainaaFrCatchP
namespace Go.Proofs.Ytmnjlhifjjainaa
open Go.RowKit

theorem gotP_end {fn : Func} {a : Act} {w W : World} {s : ByteArray} {o c : Nat} {A : Option Addr} (hr : fn.results = #[.cell 2 40, .tmp 3]) (ht2 : a.tmps.getD 2 undef = .pointer (some ⟨o, 0, none⟩)) (ht3 : a.tmps.getD 3 undef = .int .i64 (gotErrP s)) (hd : a.defers = [])
    (hx : PAt W o (gotRep s) A (gotRep s).hits.length c) (ho : W.ownsRow w.heap.size 88 2 (.slice A (gotRep s).hits.length c) (gotRep s).hits.length (hv (gotRep s).hits)) (hB : Below w.heap.size w W) :
    bodyPost Try.prog fn (fun e w' => GotRep w w' s e) Exit.ret a W := by
  obtain ⟨c0, c1, c2, c3, c4⟩ := hx.cells
  refine bodyPost_ret (v := .tuple #[.agg #[.int .i64 (gotRep s).id, .int .i64 (gotRep s).code, .bool (gotRep s).found, .int .i64 (gotRep s).d, .slice A (gotRep s).hits.length c], .int .i64 (gotErrP s)]) ?_ hd ⟨A, c, rfl, ho, hB⟩
  rw [Array.getD_eq_getD_getElem?] at ht2 ht3
  simp [results, hr, ht2, ht3, c0, c1, c2, c3, c4, go_sem]
set_option maxRecDepth 100000 in
set_option maxHeartbeats 1000000 in
theorem getReply_c (s : ByteArray) (w : World) (hs : s.size ≤ 1000000) :
    Calls Try.prog 21 #[.string s] w fun e w' => GotRep w w' s e := by
  have hq0 := PAt.new w noP none 0 0
  have hB0 := below_one w (.cells #[.int .i64 0, .int .i64 0, .bool false, .int .i64 0, .slice none 0 0] 40)
  go_enter Try.func21, Try.ntmps21
  go_wp2_with (fail)
  refine (readRep_c s _ hs).mono ?_
  rintro e w2 ⟨A, c, rfl, ho, hB⟩
  have hq := hq0.below hB (by simp)
  have hB2 := Lib.hid (hB0.trans (hB.mono hB0.size))
  have HO := Lib.hid ho
  have HQ := Lib.hid hq
  clear hB hB0 hq0 ho
  obtain ⟨d0, d1, d2, d3, d4⟩ := hq.cells
  have g0 := hq.frozen 0
  have g1 := hq.frozen 1
  have g2 := hq.frozen 2
  have g3 := hq.frozen 3
  have g4 := hq.frozen 4
  clear hq
  go_wp2_with (fail)
  refine (show bodyPost _ _ _ Exit.ret _ (putP w2 w.heap.size (gotRep s) A (gotRep s).hits.length c) from ?_)
  have h1 := putP_at HQ.out (gotRep s) A (gotRep s).hits.length c
  have h2 := putP_below hB2.out (Nat.le_refl _) (gotRep s) A (gotRep s).hits.length c
  have h3 := own_more (base := w.heap.size) (isF_own (own_more (base := w.heap.size + 1) HO.out (by simp)) (putP_grown w2 w.heap.size (gotRep s) A (gotRep s).hits.length c) (by omega)) (Nat.le_succ _)
  generalize putP w2 w.heap.size (gotRep s) A (gotRep s).hits.length c = W at h1 h2 h3 ⊢
  exact gotP_end (o := w.heap.size) (A := A) (c := c) rfl rfl rfl rfl h1 h3 h2

theorem gotP_not {s : ByteArray} {x : Rep} {p : Int} {bad : Bool} (h : mirP s = (x, p, bad)) (hn : bad = true ∨ ¬ mayRep x ∨ ¬ repS x = s) : gotRep s = noP ∧ gotErrP s = 220 := by
  refine gotP_none ?_
  rw [mirP_iff, h]
  rw [if_neg]
  rintro ⟨a, b, c⟩
  rcases hn with hn | hn | hn
  · rw [hn] at a; cases a
  · exact hn b
  · exact hn c
theorem gotP_yes {s : ByteArray} {x : Rep} {p : Int} (h : mirP s = (x, p, false)) (h1 : mayRep x) (h2 : repS x = s) : gotRep s = x ∧ gotErrP s = 0 := by
  refine gotP_some ?_
  rw [mirP_iff, h]
  rw [if_pos ⟨rfl, h1, h2⟩]
theorem mirP_zero {s : ByteArray} {st1 st2 st3 st4 st5 st6 : Int × Bool} {i k f d n : Int} {m : Nat} {l : List Hit} (hi : cN s (0, false) = (i, st1)) (hk : cN s st1 = (k, st2)) (h0 : k = 0) (hf : cN s st2 = (f, st3)) (hd : cN s st3 = (d, st4)) (hn : cN s st4 = (n, st5)) (hm : min n.toNat 101 = m) (hl : cHs s m st5 = (l, st6)) :
    mirP s = (⟨i, k, decide (f = 1), d, l⟩, st6) := by
  unfold mirP
  simp only [hi, hk]
  rw [if_pos h0]
  simp only [hf, hd, hn, hm, hl]
theorem mirP_bad {s : ByteArray} {st1 st2 : Int × Bool} {i k : Int} (hi : cN s (0, false) = (i, st1)) (hk : cN s st1 = (k, st2)) (h0 : ¬ k = 0) : mirP s = (⟨i, k, false, 0, []⟩, st2) := by
  unfold mirP
  simp only [hi, hk]
  rw [if_neg h0]
set_option maxRecDepth 100000 in
set_option maxHeartbeats 2000000 in
theorem refGetP_bad (s : ByteArray) (w : World) (hs : s.size ≤ 1000000) (hkd : ¬ (cN s (cN s (0, false)).2).1 = 0) :
    Calls Try.prog 22 #[.string s] w fun e w' => GotRep w w' s e := by
  have hQ0 : PAt ((w.alloc (.cells #[.int .i64 0, .int .i64 0, .bool false, .int .i64 0, .slice none 0 0] 40)).alloc (.cells #[.string s, .int .i64 0, .bool false] 84)) w.heap.size noP none 0 0 := (PAt.new w noP none 0 0).below (below_one _ _) (PAt.new w noP none 0 0).lt
  have HC : Hid (CutAt ((w.alloc (.cells #[.int .i64 0, .int .i64 0, .bool false, .int .i64 0, .slice none 0 0] 40)).alloc (.cells #[.string s, .int .i64 0, .bool false] 84)) (w.heap.size + 1) s ((0 : Int), false).1 ((0 : Int), false).2) := by
    have : CutAt ((w.alloc (.cells #[.int .i64 0, .int .i64 0, .bool false, .int .i64 0, .slice none 0 0] 40)).alloc (.cells #[.string s, .int .i64 0, .bool false] 84)) (w.alloc (.cells #[.int .i64 0, .int .i64 0, .bool false, .int .i64 0, .slice none 0 0] 40)).heap.size s 0 false := Array.getElem?_push_size
    rw [World.size_alloc] at this
    exact this
  have hB0 : Below w.heap.size w ((w.alloc (.cells #[.int .i64 0, .int .i64 0, .bool false, .int .i64 0, .slice none 0 0] 40)).alloc (.cells #[.string s, .int .i64 0, .bool false] 84)) := below_two _ _ _
  go_enter Try.func22, Try.ntmps22
  go_wp2_with (fail)
  refine (cutN_c (w.heap.size + 1) s (0, false) _ HC.out hs).mono ?_
  rintro e wN ⟨i, st1, hi, rfl, hCN, hGN⟩
  have hQ1 := hQ0.grown hGN (by omega)
  have hB1 := hB0.trans (only_below hGN (by omega) hB0.size)
  clear hQ0 hB0 HC hGN
  have HC := Lib.hid hCN
  clear hCN
  go_wp2_with (fail)
  refine (cutN_c (w.heap.size + 1) s st1 _ HC.out hs).mono ?_
  rintro e wM ⟨k, st2, hk, rfl, hCM, hGM⟩
  have hQ2 := hQ1.grown hGM (by omega)
  have hB2 := hB1.trans (only_below hGM (by omega) hB1.size)
  clear hQ1 hB1 HC hGM
  have hbl := hCM.lt
  have HX := Lib.hid (PAt.new wM ⟨i, k, false, 0, []⟩ none 0 0)
  have HQ := Lib.hid (hQ2.below (below_one wM (.cells #[.int .i64 i, .int .i64 k, .bool false, .int .i64 0, .slice none 0 0] 40)) hQ2.lt)
  have HC := Lib.hid (hCM.below (below_one wM (.cells #[.int .i64 i, .int .i64 k, .bool false, .int .i64 0, .slice none 0 0] 40)))
  have HB := Lib.hid (hB2.alloc hB2.size (.cells #[.int .i64 i, .int .i64 k, .bool false, .int .i64 0, .slice none 0 0] 40))
  have HO : Hid ((wM.alloc (.cells #[.int .i64 i, .int .i64 k, .bool false, .int .i64 0, .slice none 0 0] 40)).ownsRow (wM.heap.size + 1) 88 2 (.slice none 0 0) 0 (hv [])) := own_nil
  clear hQ2 hCM hB2
  have hkv : (cN s (cN s (0, false)).2).1 = k := by rw [hi.out]; simp only [hk.out]
  rw [hkv] at hkd
  have e0 : (k == 0) = false := by simpa using hkd
  have HM := Lib.hid (mirP_bad hi.out hk.out hkd)
  have hlen : Hid ((⟨i, k, false, 0, []⟩ : Rep).hits.length = 0) := rfl
  have hmax : Hid (0 ≤ maxLen) := Nat.zero_le _
  clear hkd hkv
  generalize st2 = px at *
  try clear c0 c1 c2 c3 c4 hf
  obtain ⟨c0, c1, c2, c3, c4⟩ := HX.out.cells
  go_wp2_with (fail)
  refine (refPutReply_c ⟨i, k, false, 0, []⟩ none 0 0 _ (own_reads HO.out) hmax.out).mono ?_
  rintro e w9 ⟨rfl, hB9⟩
  have HX9 := Lib.hid (HX.out.below hB9 HX.out.lt)
  have HQ9 := Lib.hid (HQ.out.below hB9 HQ.out.lt)
  have hC9 := HC.out.below hB9
  have HO9 := Lib.hid (own_below HO.out hB9)
  have HB9 := Lib.hid (HB.out.trans (hB9.mono HB.out.size))
  clear hB9 c0 c1 c2 c3 c4
  obtain ⟨c0, c1, c2, c3, c4⟩ := HX9.out.cells
  obtain ⟨u0, u1, u2⟩ := hC9.cells
  obtain ⟨d0, d1, d2, d3, d4⟩ := HQ9.out.cells
  have g0 := HQ9.out.frozen 0
  have g1 := HQ9.out.frozen 1
  have g2 := HQ9.out.frozen 2
  have g3 := HQ9.out.frozen 3
  have g4 := HQ9.out.frozen 4
  clear hC9
  obtain ⟨px, bad⟩ := px
  rcases bad with _ | _
  rotate_left
  · have HN := Lib.hid (gotP_not HM.out (.inl rfl))
    go_wp2_with (fail)
    refine (show bodyPost _ _ _ Exit.ret _ (putP w9 w.heap.size noP none 0 0) from ?_)
    have h1 := putP_at HQ9.out noP none 0 0
    have h2 := putP_below HB9.out (Nat.le_refl _) noP none 0 0
    generalize putP w9 w.heap.size noP none 0 0 = W at h1 h2 ⊢
    obtain ⟨k1, k2⟩ := HN.out
    rw [← k1] at h1
    refine gotP_end (o := w.heap.size) (A := none) (c := 0) rfl rfl (by rw [k2]; rfl) rfl (by rw [k1] at h1 ⊢; exact h1) (by rw [k1]; exact own_nil) h2
  by_cases hm : mayRep ⟨i, k, false, 0, []⟩
  rotate_left
  · have HN := Lib.hid (gotP_not HM.out (.inr (.inl hm)))
    have her : repErr ⟨i, k, false, 0, []⟩ = 1 := if_neg hm
    rw [her]
    clear hm her
    go_wp2_with (fail)
    refine (show bodyPost _ _ _ Exit.ret _ (putP w9 w.heap.size noP none 0 0) from ?_)
    have h1 := putP_at HQ9.out noP none 0 0
    have h2 := putP_below HB9.out (Nat.le_refl _) noP none 0 0
    generalize putP w9 w.heap.size noP none 0 0 = W at h1 h2 ⊢
    obtain ⟨k1, k2⟩ := HN.out
    rw [← k1] at h1
    refine gotP_end (o := w.heap.size) (A := none) (c := 0) rfl rfl (by rw [k2]; rfl) rfl (by rw [k1] at h1 ⊢; exact h1) (by rw [k1]; exact own_nil) h2
  have her : repErr ⟨i, k, false, 0, []⟩ = 0 := if_pos hm
  rw [her]
  by_cases ht : repS ⟨i, k, false, 0, []⟩ = s
  · have HN := Lib.hid (gotP_yes HM.out hm ht)
    rw [ht]
    have hts : (s.toList == s.toList) = true := by simp
    have htn : (s.toList != s.toList) = false := by simp
    clear hm her ht
    go_wp2_with (fail)
    refine (show bodyPost _ _ _ Exit.ret _ (putP w9 w.heap.size ⟨i, k, false, 0, []⟩ none 0 0) from ?_)
    have h1 := putP_at HQ9.out ⟨i, k, false, 0, []⟩ none 0 0
    have h2 := putP_below HB9.out (Nat.le_refl _) ⟨i, k, false, 0, []⟩ none 0 0
    have h3 := own_more (base := w.heap.size) (isF_own (own_more (base := w.heap.size + 1) HO9.out (by omega)) (putP_grown w9 w.heap.size ⟨i, k, false, 0, []⟩ none 0 0) (by omega)) (Nat.le_succ _)
    generalize putP w9 w.heap.size ⟨i, k, false, 0, []⟩ none 0 0 = W at h1 h2 h3 ⊢
    obtain ⟨k1, k2⟩ := HN.out
    have hlk : (gotRep s).hits.length = 0 := by rw [k1]; exact hlen.out
    refine gotP_end (o := w.heap.size) (A := none) (c := 0) rfl rfl (by rw [k2]; rfl) rfl (by rw [hlk, k1]; exact h1) (by rw [hlk, k1]; exact h3) h2
  · have HN := Lib.hid (gotP_not HM.out (.inr (.inr ht)))
    obtain ⟨tx, htx⟩ : ∃ tx, tx = repS ⟨i, k, false, 0, []⟩ := ⟨_, rfl⟩
    rw [← htx] at ht ⊢
    have hts : (tx.toList == s.toList) = false := by rw [bytes_beq]; exact decide_eq_false ht
    have htn : (tx.toList != s.toList) = true := by unfold bne; rw [hts]; rfl
    clear hm her ht htx
    go_wp2_with (fail)
    refine (show bodyPost _ _ _ Exit.ret _ (putP w9 w.heap.size noP none 0 0) from ?_)
    have h1 := putP_at HQ9.out noP none 0 0
    have h2 := putP_below HB9.out (Nat.le_refl _) noP none 0 0
    generalize putP w9 w.heap.size noP none 0 0 = W at h1 h2 ⊢
    obtain ⟨k1, k2⟩ := HN.out
    rw [← k1] at h1
    refine gotP_end (o := w.heap.size) (A := none) (c := 0) rfl rfl (by rw [k2]; rfl) rfl (by rw [k1] at h1 ⊢; exact h1) (by rw [k1]; exact own_nil) h2
end Go.Proofs.Ytmnjlhifjjainaa
