/-
  GetRequest, both sides; Id.
-/
import Derived.Test.YtmnjlhifjjainaaFrCatch
namespace Go.Proofs.Ytmnjlhifjjainaa
open Go.RowKit

theorem got_end {fn : Func} {a : Act} {w W : World} {s : ByteArray} {o c : Nat} {A : Option Addr} (hr : fn.results = #[.cell 2 26, .tmp 3]) (ht2 : a.tmps.getD 2 undef = .pointer (some ⟨o, 0, none⟩)) (ht3 : a.tmps.getD 3 undef = .int .i64 (gotErr s)) (hd : a.defers = [])
    (hx : RAt W o (gotReq s) A (gotReq s).q.words.length c) (ho : W.ownsRow w.heap.size 9 1 (.slice A (gotReq s).q.words.length c) (gotReq s).q.words.length (sv (gotReq s).q.words)) (hB : Below w.heap.size w W) :
    bodyPost Try.prog fn (fun e w' => GotReq w w' s e) Exit.ret a W := by
  obtain ⟨c0, c1, c2, c3, c4, c5, c6, c7⟩ := hx.cells
  refine bodyPost_ret (v := .tuple #[.agg #[.int .i64 (gotReq s).id, .int .i64 (gotReq s).kind, .int .i64 (gotReq s).q.kind, .int .i64 (gotReq s).q.src, .int .i64 (gotReq s).q.dst, .slice A (gotReq s).q.words.length c, .int .i64 (gotReq s).q.radius, .int .i64 (gotReq s).q.most], .int .i64 (gotErr s)]) ?_ hd ⟨A, c, rfl, ho, hB⟩
  rw [Array.getD_eq_getD_getElem?] at ht2 ht3
  simp [results, hr, ht2, ht3, c0, c1, c2, c3, c4, c5, c6, c7, go_sem]
set_option maxRecDepth 100000 in
set_option maxHeartbeats 1000000 in
theorem getRequest_c (s : ByteArray) (w : World) (hs : s.size ≤ 1000000) :
    Calls Try.prog 15 #[.string s] w fun e w' => GotReq w w' s e := by
  have hq0 := RAt.new w noR none 0 0
  have hB0 := below_one w (.cells #[.int .i64 0, .int .i64 0, .int .i64 0, .int .i64 0, .int .i64 0, .slice none 0 0, .int .i64 0, .int .i64 0] 26)
  go_enter Try.func15, Try.ntmps15
  go_wp2_with (fail)
  refine (readReq_c s _ hs).mono ?_
  rintro e w2 ⟨A, c, rfl, ho, hB⟩
  have hq := hq0.below hB (by simp)
  have hB2 := Lib.hid (hB0.trans (hB.mono hB0.size))
  have HO := Lib.hid ho
  have HQ := Lib.hid hq
  clear hB hB0 hq0 ho
  obtain ⟨d0, d1, d2, d3, d4, d5, d6, d7⟩ := hq.cells
  have g0 := hq.frozen 0
  have g1 := hq.frozen 1
  have g2 := hq.frozen 2
  have g3 := hq.frozen 3
  have g4 := hq.frozen 4
  have g5 := hq.frozen 5
  have g6 := hq.frozen 6
  have g7 := hq.frozen 7
  clear hq
  go_wp2_with (fail)
  refine (show bodyPost _ _ _ Exit.ret _ (putR w2 w.heap.size (gotReq s) A (gotReq s).q.words.length c) from ?_)
  have h1 := putR_at HQ.out (gotReq s) A (gotReq s).q.words.length c
  have h2 := putR_below hB2.out (Nat.le_refl _) (gotReq s) A (gotReq s).q.words.length c
  have h3 := own_more (base := w.heap.size) (isF_own (own_more (base := w.heap.size + 1) HO.out (by simp)) (putR_grown w2 w.heap.size (gotReq s) A (gotReq s).q.words.length c) (by omega)) (Nat.le_succ _)
  generalize putR w2 w.heap.size (gotReq s) A (gotReq s).q.words.length c = W at h1 h2 h3 ⊢
  exact got_end (o := w.heap.size) (A := A) (c := c) rfl rfl rfl rfl h1 h3 h2

theorem id_c (s : ByteArray) (w : World) (hs : s.size ≤ 1000000) :
    Calls Try.prog 23 #[.string s] w fun e w' => e = .returned (.tuple #[.int .i64 (anNum (rdAt s 0)), .bool (rdAt s 0).isSome]) ∧ Below w.heap.size w w' := by
  go_enter Try.func23, Try.ntmps23
  go_wp2_with (fail)
  refine (readNumberT s 0 _ hs).mono ?_
  rintro e w2 ⟨rfl, hB⟩
  go_wp2_with (fail)
  go_ret2
  exact ⟨rfl, hB⟩
theorem refId_c (s : ByteArray) (w : World) (hs : s.size ≤ 1000000) :
    Calls Try.prog 24 #[.string s] w fun e w' => e = .returned (.tuple #[.int .i64 (anNum (rdAt s 0)), .bool (rdAt s 0).isSome]) ∧ Below w.heap.size w w' := by
  go_enter Try.func24, Try.ntmps24
  go_wp2_with (fail)
  refine (refReadNumberT s 0 _ hs).mono ?_
  rintro e w2 ⟨rfl, hB⟩
  go_wp2_with (fail)
  go_ret2
  exact ⟨rfl, hB⟩

/-! The reference. -/
theorem CutAt.grown {w w' : World} {b g : Nat} {s : ByteArray} {p : Int} {bad : Bool} (h : CutAt w b s p bad) (hg : w.grownBy w' (some g)) (hne : b ≠ g) : CutAt w' b s p bad := (hg.block b h.lt (fun e => hne (by injection e))).trans h
theorem cutN_c (b : Nat) (s : ByteArray) (st : Int × Bool) (w : World) (hc : CutAt w b s st.1 st.2) (hs : s.size ≤ 1000000) :
    Calls Try.prog 49 #[.pointer (some ⟨b, 0, none⟩)] w fun e w' => ∃ x st', Hid (cN s st = (x, st')) ∧ e = .returned (.int .i64 x) ∧ CutAt w' b s st'.1 st'.2 ∧ w.grownBy w' (some b) := by
  refine (cutNumber_c b s st.1 st.2 w hc hs).mono ?_
  rintro e w' ⟨h1, h2, h3⟩
  exact ⟨_, _, rfl, h1, h2, h3⟩
theorem cutT_c (b : Nat) (s : ByteArray) (st : Int × Bool) (w : World) (hc : CutAt w b s st.1 st.2) (hs : s.size ≤ 1000000) :
    Calls Try.prog 50 #[.pointer (some ⟨b, 0, none⟩)] w fun e w' => ∃ x st', Hid (cT s st = (x, st')) ∧ e = .returned (.string x) ∧ CutAt w' b s st'.1 st'.2 ∧ w.grownBy w' (some b) := by
  refine (cutText_c b s st.1 st.2 w hc hs).mono ?_
  rintro e w' ⟨h1, h2, h3⟩
  exact ⟨_, _, rfl, h1, h2, h3⟩
theorem cT_bound {s x : ByteArray} {st st' : Int × Bool} (h : cT s st = (x, st')) : x.size ≤ 1000000 := by
  unfold cT at h
  injection h with h _
  subst h
  cases h2 : rdText s st.1 with
  | none => show (0 : Nat) ≤ _; omega
  | some y =>
    obtain ⟨y, q⟩ := y
    have := (rdText_same h2).2.2.2.1
    simp only [anText]
    omega
theorem mirQ_three {s : ByteArray} {st st3 st4 st' st5 st6 : Int × Bool} {a n r mm : Int} {m : Nat} {l : List ByteArray} (ha : cN s st = (a, st3)) (hn : cN s st3 = (n, st4)) (hm : min n.toNat 8 = m) (hw : cWs s m st4 = (l, st')) (hr : cN s st' = (r, st5)) (hmm : cN s st5 = (mm, st6)) : mirQ s 3 st = (⟨3, a, 0, l, r, mm⟩, st6) := by
  unfold mirQ
  rw [if_pos rfl]
  simp only [ha, hn, hm, hw, hr, hmm]
theorem got_not {s : ByteArray} {x : Req} {p : Int} {bad : Bool} (h : mir s = (x, p, bad)) (hn : bad = true ∨ ¬ mayReq x ∨ ¬ reqS x = s) : gotReq s = noR ∧ gotErr s = 220 := by
  refine got_none ?_
  rw [mir_iff, h]
  rw [if_neg]
  rintro ⟨a, b, c⟩
  rcases hn with hn | hn | hn
  · rw [hn] at a; cases a
  · exact hn b
  · exact hn c
theorem got_yes {s : ByteArray} {x : Req} {p : Int} (h : mir s = (x, p, false)) (h1 : mayReq x) (h2 : reqS x = s) : gotReq s = x ∧ gotErr s = 0 := by
  refine got_some ?_
  rw [mir_iff, h]
  rw [if_pos ⟨rfl, h1, h2⟩]
end Go.Proofs.Ytmnjlhifjjainaa
