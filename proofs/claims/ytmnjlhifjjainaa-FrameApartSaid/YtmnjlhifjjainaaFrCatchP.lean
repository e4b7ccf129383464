/-
  The program reads a reply: what is thrown is caught.
-/
import Derived.Test.YtmnjlhifjjainaaFrGetP
namespace Go.Proofs.Ytmnjlhifjjainaa
open Go.RowKit

set_option maxRecDepth 100000 in
set_option maxHeartbeats 1000000 in
theorem catchP_idle (o oe : Nat) (w : World) :
    CallsD Try.prog 93 #[.pointer (some ⟨o, 0, none⟩), .pointer (some ⟨oe, 0, none⟩)] .returning w fun e u' w' => e = .returned (.tuple #[]) ∧ u' = .returning ∧ w' = w := by
  refine callsD_of_wpS Try.func93 rfl fun c₀ cs hu => ?_
  simp only [Try.ntmps93, List.size_toArray, List.length_cons, List.length_nil, Nat.reduceAdd, Nat.reduceSub, Array.replicate_succ, Array.replicate_zero, List.push_toArray, List.append_toArray, List.nil_append, List.cons_append]
  apply wpS_seq
  apply wpS_region
  simp [wpOpsS, go_sem, recoverD, hu, Exit.thenS, ta_nil]
  refine wpS_of_wp ?_
  go_wp2
  cases c₀
  simp_all [bodyPostS, results, Try.results93]

set_option maxRecDepth 100000 in
set_option maxHeartbeats 1000000 in
theorem catchP_thrown (o oe n0 k0 : Nat) (x0 : Rep) (A0 : Option Addr) (v0 : Int) (w : World) (hx : PAt w o x0 A0 n0 k0) (he : EAt w oe v0) (hne : ¬ oe = o) :
    CallsD Try.prog 93 #[.pointer (some ⟨o, 0, none⟩), .pointer (some ⟨oe, 0, none⟩)] (.panicking [{ v := .iface 28 (.int .i64 220), recovered := false }]) w
      fun e u' w' => e = .returned (.tuple #[]) ∧ u' = .panicking [{ v := .iface 28 (.int .i64 220), recovered := true }] ∧ w' = ((putP w o noP none 0 0).setCell ⟨oe, 0, none⟩ (.int .i64 220)).alloc (.cells #[.int .i64 0, .int .i64 0, .bool false, .int .i64 0, .slice none 0 0] 40) := by
  have hxw := hx.below (below_one w (.cells #[.int .i64 0, .int .i64 0, .bool false, .int .i64 0, .slice none 0 0] 40)) hx.lt
  have hew := he.below (below_one w (.cells #[.int .i64 0, .int .i64 0, .bool false, .int .i64 0, .slice none 0 0] 40)) he.lt
  have hlt := hx.lt
  have hle := he.lt
  obtain ⟨d0, d1, d2, d3, d4⟩ := hx.cells
  have g0 := hx.frozen 0
  have g1 := hx.frozen 1
  have g2 := hx.frozen 2
  have g3 := hx.frozen 3
  have g4 := hx.frozen 4
  have e0 := he.cell
  have f0 := he.frozen
  have hne' : ¬ o = oe := fun e => hne e.symm
  have HX := Lib.hid hx
  have HE := Lib.hid he
  clear hxw hew hx he
  refine callsD_of_wpS Try.func93 rfl fun c₀ cs hu => ?_
  simp only [Try.ntmps93, List.size_toArray, List.length_cons, List.length_nil, Nat.reduceAdd, Nat.reduceSub, Array.replicate_succ, Array.replicate_zero, List.push_toArray, List.append_toArray, List.nil_append, List.cons_append]
  apply wpS_seq
  apply wpS_region
  simp [wpOpsS, go_sem, recoverD, hu, Exit.thenS, ta_yes]
  refine wpS_of_wp ?_
  go_wp2
  cases c₀
  simp_all [bodyPostS, results, Try.results93, putP, noP]

/-- What is got. -/
def gotRep (s : ByteArray) : Rep := (getRep s).getD noP
def gotErrP (s : ByteArray) : Int := if (getRep s).isSome then 0 else 220
theorem gotP_none {s : ByteArray} (h : getRep s = none) : gotRep s = noP ∧ gotErrP s = 220 := by unfold gotRep gotErrP; rw [h]; exact ⟨rfl, rfl⟩
theorem gotP_some {s : ByteArray} {x : Rep} (h : getRep s = some x) : gotRep s = x ∧ gotErrP s = 0 := by unfold gotRep gotErrP; rw [h]; exact ⟨rfl, rfl⟩
theorem getP_none {s : ByteArray} (h : rdMayP s = none) : getRep s = none := by
  unfold getRep
  rw [rdRep_eq]
  unfold rdMayP at h
  split at h
  · rename_i x p h1
    rw [h1]
    simp only
    split at h
    · cases h
    · rename_i hm
      rw [if_neg (fun h => hm h.1)]
  · rename_i h1
    rw [h1]
theorem rdMayP_parts {s : ByteArray} {x : Rep} {p : Nat} (h : rdMayP s = some (x, p)) : rdRep s = some (x, p) ∧ mayRep x := by
  rw [rdRep_eq]
  unfold rdMayP at h
  split at h
  · rename_i y q h1
    split at h
    · rename_i hm
      injection h with h
      injection h with h2 h3
      subst h2 h3
      exact ⟨h1, hm⟩
    · cases h
  · cases h
theorem getP_long {s : ByteArray} {x : Rep} {p : Nat} (h : rdMayP s = some (x, p)) (hp : ¬ p = s.size) : getRep s = none := by
  obtain ⟨h1, h2⟩ := rdMayP_parts h
  unfold getRep
  rw [h1]
  simp only
  rw [if_neg (fun h => hp h.2)]
theorem getP_all {s : ByteArray} {x : Rep} {p : Nat} (h : rdMayP s = some (x, p)) (hp : p = s.size) : getRep s = some x := by
  obtain ⟨h1, h2⟩ := rdMayP_parts h
  unfold getRep
  rw [h1]
  simp only
  rw [if_pos ⟨h2, hp⟩]

/-- What a call that reads a request gives. -/
def GotRep (w w' : World) (s : ByteArray) (e : Ending) : Prop :=
  ∃ A c, e = .returned (.tuple #[.agg #[.int .i64 (gotRep s).id, .int .i64 (gotRep s).code, .bool (gotRep s).found, .int .i64 (gotRep s).d, .slice A (gotRep s).hits.length c], .int .i64 (gotErrP s)]) ∧ w'.ownsRow w.heap.size 88 2 (.slice A (gotRep s).hits.length c) (gotRep s).hits.length (hv (gotRep s).hits) ∧ Below w.heap.size w w'

theorem readP_thrown {s : ByteArray} {w W : World} {tm : Array Value} (hr : Try.f54.results = #[.cell 4 40, .cell 5 28]) (ht4 : tm.getD 4 undef = .pointer (some ⟨w.heap.size, 0, none⟩)) (ht5 : tm.getD 5 undef = .pointer (some ⟨w.heap.size + 1, 0, none⟩))
    {x0 : Rep} {A0 : Option Addr} {n0 k0 : Nat} {v0 : Int} (hx : PAt W w.heap.size x0 A0 n0 k0) (he : EAt W (w.heap.size + 1) v0) (hB : Below w.heap.size w W) (hg : getRep s = none) :
    Leaves Try.prog Try.f54 tm (fun e w' => GotRep w w' s e) [{ target := .fn (.func 93) #[.pointer (some ⟨w.heap.size, 0, none⟩), .pointer (some ⟨w.heap.size + 1, 0, none⟩)], args := #[] }] (.panicking [{ v := .iface 28 (.int .i64 220), recovered := false }]) W := by
  refine leaves_cons (f := 93) (args := #[.pointer (some ⟨w.heap.size, 0, none⟩), .pointer (some ⟨w.heap.size + 1, 0, none⟩)]) (by simp) (by simp [go_sem]) ?_
  refine (catchP_thrown w.heap.size (w.heap.size + 1) n0 k0 x0 A0 v0 W hx he (by omega)).mono ?_
  rintro e u' w'' ⟨rfl, rfl, rfl⟩
  have h1 := putP_at hx noP none 0 0
  have h2 := h1.grown (only_setCellS (only_refl (putP W w.heap.size noP none 0 0) (some (w.heap.size + 1))) 0 (.int .i64 220)) (by omega)
  have h3 := (he.grown (putP_grown W w.heap.size noP none 0 0) (by omega)).set 220
  have h4 := h2.below (below_one _ (.cells #[.int .i64 0, .int .i64 0, .bool false, .int .i64 0, .slice none 0 0] 40)) h2.lt
  have h5 := h3.below (below_one _ (.cells #[.int .i64 0, .int .i64 0, .bool false, .int .i64 0, .slice none 0 0] 40)) h3.lt
  have hB2 := ((putP_below hB (Nat.le_refl _) noP none 0 0).setCell (p := ⟨w.heap.size + 1, 0, none⟩) (Nat.le_succ _) (.int .i64 220))
  have hB3 := hB2.alloc hB2.size (.cells #[.int .i64 0, .int .i64 0, .bool false, .int .i64 0, .slice none 0 0] 40)
  generalize ((putP W w.heap.size noP none 0 0).setCell ⟨w.heap.size + 1, 0, none⟩ (.int .i64 220)).alloc (.cells #[.int .i64 0, .int .i64 0, .bool false, .int .i64 0, .slice none 0 0] 40) = W9 at h4 h5 hB3 ⊢
  obtain ⟨c0, c1, c2, c3, c4⟩ := h4.cells
  have e0 := h5.cell
  simp only [settle, List.dropWhile_nil]
  refine ⟨.tuple #[.agg #[.int .i64 0, .int .i64 0, .bool false, .int .i64 0, .slice none 0 0], .int .i64 220], ?_, ?_⟩
  · rw [Array.getD_eq_getD_getElem?] at ht4 ht5
    simp [results, hr, ht4, ht5, c0, c1, c2, c3, c4, e0, go_sem, noP]
  · obtain ⟨k1, k2⟩ := gotP_none hg
    refine ⟨none, 0, ?_, ?_, hB3⟩
    · rw [k1, k2]; rfl
    · rw [k1]; exact own_nil

theorem readP_got {s : ByteArray} {w W : World} {tm : Array Value} (hr : Try.f54.results = #[.cell 4 40, .cell 5 28]) (ht4 : tm.getD 4 undef = .pointer (some ⟨w.heap.size, 0, none⟩)) (ht5 : tm.getD 5 undef = .pointer (some ⟨w.heap.size + 1, 0, none⟩))
    {x : Rep} {A : Option Addr} {c : Nat} (hx : PAt W w.heap.size x A x.hits.length c) (he : EAt W (w.heap.size + 1) 0) (ho : W.ownsRow (w.heap.size + 1 + 1) 88 2 (.slice A x.hits.length c) x.hits.length (hv x.hits)) (hB : Below w.heap.size w W) (hg : gotRep s = x ∧ gotErrP s = 0) :
    Leaves Try.prog Try.f54 tm (fun e w' => GotRep w w' s e) [] (settle .returning) W := by
  obtain ⟨c0, c1, c2, c3, c4⟩ := hx.cells
  have e0 := he.cell
  refine ⟨.tuple #[.agg #[.int .i64 x.id, .int .i64 x.code, .bool x.found, .int .i64 x.d, .slice A x.hits.length c], .int .i64 0], ?_, ?_⟩
  · rw [Array.getD_eq_getD_getElem?] at ht4 ht5
    simp [results, hr, ht4, ht5, c0, c1, c2, c3, c4, e0, go_sem]
  · obtain ⟨k1, k2⟩ := hg
    subst k1
    refine ⟨A, c, ?_, own_more ho (by omega), hB⟩
    rw [k2]

set_option maxRecDepth 100000 in
set_option maxHeartbeats 1000000 in
theorem readRep_c (s : ByteArray) (w : World) (hs : s.size ≤ 1000000) :
    Calls Try.prog 54 #[.string s, .func (.func 55) #[] #[]] w fun e w' => GotRep w w' s e := by
  have hmf : ∀ (fn : Fn) (first cap : Array Value) (w : World), (Instr.makeFunc fn first cap).run Try.prog w = .ok (.func fn first cap) w := fun _ _ _ _ => rfl
  have hx2 := (PAt.new w noP none 0 0).below (below_two _ (.cells #[.int .i64 0] 28) (.cells #[.string s, .int .i64 0] 131)) (PAt.new w noP none 0 0).lt
  have he2 : EAt (((w.alloc (.cells #[.int .i64 0, .int .i64 0, .bool false, .int .i64 0, .slice none 0 0] 40)).alloc (.cells #[.int .i64 0] 28)).alloc (.cells #[.string s, .int .i64 0] 131)) (w.heap.size + 1) 0 := by
    have := (EAt.new (w.alloc (.cells #[.int .i64 0, .int .i64 0, .bool false, .int .i64 0, .slice none 0 0] 40)) 0).below (below_one _ (.cells #[.string s, .int .i64 0] 131)) (EAt.new (w.alloc (.cells #[.int .i64 0, .int .i64 0, .bool false, .int .i64 0, .slice none 0 0] 40)) 0).lt
    rw [World.size_alloc] at this
    exact this
  have hr2 : RfAt (((w.alloc (.cells #[.int .i64 0, .int .i64 0, .bool false, .int .i64 0, .slice none 0 0] 40)).alloc (.cells #[.int .i64 0] 28)).alloc (.cells #[.string s, .int .i64 0] 131)) (w.heap.size + 1 + 1) s 0 := by
    have : RfAt (((w.alloc (.cells #[.int .i64 0, .int .i64 0, .bool false, .int .i64 0, .slice none 0 0] 40)).alloc (.cells #[.int .i64 0] 28)).alloc (.cells #[.string s, .int .i64 0] 131)) ((w.alloc (.cells #[.int .i64 0, .int .i64 0, .bool false, .int .i64 0, .slice none 0 0] 40)).alloc (.cells #[.int .i64 0] 28)).heap.size s 0 := Array.getElem?_push_size
    rw [World.size_alloc, World.size_alloc] at this
    exact this
  have hB2 : Below w.heap.size w (((w.alloc (.cells #[.int .i64 0, .int .i64 0, .bool false, .int .i64 0, .slice none 0 0] 40)).alloc (.cells #[.int .i64 0] 28)).alloc (.cells #[.string s, .int .i64 0] 131)) := (((Below.refl _ _).alloc (Nat.le_refl _) _).alloc (by simp) _).alloc (by simp; omega) _
  have hq := getPartP_c (w.heap.size + 1 + 1) s (((w.alloc (.cells #[.int .i64 0, .int .i64 0, .bool false, .int .i64 0, .slice none 0 0] 40)).alloc (.cells #[.int .i64 0] 28)).alloc (.cells #[.string s, .int .i64 0] 131)) hr2 hs
  have HX2 := Lib.hid hx2
  have HE2 := Lib.hid he2
  have HB2 := Lib.hid hB2
  clear hx2 he2 hr2 hB2
  rcases h1 : rdMayP s with _ | ⟨x, p⟩
  · rw [h1] at hq
    have H := Lib.hid (getP_none h1)
    clear h1
    go_enter_defers Try.func54, Try.ntmps54
    go_wp2_with (fail)
    refine hq.mono ?_
    rintro e w4 ⟨rfl, hG⟩
    have hx4 := HX2.out.grown hG (by omega)
    have he4 := HE2.out.grown hG (by omega)
    have hB4 := HB2.out.trans (only_below hG (by omega) HB2.out.size)
    unfold thrown
    exact readP_thrown rfl rfl rfl hx4 he4 hB4 H.out
  · rw [h1] at hq
    have H1 := Lib.hid h1
    clear h1
    go_enter_defers Try.func54, Try.ntmps54
    go_wp2_with (fail)
    refine hq.mono ?_
    rintro e w4 ⟨A, c, rfl, hr4, ho4, hG⟩
    have hx4 := HX2.out.grown hG (by omega)
    have he4 := HE2.out.grown hG (by omega)
    have hB4 := HB2.out.trans (only_below hG (by omega) HB2.out.size)
    have hx5 := Lib.hid (putP_at hx4 x A x.hits.length c)
    have he5 := Lib.hid (he4.grown (putP_grown w4 w.heap.size x A x.hits.length c) (by omega))
    have hr5 := Lib.hid (hr4.grown (putP_grown w4 w.heap.size x A x.hits.length c) (by omega))
    have hB5 := Lib.hid (putP_below hB4 (Nat.le_refl _) x A x.hits.length c)
    have ho4' := own_more (base := w.heap.size + 1 + 1) ho4 (by simp)
    have ho5 := Lib.hid (isF_own ho4' (putP_grown w4 w.heap.size x A x.hits.length c) (by omega))
    obtain ⟨c0, c1, c2, c3, c4⟩ := hx4.cells
    have g0 := hx4.frozen 0
    have g1 := hx4.frozen 1
    have g2 := hx4.frozen 2
    have g3 := hx4.frozen 3
    have g4 := hx4.frozen 4
    clear hx4 he4 hB4 hG hq ho4 ho4' hr4
    by_cases hp : p = s.size
    · have H := Lib.hid (gotP_some (getP_all H1.out hp))
      go_wp2_with (fail)
      refine (rfEnd_yes (w.heap.size + 1 + 1) s p (putP w4 w.heap.size x A x.hits.length c) hr5.out hp).mono ?_
      rintro e w6 ⟨rfl, rfl⟩
      have hx6 := Lib.hid (PAt.drew hx5.out)
      have he6 := Lib.hid (EAt.drew he5.out)
      have hB6 := Lib.hid hB5.out.drew
      have HO6 := Lib.hid ho5.out.drew
      clear hx5 he5 hr5 hB5 ho5 c0 c1 c2 c3 c4 g0 g1 g2 g3 g4
      generalize (putP w4 w.heap.size x A x.hits.length c).drew = w6 at *
      obtain ⟨c0, c1, c2, c3, c4⟩ := hx6.out.cells
      have e0 := he6.out.cell
      have f0 := he6.out.frozen
      have g0 := hx6.out.frozen 0
      have g1 := hx6.out.frozen 1
      have g2 := hx6.out.frozen 2
      have g3 := hx6.out.frozen 3
      have g4 := hx6.out.frozen 4
      have hne : ¬ w.heap.size = w.heap.size + 1 := by omega
      have hne' : ¬ w.heap.size + 1 = w.heap.size := by omega
      go_wp2_with (fail)
      refine (show bodyPostD _ _ _ Exit.ret _ ((putP w6 w.heap.size x A x.hits.length c).setCell ⟨w.heap.size + 1, 0, none⟩ (.int .i64 0)) from ?_)
      have h1 := putP_at hx6.out x A x.hits.length c
      have h2 := h1.grown (only_setCellS (only_refl (putP w6 w.heap.size x A x.hits.length c) (some (w.heap.size + 1))) 0 (.int .i64 0)) (by omega)
      have h3 := (he6.out.grown (putP_grown w6 w.heap.size x A x.hits.length c) (by omega)).set 0
      have hB7 := ((putP_below hB6.out (Nat.le_refl _) x A x.hits.length c).setCell (p := ⟨w.heap.size + 1, 0, none⟩) (Nat.le_succ _) (.int .i64 0))
      have ho7 := isF_own (own_more (base := w.heap.size + 1 + 1) HO6.out (Nat.le_refl _)) (putP_grown w6 w.heap.size x A x.hits.length c) (by omega)
      have ho8 := isF_own ho7 (only_setCellS (only_refl (putP w6 w.heap.size x A x.hits.length c) (some (w.heap.size + 1))) 0 (.int .i64 0)) (by omega)
      generalize (putP w6 w.heap.size x A x.hits.length c).setCell ⟨w.heap.size + 1, 0, none⟩ (.int .i64 0) = W9 at h2 h3 hB7 ho8 ⊢
      refine leaves_cons (f := 93) (args := #[.pointer (some ⟨w.heap.size, 0, none⟩), .pointer (some ⟨w.heap.size + 1, 0, none⟩)]) (by simp) (by simp [go_sem]) ?_
      refine (catchP_idle w.heap.size (w.heap.size + 1) W9).mono ?_
      rintro e u' w'' ⟨rfl, rfl, rfl⟩
      exact readP_got rfl rfl rfl h2 h3 ho8 hB7 H.out
    · have H := Lib.hid (getP_long H1.out hp)
      go_wp2_with (fail)
      refine (rfEnd_no (w.heap.size + 1 + 1) s p (putP w4 w.heap.size x A x.hits.length c) hr5.out hp).mono ?_
      rintro e w6 ⟨rfl, rfl⟩
      unfold thrown
      exact readP_thrown (W := (putP w4 w.heap.size x A x.hits.length c).drew) rfl rfl rfl (PAt.drew hx5.out) (EAt.drew he5.out) hB5.out.drew H.out
end Go.Proofs.Ytmnjlhifjjainaa
