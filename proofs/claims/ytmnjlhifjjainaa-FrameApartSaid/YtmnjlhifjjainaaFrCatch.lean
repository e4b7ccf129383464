/-
  The program reads: what is thrown is caught.
-/
import Derived.Test.YtmnjlhifjjainaaFrGet
namespace Go.Proofs.Ytmnjlhifjjainaa
open Go.RowKit

theorem ta_nil (w : World) : (Instr.typeAssert .nilIface 20 28 true).run Try.prog w = .ok (.tuple #[.int .i64 0, .bool false]) w := by kernel_rfl
theorem ta_yes (w : World) (v : Value) : (Instr.typeAssert (.iface 28 v) 20 28 true).run Try.prog w = .ok (.tuple #[v, .bool true]) w := by kernel_rfl

def EAt (w : World) (b : Nat) (v : Int) : Prop := w.heap[b]? = some (.cells #[.int .i64 v] 28 (0, 0))
section
variable {w w' : World} {b g : Nat} {v : Int}
theorem EAt.new (w : World) (v : Int) : EAt (w.alloc (.cells #[.int .i64 v] 28)) w.heap.size v := Array.getElem?_push_size
theorem EAt.lt (h : EAt w b v) : b < w.heap.size := (Array.getElem?_eq_some_iff.1 h).1
theorem EAt.below {B : Nat} (h : EAt w b v) (hB : Below B w w') (hb : b < B) : EAt w' b v := (hB.block b hb).trans h
theorem EAt.grown (h : EAt w b v) (hg : w.grownBy w' (some g)) (hne : b ≠ g) : EAt w' b v := (hg.block b h.lt (fun e => hne (by injection e))).trans h
theorem EAt.cell (h : EAt w b v) : w.cell? ⟨b, 0, none⟩ = some (.int .i64 v) := by
  unfold EAt at h
  rw [Lib.cell_of_heap h]; rfl
theorem EAt.frozen (h : EAt w b v) : w.frozen? ⟨b, 0, none⟩ = false := Lib.frozen_of_heap h 0
theorem EAt.set (h : EAt w b v) (x : Int) : EAt (w.setCell ⟨b, 0, none⟩ (.int .i64 x)) b x := by
  have := heap_setCell_same w b 0 _ _ (.int .i64 x) h
  unfold EAt
  simpa using this
end

set_option maxRecDepth 100000 in
set_option maxHeartbeats 1000000 in
theorem catch_idle (o oe : Nat) (w : World) :
    CallsD Try.prog 87 #[.pointer (some ⟨o, 0, none⟩), .pointer (some ⟨oe, 0, none⟩)] .returning w fun e u' w' => e = .returned (.tuple #[]) ∧ u' = .returning ∧ w' = w := by
  refine callsD_of_wpS Try.func87 rfl fun c₀ cs hu => ?_
  simp only [Try.ntmps87, List.size_toArray, List.length_cons, List.length_nil, Nat.reduceAdd, Nat.reduceSub, Array.replicate_succ, Array.replicate_zero, List.push_toArray, List.append_toArray, List.nil_append, List.cons_append]
  apply wpS_seq
  apply wpS_region
  simp [wpOpsS, go_sem, recoverD, hu, Exit.thenS, ta_nil]
  refine wpS_of_wp ?_
  go_wp2
  cases c₀
  simp_all [bodyPostS, results, Try.results87]

set_option maxRecDepth 100000 in
set_option maxHeartbeats 1000000 in
theorem catch_thrown (o oe n0 k0 : Nat) (x0 : Req) (A0 : Option Addr) (v0 : Int) (w : World) (hx : RAt w o x0 A0 n0 k0) (he : EAt w oe v0) (hne : ¬ oe = o) :
    CallsD Try.prog 87 #[.pointer (some ⟨o, 0, none⟩), .pointer (some ⟨oe, 0, none⟩)] (.panicking [{ v := .iface 28 (.int .i64 220), recovered := false }]) w
      fun e u' w' => e = .returned (.tuple #[]) ∧ u' = .panicking [{ v := .iface 28 (.int .i64 220), recovered := true }] ∧ w' = ((putR w o noR none 0 0).setCell ⟨oe, 0, none⟩ (.int .i64 220)).alloc (.cells #[.int .i64 0, .int .i64 0, .int .i64 0, .int .i64 0, .int .i64 0, .slice none 0 0, .int .i64 0, .int .i64 0] 26) := by
  have hxw := hx.below (below_one w (.cells #[.int .i64 0, .int .i64 0, .int .i64 0, .int .i64 0, .int .i64 0, .slice none 0 0, .int .i64 0, .int .i64 0] 26)) hx.lt
  have hew := he.below (below_one w (.cells #[.int .i64 0, .int .i64 0, .int .i64 0, .int .i64 0, .int .i64 0, .slice none 0 0, .int .i64 0, .int .i64 0] 26)) he.lt
  have hlt := hx.lt
  have hle := he.lt
  obtain ⟨d0, d1, d2, d3, d4, d5, d6, d7⟩ := hx.cells
  have g0 := hx.frozen 0
  have g1 := hx.frozen 1
  have g2 := hx.frozen 2
  have g3 := hx.frozen 3
  have g4 := hx.frozen 4
  have g5 := hx.frozen 5
  have g6 := hx.frozen 6
  have g7 := hx.frozen 7
  have e0 := he.cell
  have f0 := he.frozen
  have hne' : ¬ o = oe := fun e => hne e.symm
  have HX := Lib.hid hx
  have HE := Lib.hid he
  clear hxw hew hx he
  refine callsD_of_wpS Try.func87 rfl fun c₀ cs hu => ?_
  simp only [Try.ntmps87, List.size_toArray, List.length_cons, List.length_nil, Nat.reduceAdd, Nat.reduceSub, Array.replicate_succ, Array.replicate_zero, List.push_toArray, List.append_toArray, List.nil_append, List.cons_append]
  apply wpS_seq
  apply wpS_region
  simp [wpOpsS, go_sem, recoverD, hu, Exit.thenS, ta_yes]
  refine wpS_of_wp ?_
  go_wp2
  cases c₀
  simp_all [bodyPostS, results, Try.results87, putR, putRQ, noR, noQ]

theorem RAt.drew {w : World} {b n c : Nat} {x : Req} {A : Option Addr} (h : RAt w b x A n c) : RAt w.drew b x A n c := h
theorem EAt.drew {w : World} {b : Nat} {v : Int} (h : EAt w b v) : EAt w.drew b v := h
/-- What is got. -/
def gotReq (s : ByteArray) : Req := (getReq s).getD noR
def gotErr (s : ByteArray) : Int := if (getReq s).isSome then 0 else 220
theorem got_none {s : ByteArray} (h : getReq s = none) : gotReq s = noR ∧ gotErr s = 220 := by unfold gotReq gotErr; rw [h]; exact ⟨rfl, rfl⟩
theorem got_some {s : ByteArray} {x : Req} (h : getReq s = some x) : gotReq s = x ∧ gotErr s = 0 := by unfold gotReq gotErr; rw [h]; exact ⟨rfl, rfl⟩
theorem get_none {s : ByteArray} (h : rdMay s = none) : getReq s = none := by
  unfold getReq
  rw [rdReq_eq]
  unfold rdMay at h
  split at h
  · rename_i x p h1
    rw [h1]
    simp only
    split at h
    · cases h
    · rename_i hm
      rw [if_neg (fun h => hm h.1)]
  · rename_i h1
    rw [h1]
theorem rdMay_parts {s : ByteArray} {x : Req} {p : Nat} (h : rdMay s = some (x, p)) : rdReq s = some (x, p) ∧ mayReq x := by
  rw [rdReq_eq]
  unfold rdMay at h
  split at h
  · rename_i y q h1
    split at h
    · rename_i hm
      injection h with h
      injection h with h2 h3
      subst h2 h3
      exact ⟨h1, hm⟩
    · cases h
  · cases h
theorem get_long {s : ByteArray} {x : Req} {p : Nat} (h : rdMay s = some (x, p)) (hp : ¬ p = s.size) : getReq s = none := by
  obtain ⟨h1, h2⟩ := rdMay_parts h
  unfold getReq
  rw [h1]
  simp only
  rw [if_neg (fun h => hp h.2)]
theorem get_all {s : ByteArray} {x : Req} {p : Nat} (h : rdMay s = some (x, p)) (hp : p = s.size) : getReq s = some x := by
  obtain ⟨h1, h2⟩ := rdMay_parts h
  unfold getReq
  rw [h1]
  simp only
  rw [if_pos ⟨h2, hp⟩]

/-- What a call that reads a request gives. -/
def GotReq (w w' : World) (s : ByteArray) (e : Ending) : Prop :=
  ∃ A c, e = .returned (.tuple #[.agg #[.int .i64 (gotReq s).id, .int .i64 (gotReq s).kind, .int .i64 (gotReq s).q.kind, .int .i64 (gotReq s).q.src, .int .i64 (gotReq s).q.dst, .slice A (gotReq s).q.words.length c, .int .i64 (gotReq s).q.radius, .int .i64 (gotReq s).q.most], .int .i64 (gotErr s)]) ∧ w'.ownsRow w.heap.size 9 1 (.slice A (gotReq s).q.words.length c) (gotReq s).q.words.length (sv (gotReq s).q.words) ∧ Below w.heap.size w w'

theorem putR_below {a w : World} {B : Nat} (h : Below B a w) {o : Nat} (ho : B ≤ o) (x : Req) (A : Option Addr) (n c : Nat) : Below B a (putR w o x A n c) := by
  unfold putR putRQ
  exact (((((((h.setCell ho _).setCell ho _).setCell ho _).setCell ho _).setCell ho _).setCell ho _).setCell ho _).setCell ho _

theorem read_thrown {s : ByteArray} {w W : World} {tm : Array Value} (hr : Try.f43.results = #[.cell 4 26, .cell 5 28]) (ht4 : tm.getD 4 undef = .pointer (some ⟨w.heap.size, 0, none⟩)) (ht5 : tm.getD 5 undef = .pointer (some ⟨w.heap.size + 1, 0, none⟩))
    {x0 : Req} {A0 : Option Addr} {n0 k0 : Nat} {v0 : Int} (hx : RAt W w.heap.size x0 A0 n0 k0) (he : EAt W (w.heap.size + 1) v0) (hB : Below w.heap.size w W) (hg : getReq s = none) :
    Leaves Try.prog Try.f43 tm (fun e w' => GotReq w w' s e) [{ target := .fn (.func 87) #[.pointer (some ⟨w.heap.size, 0, none⟩), .pointer (some ⟨w.heap.size + 1, 0, none⟩)], args := #[] }] (.panicking [{ v := .iface 28 (.int .i64 220), recovered := false }]) W := by
  refine leaves_cons (f := 87) (args := #[.pointer (some ⟨w.heap.size, 0, none⟩), .pointer (some ⟨w.heap.size + 1, 0, none⟩)]) (by simp) (by simp [go_sem]) ?_
  refine (catch_thrown w.heap.size (w.heap.size + 1) n0 k0 x0 A0 v0 W hx he (by omega)).mono ?_
  rintro e u' w'' ⟨rfl, rfl, rfl⟩
  have h1 := putR_at hx noR none 0 0
  have h2 := h1.grown (only_setCellS (only_refl (putR W w.heap.size noR none 0 0) (some (w.heap.size + 1))) 0 (.int .i64 220)) (by omega)
  have h3 := (he.grown (putR_grown W w.heap.size noR none 0 0) (by omega)).set 220
  have h4 := h2.below (below_one _ (.cells #[.int .i64 0, .int .i64 0, .int .i64 0, .int .i64 0, .int .i64 0, .slice none 0 0, .int .i64 0, .int .i64 0] 26)) h2.lt
  have h5 := h3.below (below_one _ (.cells #[.int .i64 0, .int .i64 0, .int .i64 0, .int .i64 0, .int .i64 0, .slice none 0 0, .int .i64 0, .int .i64 0] 26)) h3.lt
  have hB2 := ((putR_below hB (Nat.le_refl _) noR none 0 0).setCell (p := ⟨w.heap.size + 1, 0, none⟩) (Nat.le_succ _) (.int .i64 220))
  have hB3 := hB2.alloc hB2.size (.cells #[.int .i64 0, .int .i64 0, .int .i64 0, .int .i64 0, .int .i64 0, .slice none 0 0, .int .i64 0, .int .i64 0] 26)
  generalize ((putR W w.heap.size noR none 0 0).setCell ⟨w.heap.size + 1, 0, none⟩ (.int .i64 220)).alloc (.cells #[.int .i64 0, .int .i64 0, .int .i64 0, .int .i64 0, .int .i64 0, .slice none 0 0, .int .i64 0, .int .i64 0] 26) = W9 at h4 h5 hB3 ⊢
  obtain ⟨c0, c1, c2, c3, c4, c5, c6, c7⟩ := h4.cells
  have e0 := h5.cell
  simp only [settle, List.dropWhile_nil]
  refine ⟨.tuple #[.agg #[.int .i64 0, .int .i64 0, .int .i64 0, .int .i64 0, .int .i64 0, .slice none 0 0, .int .i64 0, .int .i64 0], .int .i64 220], ?_, ?_⟩
  · rw [Array.getD_eq_getD_getElem?] at ht4 ht5
    simp [results, hr, ht4, ht5, c0, c1, c2, c3, c4, c5, c6, c7, e0, go_sem, noR, noQ]
  · obtain ⟨k1, k2⟩ := got_none hg
    refine ⟨none, 0, ?_, ?_, hB3⟩
    · rw [k1, k2]; rfl
    · rw [k1]; exact own_nil

theorem read_got {s : ByteArray} {w W : World} {tm : Array Value} (hr : Try.f43.results = #[.cell 4 26, .cell 5 28]) (ht4 : tm.getD 4 undef = .pointer (some ⟨w.heap.size, 0, none⟩)) (ht5 : tm.getD 5 undef = .pointer (some ⟨w.heap.size + 1, 0, none⟩))
    {x : Req} {A : Option Addr} {c : Nat} (hx : RAt W w.heap.size x A x.q.words.length c) (he : EAt W (w.heap.size + 1) 0) (ho : W.ownsRow (w.heap.size + 1 + 1) 9 1 (.slice A x.q.words.length c) x.q.words.length (sv x.q.words)) (hB : Below w.heap.size w W) (hg : gotReq s = x ∧ gotErr s = 0) :
    Leaves Try.prog Try.f43 tm (fun e w' => GotReq w w' s e) [] (settle .returning) W := by
  obtain ⟨c0, c1, c2, c3, c4, c5, c6, c7⟩ := hx.cells
  have e0 := he.cell
  refine ⟨.tuple #[.agg #[.int .i64 x.id, .int .i64 x.kind, .int .i64 x.q.kind, .int .i64 x.q.src, .int .i64 x.q.dst, .slice A x.q.words.length c, .int .i64 x.q.radius, .int .i64 x.q.most], .int .i64 0], ?_, ?_⟩
  · rw [Array.getD_eq_getD_getElem?] at ht4 ht5
    simp [results, hr, ht4, ht5, c0, c1, c2, c3, c4, c5, c6, c7, e0, go_sem]
  · obtain ⟨k1, k2⟩ := hg
    subst k1
    refine ⟨A, c, ?_, own_more ho (by omega), hB⟩
    rw [k2]

set_option maxRecDepth 100000 in
set_option maxHeartbeats 1000000 in
theorem readReq_c (s : ByteArray) (w : World) (hs : s.size ≤ 1000000) :
    Calls Try.prog 43 #[.string s, .func (.func 44) #[] #[]] w fun e w' => GotReq w w' s e := by
  have hmf : ∀ (fn : Fn) (first cap : Array Value) (w : World), (Instr.makeFunc fn first cap).run Try.prog w = .ok (.func fn first cap) w := fun _ _ _ _ => rfl
  have hx2 := (RAt.new w noR none 0 0).below (below_two _ (.cells #[.int .i64 0] 28) (.cells #[.string s, .int .i64 0] 131)) (RAt.new w noR none 0 0).lt
  have he2 : EAt (((w.alloc (.cells #[.int .i64 0, .int .i64 0, .int .i64 0, .int .i64 0, .int .i64 0, .slice none 0 0, .int .i64 0, .int .i64 0] 26)).alloc (.cells #[.int .i64 0] 28)).alloc (.cells #[.string s, .int .i64 0] 131)) (w.heap.size + 1) 0 := by
    have := (EAt.new (w.alloc (.cells #[.int .i64 0, .int .i64 0, .int .i64 0, .int .i64 0, .int .i64 0, .slice none 0 0, .int .i64 0, .int .i64 0] 26)) 0).below (below_one _ (.cells #[.string s, .int .i64 0] 131)) (EAt.new (w.alloc (.cells #[.int .i64 0, .int .i64 0, .int .i64 0, .int .i64 0, .int .i64 0, .slice none 0 0, .int .i64 0, .int .i64 0] 26)) 0).lt
    rw [World.size_alloc] at this
    exact this
  have hr2 : RfAt (((w.alloc (.cells #[.int .i64 0, .int .i64 0, .int .i64 0, .int .i64 0, .int .i64 0, .slice none 0 0, .int .i64 0, .int .i64 0] 26)).alloc (.cells #[.int .i64 0] 28)).alloc (.cells #[.string s, .int .i64 0] 131)) (w.heap.size + 1 + 1) s 0 := by
    have : RfAt (((w.alloc (.cells #[.int .i64 0, .int .i64 0, .int .i64 0, .int .i64 0, .int .i64 0, .slice none 0 0, .int .i64 0, .int .i64 0] 26)).alloc (.cells #[.int .i64 0] 28)).alloc (.cells #[.string s, .int .i64 0] 131)) ((w.alloc (.cells #[.int .i64 0, .int .i64 0, .int .i64 0, .int .i64 0, .int .i64 0, .slice none 0 0, .int .i64 0, .int .i64 0] 26)).alloc (.cells #[.int .i64 0] 28)).heap.size s 0 := Array.getElem?_push_size
    rw [World.size_alloc, World.size_alloc] at this
    exact this
  have hB2 : Below w.heap.size w (((w.alloc (.cells #[.int .i64 0, .int .i64 0, .int .i64 0, .int .i64 0, .int .i64 0, .slice none 0 0, .int .i64 0, .int .i64 0] 26)).alloc (.cells #[.int .i64 0] 28)).alloc (.cells #[.string s, .int .i64 0] 131)) := (((Below.refl _ _).alloc (Nat.le_refl _) _).alloc (by simp) _).alloc (by simp; omega) _
  have hq := getPart_c (w.heap.size + 1 + 1) s (((w.alloc (.cells #[.int .i64 0, .int .i64 0, .int .i64 0, .int .i64 0, .int .i64 0, .slice none 0 0, .int .i64 0, .int .i64 0] 26)).alloc (.cells #[.int .i64 0] 28)).alloc (.cells #[.string s, .int .i64 0] 131)) hr2 hs
  have HX2 := Lib.hid hx2
  have HE2 := Lib.hid he2
  have HB2 := Lib.hid hB2
  clear hx2 he2 hr2 hB2
  rcases h1 : rdMay s with _ | ⟨x, p⟩
  · rw [h1] at hq
    have H := Lib.hid (get_none h1)
    clear h1
    go_enter_defers Try.func43, Try.ntmps43
    go_wp2_with (fail)
    refine hq.mono ?_
    rintro e w4 ⟨rfl, hG⟩
    have hx4 := HX2.out.grown hG (by omega)
    have he4 := HE2.out.grown hG (by omega)
    have hB4 := HB2.out.trans (only_below hG (by omega) HB2.out.size)
    unfold thrown
    exact read_thrown rfl rfl rfl hx4 he4 hB4 H.out
  · rw [h1] at hq
    have H1 := Lib.hid h1
    clear h1
    go_enter_defers Try.func43, Try.ntmps43
    go_wp2_with (fail)
    refine hq.mono ?_
    rintro e w4 ⟨A, c, rfl, hr4, ho4, hG⟩
    have hx4 := HX2.out.grown hG (by omega)
    have he4 := HE2.out.grown hG (by omega)
    have hB4 := HB2.out.trans (only_below hG (by omega) HB2.out.size)
    have hx5 := Lib.hid (putR_at hx4 x A x.q.words.length c)
    have he5 := Lib.hid (he4.grown (putR_grown w4 w.heap.size x A x.q.words.length c) (by omega))
    have hr5 := Lib.hid (hr4.grown (putR_grown w4 w.heap.size x A x.q.words.length c) (by omega))
    have hB5 := Lib.hid (putR_below hB4 (Nat.le_refl _) x A x.q.words.length c)
    have ho4' := own_more (base := w.heap.size + 1 + 1) ho4 (by simp)
    have ho5 := Lib.hid (isF_own ho4' (putR_grown w4 w.heap.size x A x.q.words.length c) (by omega))
    obtain ⟨c0, c1, c2, c3, c4, c5, c6, c7⟩ := hx4.cells
    have g0 := hx4.frozen 0
    have g1 := hx4.frozen 1
    have g2 := hx4.frozen 2
    have g3 := hx4.frozen 3
    have g4 := hx4.frozen 4
    have g5 := hx4.frozen 5
    have g6 := hx4.frozen 6
    have g7 := hx4.frozen 7
    clear hx4 he4 hB4 hG hq ho4 ho4' hr4
    by_cases hp : p = s.size
    · have H := Lib.hid (got_some (get_all H1.out hp))
      go_wp2_with (fail)
      refine (rfEnd_yes (w.heap.size + 1 + 1) s p (putR w4 w.heap.size x A x.q.words.length c) hr5.out hp).mono ?_
      rintro e w6 ⟨rfl, rfl⟩
      have hx6 := Lib.hid (RAt.drew hx5.out)
      have he6 := Lib.hid (EAt.drew he5.out)
      have hB6 := Lib.hid hB5.out.drew
      have HO6 := Lib.hid ho5.out.drew
      clear hx5 he5 hr5 hB5 ho5 c0 c1 c2 c3 c4 c5 c6 c7 g0 g1 g2 g3 g4 g5 g6 g7
      generalize (putR w4 w.heap.size x A x.q.words.length c).drew = w6 at *
      obtain ⟨c0, c1, c2, c3, c4, c5, c6, c7⟩ := hx6.out.cells
      have e0 := he6.out.cell
      have f0 := he6.out.frozen
      have g0 := hx6.out.frozen 0
      have g1 := hx6.out.frozen 1
      have g2 := hx6.out.frozen 2
      have g3 := hx6.out.frozen 3
      have g4 := hx6.out.frozen 4
      have g5 := hx6.out.frozen 5
      have g6 := hx6.out.frozen 6
      have g7 := hx6.out.frozen 7
      have hne : ¬ w.heap.size = w.heap.size + 1 := by omega
      have hne' : ¬ w.heap.size + 1 = w.heap.size := by omega
      go_wp2_with (fail)
      refine (show bodyPostD _ _ _ Exit.ret _ ((putR w6 w.heap.size x A x.q.words.length c).setCell ⟨w.heap.size + 1, 0, none⟩ (.int .i64 0)) from ?_)
      have h1 := putR_at hx6.out x A x.q.words.length c
      have h2 := h1.grown (only_setCellS (only_refl (putR w6 w.heap.size x A x.q.words.length c) (some (w.heap.size + 1))) 0 (.int .i64 0)) (by omega)
      have h3 := (he6.out.grown (putR_grown w6 w.heap.size x A x.q.words.length c) (by omega)).set 0
      have hB7 := ((putR_below hB6.out (Nat.le_refl _) x A x.q.words.length c).setCell (p := ⟨w.heap.size + 1, 0, none⟩) (Nat.le_succ _) (.int .i64 0))
      have ho7 := isF_own (own_more (base := w.heap.size + 1 + 1) HO6.out (Nat.le_refl _)) (putR_grown w6 w.heap.size x A x.q.words.length c) (by omega)
      have ho8 := isF_own ho7 (only_setCellS (only_refl (putR w6 w.heap.size x A x.q.words.length c) (some (w.heap.size + 1))) 0 (.int .i64 0)) (by omega)
      generalize (putR w6 w.heap.size x A x.q.words.length c).setCell ⟨w.heap.size + 1, 0, none⟩ (.int .i64 0) = W9 at h2 h3 hB7 ho8 ⊢
      refine leaves_cons (f := 87) (args := #[.pointer (some ⟨w.heap.size, 0, none⟩), .pointer (some ⟨w.heap.size + 1, 0, none⟩)]) (by simp) (by simp [go_sem]) ?_
      refine (catch_idle w.heap.size (w.heap.size + 1) W9).mono ?_
      rintro e u' w'' ⟨rfl, rfl, rfl⟩
      exact read_got rfl rfl rfl h2 h3 ho8 hB7 H.out
    · have H := Lib.hid (get_long H1.out hp)
      go_wp2_with (fail)
      refine (rfEnd_no (w.heap.size + 1 + 1) s p (putR w4 w.heap.size x A x.q.words.length c) hr5.out hp).mono ?_
      rintro e w6 ⟨rfl, rfl⟩
      unfold thrown
      exact read_thrown (W := (putR w4 w.heap.size x A x.q.words.length c).drew) rfl rfl rfl (RAt.drew hx5.out) (EAt.drew he5.out) hB5.out.drew H.out
end Go.Proofs.Ytmnjlhifjjainaa
