/-
  prog.Start: the walk.
  Queries, rows and states that came in.
  'far' of the laws of chapter 19: the walks.
-/
import Derived.Test.YtpdnipabaimofaaGreatJ09
import Derived.Test.YtpdnipabaimofaaGreatJ04
import Derived.Test.YtpdnipabaimofaaGreatJ07
import Derived.Test.YtpdnipabaimofaaGreatJ05
import Derived.Deep.Fields
import Derived.LoopN
namespace Go.Proofs.YtpdnipabaimofaaGreat
open Go.RowKit

/-- What a query begins with. -/
def startM (kind src dst slot : Int) : List Msg :=
  if kind = 1 then [⟨slot, 0, src, 0⟩, ⟨slot, 1, dst, 0⟩] else if kind = 2 ∨ kind = 3 then [⟨slot, 0, src, 0⟩] else []

/-- One message more. -/
structure BeginDone (w : World) (b base n : Nat) (l : List Msg) (w' : World) : Prop where
  more : ∃ A' c', Boxed w' b 57 (.slice A' (n + 1) c') ∧ w'.ownsRow base 79 4 (.slice A' (n + 1) c') (n + 1) (mv l)
  keep : ∀ k cs t fr, w.heap[k]? = some (.cells cs t fr) → t ≠ 79 → k ≠ b → w'.heap[k]? = some (.cells cs t fr)
  bel : Below base w w'
  size : w.heap.size ≤ w'.heap.size
theorem begin_c (dir v slot : Int) (b bs : Nat) (base : Nat) (A : Option Addr) (n c : Nat) (l : List Msg) (w : World) (hb : Boxed w b 57 (.slice A n c)) (hs : w.cell? ⟨bs, 0, none⟩ = some (.int .i64 slot)) (ho : w.ownsRow base 79 4 (.slice A n c) n (mv l)) (hn : n ≤ 100) (hbase : base ≤ w.heap.size) (hbb : base ≤ b) :
    Calls Tryz.prog 22 #[.int .i64 dir, .int .i64 v, .pointer (some ⟨b, 0, none⟩), .pointer (some ⟨bs, 0, none⟩)] w fun e w' => e = .returned (.tuple #[]) ∧ BeginDone w b base n (l ++ [⟨slot, dir, v, 0⟩]) w' := by
  have c0 := Boxed.cell hb
  have f0 := Boxed.frozen hb
  have HB := Lib.hid hb
  have HO := Lib.hid ho
  clear hb ho
  go_enter Tryz.func22, Tryz.ntmps22
  go_wp2_with (at_builtin; refine wpList_push elMail rfl _ _ rfl HO.out rfl _ rfl rfl (mc_one ⟨slot, dir, v, 0⟩) (by unfold maxLen; omega) (by omega) hbase ?_; intro A4 c4 w4 ho4 p4; have hT1 := rowT_own HO.out; have hb4 := box_T HB.out p4.grown hT1 (by decide); have g0 := Boxed.cell hb4; have g1 := Boxed.frozen hb4; have HO4 := Lib.hid ho4; have HP4 := Lib.hid p4; have HB4 := Lib.hid hb4; have HT1 := Lib.hid hT1; clear ho4 p4 hT1 hb4)
  have hg2 := grownBy_setCell' w4 b (.slice A4 (n + 1) c4)
  have hT2 : RowT w4 (some b) 57 := rowT_box HB4.out
  go_end0
  refine ⟨rfl, ⟨⟨A4, c4, Boxed.set _ HB4.out, own_T (by rw [mv_append]; simpa [mv, mc] using HO4.out) hg2 hT2 (by decide)⟩, fun k cs t fr hk ht hkb => ?_, (HP4.out.below HO.out (Below.refl _ _) (Nat.le_refl _) hbase).setCell (p := ⟨b, 0, none⟩) hbb _, Nat.le_trans HP4.out.grown.size hg2.size⟩⟩
  have h1 := box_T hk HP4.out.grown HT1.out ht
  exact (hg2.block k (Array.getElem?_eq_some_iff.1 h1).1 (fun e => hkb (by injection e))).trans h1

set_option maxRecDepth 100000 in
set_option maxHeartbeats 2000000 in
theorem start_c (q : QuA) (slot : Int) (w : World) :
    Calls Tryz.prog 12 #[quVal q, .int .i64 slot] w fun e w' => ∃ A' k c', e = .returned (.slice A' k c') ∧ k = (startM q.kind q.src q.dst slot).length ∧ w'.ownsRow w.heap.size 79 4 (.slice A' k c') k (mv (startM q.kind q.src q.dst slot)) ∧ Below w.heap.size w w' := by
  show Calls Tryz.prog 12 #[.agg #[.int .i64 q.kind, .int .i64 q.src, .int .i64 q.dst, .slice q.W q.nw q.cw, .int .i64 q.radius, .int .i64 q.most], .int .i64 slot] w _
  have hmf : ∀ (fn : Fn) (first cap : Array Value) (w : World), (Instr.makeFunc fn first cap).run Tryz.prog w = .ok (.func fn first cap) w := fun _ _ _ _ => rfl
  obtain ⟨W, hW⟩ : ∃ W, W = ((w.alloc (quBox q)).alloc (.cells #[.int .i64 slot] 3)).alloc (.cells #[.slice none 0 0] 57) := ⟨_, rfl⟩
  have hq : W.heap[w.heap.size]? = some (quBox q) := by
    rw [hW, Below.heap_alloc _ _ _ (by simp; omega), Below.heap_alloc _ _ _ (by simp)]
    exact w.alloc_heap_new _
  have hsl : W.heap[w.heap.size + 1]? = some (.cells #[.int .i64 slot] 3 (0, 0)) := by
    rw [hW, Below.heap_alloc _ _ _ (by simp)]
    have := (w.alloc (quBox q)).alloc_heap_new (.cells #[.int .i64 slot] 3)
    rw [World.size_alloc] at this
    exact this
  have hbx : Boxed W (w.heap.size + 2) 57 (.slice none 0 0) := by
    rw [hW]
    have := ((w.alloc (quBox q)).alloc (.cells #[.int .i64 slot] 3)).alloc_heap_new (.cells #[.slice none 0 0] 57)
    rw [World.size_alloc, World.size_alloc] at this
    exact this
  have hbel : Below w.heap.size w W := by rw [hW]; exact (below_two w _ _).trans ((below_one _ _).mono (by simp; omega))
  have hsz : w.heap.size ≤ W.heap.size := hbel.size
  have HQ := Lib.hid hq
  have HSL := Lib.hid hsl
  have HBX := Lib.hid hbx
  have HBE := Lib.hid hbel
  have HW := Lib.hid hW
  have hbc : ∀ (dir v : Int), Calls Tryz.prog 22 #[.int .i64 dir, .int .i64 v, .pointer (some ⟨w.heap.size + 2, 0, none⟩), .pointer (some ⟨w.heap.size + 1, 0, none⟩)] W fun e w' => e = .returned (.tuple #[]) ∧ BeginDone W (w.heap.size + 2) w.heap.size 0 ([] ++ [⟨slot, dir, v, 0⟩]) w' := fun dir v =>
    begin_c dir v slot (w.heap.size + 2) (w.heap.size + 1) w.heap.size none 0 0 [] W HBX.out (by rw [Lib.cell_of_heap HSL.out]; rfl) (by simpa [mv] using own_nil) (by omega) hsz (by omega)
  have HBC := Lib.hid hbc
  clear hW hq hsl hbx hbel hbc
  by_cases k1 : q.kind = 1
  · have g1 : (q.kind == 1) = true := by simpa using k1
    have hS : Hid (startM q.kind q.src q.dst slot = [⟨slot, 0, q.src, 0⟩, ⟨slot, 1, q.dst, 0⟩]) := if_pos k1
    clear k1
    go_enter Tryz.func12, Tryz.ntmps12
    go_wp2_with (fail)
    change Calls _ _ _ (((w.alloc (quBox q)).alloc (.cells #[.int .i64 slot] 3)).alloc (.cells #[.slice none 0 0] 57)) _
    rw [← HW.out]
    refine (HBC.out 0 q.src).mono ?_
    rintro e w1 ⟨rfl, hD⟩
    obtain ⟨A1, c1, hb1, ho1⟩ := hD.more
    have hq1 := hD.keep _ _ _ _ HQ.out (by decide) (by omega)
    have hs1 := hD.keep _ _ _ _ HSL.out (by decide) (by omega)
    have x2 : w1.cell? ⟨w.heap.size, 2, none⟩ = some (.int .i64 q.dst) := by rw [Lib.cell_of_heap hq1]; rfl
    have HBE1 := Lib.hid (HBE.out.trans hD.bel)
    have hs1c : w1.cell? ⟨w.heap.size + 1, 0, none⟩ = some (.int .i64 slot) := by rw [Lib.cell_of_heap hs1]; rfl
    have HC2 := Lib.hid (begin_c 1 q.dst slot (w.heap.size + 2) (w.heap.size + 1) w.heap.size A1 (0 + 1) c1 _ w1 hb1 hs1c ho1 (by omega) (Nat.le_trans hsz hD.size) (by omega))
    clear hb1 ho1 hq1 hs1 hD hs1c
    go_wp2_with (fail)
    refine Calls.mono HC2.out ?_
    rintro e w2 ⟨rfl, hD⟩
    obtain ⟨A2, c2, hb2, ho2⟩ := hD.more
    have x5 := Boxed.cell hb2
    have HB2 := Lib.hid (HBE1.out.trans hD.bel)
    have HO2 := Lib.hid ho2
    clear hb2 ho2 hD x2
    go_wp2_with (fail)
    go_ret
    refine ⟨A2, 2, c2, rfl, by rw [hS.out]; rfl, ?_, HB2.out⟩
    rw [hS.out]
    exact HO2.out
  have g1 : (q.kind == 1) = false := by simpa using k1
  by_cases k2 : q.kind = 2 ∨ q.kind = 3
  · have hS : Hid (startM q.kind q.src q.dst slot = [⟨slot, 0, q.src, 0⟩]) := by show _ = _; unfold startM; rw [if_neg k1, if_pos k2]
    rcases k2 with k2 | k2
    · have g2 : (q.kind == 2) = true := by simpa using k2
      clear k1 k2
      go_enter Tryz.func12, Tryz.ntmps12
      go_wp2_with (fail)
      change Calls _ _ _ (((w.alloc (quBox q)).alloc (.cells #[.int .i64 slot] 3)).alloc (.cells #[.slice none 0 0] 57)) _
      rw [← HW.out]
      refine (HBC.out 0 q.src).mono ?_
      rintro e w1 ⟨rfl, hD⟩
      obtain ⟨A2, c2, hb2, ho2⟩ := hD.more
      have x5 := Boxed.cell hb2
      have HB2 := Lib.hid (HBE.out.trans hD.bel)
      have HO2 := Lib.hid ho2
      clear hb2 ho2 hD
      go_wp2_with (fail)
      go_ret
      refine ⟨A2, 1, c2, rfl, by rw [hS.out]; rfl, ?_, HB2.out⟩
      rw [hS.out]
      exact HO2.out
    · have g2 : (q.kind == 2) = false := by simpa using (show q.kind ≠ 2 by omega)
      have g3 : (q.kind == 3) = true := by simpa using k2
      clear k1 k2
      go_enter Tryz.func12, Tryz.ntmps12
      go_wp2_with (fail)
      change Calls _ _ _ (((w.alloc (quBox q)).alloc (.cells #[.int .i64 slot] 3)).alloc (.cells #[.slice none 0 0] 57)) _
      rw [← HW.out]
      refine (HBC.out 0 q.src).mono ?_
      rintro e w1 ⟨rfl, hD⟩
      obtain ⟨A2, c2, hb2, ho2⟩ := hD.more
      have x5 := Boxed.cell hb2
      have HB2 := Lib.hid (HBE.out.trans hD.bel)
      have HO2 := Lib.hid ho2
      clear hb2 ho2 hD
      go_wp2_with (fail)
      go_ret
      refine ⟨A2, 1, c2, rfl, by rw [hS.out]; rfl, ?_, HB2.out⟩
      rw [hS.out]
      exact HO2.out
  · have hS : Hid (startM q.kind q.src q.dst slot = []) := by show _ = _; unfold startM; rw [if_neg k1, if_neg k2]
    have g2 : (q.kind == 2) = false := by simpa using (show q.kind ≠ 2 from fun h => k2 (.inl h))
    have g3 : (q.kind == 3) = false := by simpa using (show q.kind ≠ 3 from fun h => k2 (.inr h))
    have HBF := HBE.out
    rw [HW.out] at HBF
    have HBG := Lib.hid HBF
    clear k1 k2 HBF
    go_enter Tryz.func12, Tryz.ntmps12
    go_wp2_with (fail)
    go_ret
    exact ⟨none, 0, 0, rfl, by rw [hS.out]; rfl, by rw [hS.out]; exact own_nil, HBG.out⟩
end Go.Proofs.YtpdnipabaimofaaGreat

namespace Go.Proofs.YtpdnipabaimofaaGreat
open Go.RowKit Go.Deep Go.ChangeShapes Go.WideShapes

section
variable {H : Type} {enc : TypeId × Value → H} {w : World} {base : Nat} {spare : Nat → Bool} {held : Bool}

theorem cells_str : Tryz.prog.cellsOf 9 = 1 := by kernel_rfl
theorem cells_texts : Tryz.prog.cellsOf 22 = 1 := by kernel_rfl
theorem cells_ints : Tryz.prog.cellsOf 25 = 1 := by kernel_rfl
theorem cells_state : Tryz.prog.cellsOf 121 = 4 := by kernel_rfl
theorem cells_query : Tryz.prog.cellsOf 24 = 6 := by kernel_rfl
theorem cells_rws : Tryz.prog.cellsOf 27 = 4 := by kernel_rfl

/-- Texts as values. -/
def svR (l : List ByteArray) : List Value := l.map Value.string
theorem trod_str1 {n : Nat} {cs : List Value} {y : DataW H × List MemPlace} (h : DataW.trod enc Tryz.prog w base spare held n 9 cs = some y) : ∃ x : ByteArray, cs = [.string x] ∧ x.size ≤ maxLen := by
  obtain ⟨s, e, _, hs⟩ := DataW.trod_string Tryz.underlying9 h
  exact ⟨s, e, hs⟩
theorem sv_flat : ∀ l : List ByteArray, l.flatMap (fun s : ByteArray => [Value.string s]) = svR l
  | [] => rfl
  | x :: xs => by
    rw [List.flatMap_cons, sv_flat xs]
    rfl
theorem iv_flat : ∀ l : List Int, l.flatMap (fun s : Int => [Value.int .i64 s]) = iv l
  | [] => rfl
  | x :: xs => by
    rw [List.flatMap_cons, iv_flat xs]
    rfl
theorem trod_texts {n : Nat} {cs : List Value} {y : DataW H × List MemPlace} (h : DataW.trod enc Tryz.prog w base spare held n 22 cs = some y) :
    ∃ (A : Option Addr) (len cap : Nat) (l : List ByteArray), cs = [.slice A len cap] ∧ l.length = len ∧ Reads w w.heap.size 1 A len (svR l) ∧ len ≤ maxLen ∧ ∀ s ∈ l, s.size ≤ maxLen := by
  obtain ⟨A, len, cap, rfl⟩ : ∃ A len cap, cs = [.slice A len cap] := by
    rcases open_slice Tryz.underlying22 h with ⟨hcs, _⟩ | ⟨x, l, c, m, n, D, Pl, hcs, _⟩
    · exact ⟨none, 0, 0, hcs⟩
    · exact ⟨some x, l, c, hcs⟩
  obtain ⟨l, h1, h2, h3, h4⟩ := open_list (fun s : ByteArray => [Value.string s]) 1 (fun _ => rfl) (by decide) (fun s => s.size ≤ maxLen) Tryz.underlying22 cells_str (fun _ _ _ h => trod_str1 h) (A := A) (len := len) (cap := cap) ⟨n, h⟩
  refine ⟨A, len, cap, l, rfl, h1, ?_, h3, h4⟩
  rw [sv_flat l] at h2
  exact h2
theorem trod_int1 {n : Nat} {cs : List Value} {y : DataW H × List MemPlace} (h : DataW.trod enc Tryz.prog w base spare held n 3 cs = some y) : ∃ x : Int, cs = [.int .i64 x] ∧ True := by
  obtain ⟨a, e0, _, _⟩ := DataW.trod_int Tryz.underlying3 h
  exact ⟨a, e0, trivial⟩
theorem trod_ints {n : Nat} {cs : List Value} {y : DataW H × List MemPlace} (h : DataW.trod enc Tryz.prog w base spare held n 25 cs = some y) :
    ∃ (A : Option Addr) (len cap : Nat) (l : List Int), cs = [.slice A len cap] ∧ Reads w w.heap.size 1 A len (iv l) ∧ len ≤ maxLen ∧ len ≤ cap := by
  obtain ⟨A, len, cap, rfl⟩ : ∃ A len cap, cs = [.slice A len cap] := by
    rcases open_slice Tryz.underlying25 h with ⟨hcs, _⟩ | ⟨x, l, c, m, n, D, Pl, hcs, _⟩
    · exact ⟨none, 0, 0, hcs⟩
    · exact ⟨some x, l, c, hcs⟩
  have hc := open_cap Tryz.underlying25 (A := A) (len := len) (cap := cap) ⟨n, h⟩
  obtain ⟨l, h1, h2, h3, _⟩ := open_list (fun s : Int => [Value.int .i64 s]) 1 (fun _ => rfl) (by decide) (fun _ => True) Tryz.underlying25 cells_int (fun _ _ _ h => trod_int1 h) (A := A) (len := len) (cap := cap) ⟨n, h⟩
  refine ⟨A, len, cap, l, rfl, ?_, h3, hc⟩
  rw [iv_flat l] at h2
  exact h2

/-- A query as an argument: its words can be read. -/
def QuIn (w : World) (a : QuA) : Prop := ∃ ws : List ByteArray, ws.length = a.nw ∧ Reads w w.heap.size 1 a.W a.nw (svR ws) ∧ a.nw ≤ maxLen ∧ (∀ s ∈ ws, s.size ≤ maxLen) ∧ (Lit.int .i64 a.src).wf = true ∧ (Lit.int .i64 a.dst).wf = true
/-- Rows as an argument. -/
def RwArg (w : World) (a : RwA) : Prop := RwIn w w.heap.size a

set_option maxRecDepth 100000 in
theorem open_query {r : Reach} {b0 : Nat} {v : Value} {d : DataW H} {p : List MemPlace} (hv : Value.okWide Tryz.prog w r b0 24 v) (h : DataW.Trod enc Tryz.prog w base spare held 24 v d p) :
    ∃ a : QuA, v = quVal a ∧ QuIn w a := by
  obtain ⟨cs, rfl, hsz⟩ := okWide_struct Tryz.underlying24 hv
  obtain ⟨fuel, hfu⟩ := h
  obtain ⟨xs, m, _, _, hl, hxl, hf⟩ := DataW.trod_struct Tryz.underlying24 hfu
  rw [cells_query] at hl
  obtain ⟨l⟩ := cs
  simp only [Value.cells] at hl hf
  match l, hl with
  | [c0, c1, c2, c3, c4, c5], _ =>
    match xs, hxl with
    | [x0, x1, x2, x3, x4, x5], _ =>
      have h0 : DataW.trod enc Tryz.prog w base spare held m 3 (([c0, c1, c2, c3, c4, c5].drop 0).take (Tryz.prog.cellsOf 3)) = some x0 := hf 0 _ rfl
      have h1 : DataW.trod enc Tryz.prog w base spare held m 3 (([c0, c1, c2, c3, c4, c5].drop 1).take (Tryz.prog.cellsOf 3)) = some x1 := hf 1 _ rfl
      have h2 : DataW.trod enc Tryz.prog w base spare held m 3 (([c0, c1, c2, c3, c4, c5].drop 2).take (Tryz.prog.cellsOf 3)) = some x2 := hf 2 _ rfl
      have h3 : DataW.trod enc Tryz.prog w base spare held m 22 (([c0, c1, c2, c3, c4, c5].drop 3).take (Tryz.prog.cellsOf 22)) = some x3 := hf 3 _ rfl
      have h4 : DataW.trod enc Tryz.prog w base spare held m 3 (([c0, c1, c2, c3, c4, c5].drop 4).take (Tryz.prog.cellsOf 3)) = some x4 := hf 4 _ rfl
      have h5 : DataW.trod enc Tryz.prog w base spare held m 3 (([c0, c1, c2, c3, c4, c5].drop 5).take (Tryz.prog.cellsOf 3)) = some x5 := hf 5 _ rfl
      rw [cells_int] at h0 h1 h2 h4 h5
      rw [cells_texts] at h3
      obtain ⟨a, e0, _, w0⟩ := DataW.trod_int Tryz.underlying3 h0
      obtain ⟨b, e1, _, w1⟩ := DataW.trod_int Tryz.underlying3 h1
      obtain ⟨c, e2, _, w2⟩ := DataW.trod_int Tryz.underlying3 h2
      obtain ⟨A, len, cap, l, e3, k1, k2, k3, k4⟩ := trod_texts h3
      obtain ⟨r, e4, _, w4⟩ := DataW.trod_int Tryz.underlying3 h4
      obtain ⟨mo, e5, _, w5⟩ := DataW.trod_int Tryz.underlying3 h5
      simp at e0 e1 e2 e3 e4 e5
      subst e0 e1 e2 e3 e4 e5
      exact ⟨⟨a, b, c, A, len, cap, r, mo⟩, rfl, l, k1, k2, k3, k4, w1, w2⟩

set_option maxRecDepth 100000 in
theorem open_rws {r : Reach} {b0 : Nat} {v : Value} {d : DataW H} {p : List MemPlace} (hv : Value.okWide Tryz.prog w r b0 27 v) (h : DataW.Trod enc Tryz.prog w base spare held 27 v d p) :
    ∃ a : RwA, v = rwVal a ∧ RwArg w a := by
  obtain ⟨cs, rfl, hsz⟩ := okWide_struct Tryz.underlying27 hv
  obtain ⟨fuel, hfu⟩ := h
  obtain ⟨xs, m, _, _, hl, hxl, hf⟩ := DataW.trod_struct Tryz.underlying27 hfu
  rw [cells_rws] at hl
  obtain ⟨l⟩ := cs
  simp only [Value.cells] at hl hf
  match l, hl with
  | [c0, c1, c2, c3], _ =>
    match xs, hxl with
    | [x0, x1, x2, x3], _ =>
      have h0 : DataW.trod enc Tryz.prog w base spare held m 25 (([c0, c1, c2, c3].drop 0).take (Tryz.prog.cellsOf 25)) = some x0 := hf 0 _ rfl
      have h1 : DataW.trod enc Tryz.prog w base spare held m 25 (([c0, c1, c2, c3].drop 1).take (Tryz.prog.cellsOf 25)) = some x1 := hf 1 _ rfl
      have h2 : DataW.trod enc Tryz.prog w base spare held m 25 (([c0, c1, c2, c3].drop 2).take (Tryz.prog.cellsOf 25)) = some x2 := hf 2 _ rfl
      have h3 : DataW.trod enc Tryz.prog w base spare held m 25 (([c0, c1, c2, c3].drop 3).take (Tryz.prog.cellsOf 25)) = some x3 := hf 3 _ rfl
      rw [cells_ints] at h0 h1 h2 h3
      obtain ⟨A0, l0, k0, z0, e0, r0, m0, p0⟩ := trod_ints h0
      obtain ⟨A1, l1, k1, z1, e1, r1, m1, p1⟩ := trod_ints h1
      obtain ⟨A2, l2, k2, z2, e2, r2, m2, p2⟩ := trod_ints h2
      obtain ⟨A3, l3, k3, z3, e3, r3, m3, p3⟩ := trod_ints h3
      simp at e0 e1 e2 e3
      subst e0 e1 e2 e3
      exact ⟨⟨⟨z0, z1, z2, z3⟩, A0, l0, k0, A1, l1, k1, A2, l2, k2, A3, l3, k3⟩, rfl, r0, r1, r2, r3, m0, m1, m2, m3, p1, p3⟩

set_option maxRecDepth 100000 in
theorem trod_state {n : Nat} {cs : List Value} {y : DataW H × List MemPlace} (h : DataW.trod enc Tryz.prog w base spare held n 121 cs = some y) : ∃ m : Msg, cs = mc m ∧ m.fits := by
  obtain ⟨xs, m, _, _, hl, hxl, hf⟩ := DataW.trod_struct Tryz.underlying121 h
  rw [cells_state] at hl
  match cs, hl with
  | [c0, c1, c2, c3], _ =>
    match xs, hxl with
    | [x0, x1], _ =>
      have h0 : DataW.trod enc Tryz.prog w base spare held m 77 (([c0, c1, c2, c3].drop 0).take (Tryz.prog.cellsOf 77)) = some x0 := hf 0 _ rfl
      have h1 : DataW.trod enc Tryz.prog w base spare held m 3 (([c0, c1, c2, c3].drop 3).take (Tryz.prog.cellsOf 3)) = some x1 := hf 1 _ rfl
      rw [cells_key] at h0
      rw [cells_int] at h1
      obtain ⟨a, b, c, e0, w0, w1, w2⟩ := trod_key h0
      obtain ⟨d, e1, _, w3⟩ := DataW.trod_int Tryz.underlying3 h1
      simp at e0 e1
      obtain ⟨rfl, rfl, rfl⟩ := e0
      subst e1
      exact ⟨⟨a, b, c, d⟩, rfl, w0, w1, w2, w3⟩
theorem open_states {A : Option Addr} {len cap : Nat} {d : DataW H} {p : List MemPlace} (h : DataW.Trod enc Tryz.prog w base spare held 59 (.slice A len cap) d p) :
    ∃ l : List Msg, l.length = len ∧ Reads w w.heap.size 4 A len (mv l) ∧ len ≤ maxLen ∧ ∀ m ∈ l, m.fits :=
  open_list mc 4 mc_len (by decide) Msg.fits Tryz.underlying59 cells_state (fun _ _ _ h => trod_state h) h
end
end Go.Proofs.YtpdnipabaimofaaGreat

namespace Go.Proofs.YtpdnipabaimofaaGreat
open Go.RowKit

/-- Some truth value. -/
def SomeBool (w w' : World) (e : Ending) : Prop := ∃ b : Bool, e = .returned (.bool b) ∧ Below w.heap.size w w'
theorem some_bool {w w' : World} {b : Bool} (hB : Below w.heap.size w w') : SomeBool w w' (.returned (.bool b)) := ⟨b, rfl, hB⟩

/-- Things are more than are looked at, or they are few. -/
def FarDone (w w' : World) (ns nm np : Nat) (e : Ending) : Prop := ∃ b : Bool, e = .returned (.bool b) ∧ Below w.heap.size w w' ∧ (b = false → ns ≤ 60 ∧ nm ≤ 60 ∧ np ≤ 100)
theorem far_true {w w' : World} {ns nm np : Nat} (hB : Below w.heap.size w w') : FarDone w w' ns nm np (.returned (.bool true)) := ⟨true, rfl, hB, fun h => by cases h⟩
theorem far_false {w w' : World} {ns nm np : Nat} (hB : Below w.heap.size w w') (h : ns ≤ 60 ∧ nm ≤ 60 ∧ np ≤ 100) : FarDone w w' ns nm np (.returned (.bool false)) := ⟨false, rfl, hB, fun _ => h⟩

theorem QuIn.below {w w' : World} {q : QuA} (h : QuIn w q) (hB : Below w.heap.size w w') : QuIn w' q := by
  obtain ⟨ws, h1, h2, h3, h4, h5, h6⟩ := h
  exact ⟨ws, h1, (h2.below hB).more hB.size, h3, h4, h5, h6⟩
/-- The boxes of a query and of rows at the beginning of a call. -/
structure QbAt (w : World) (q : QuA) (a : RwA) (W : World) : Prop where
  q_ : W.heap[w.heap.size]? = some (quBox q)
  r_ : W.heap[w.heap.size + 1]? = some (rwBox a)
  bel : Below w.heap.size w W
section
variable {w W W' : World} {q : QuA} {a : RwA}
theorem QbAt.lt (h : QbAt w q a W) : w.heap.size + 1 < W.heap.size := (Array.getElem?_eq_some_iff.1 h.r_).1
theorem QbAt.step (h : QbAt w q a W) (hB : Below W.heap.size W W') : QbAt w q a W' :=
  have hl := h.lt
  ⟨(hB.block _ (by omega)).trans h.q_, (hB.block _ (by omega)).trans h.r_, h.bel.trans (hB.mono (by omega))⟩
theorem qbAt_new (w : World) (q : QuA) (a : RwA) : QbAt w q a ((w.alloc (quBox q)).alloc (rwBox a)) := by
  have h1 := (w.alloc (quBox q)).alloc_heap_new (rwBox a)
  rw [World.size_alloc] at h1
  refine ⟨?_, h1, (below_one w _).trans ((below_one _ _).mono (by simp))⟩
  rw [Below.heap_alloc _ _ _ (by simp)]
  exact w.alloc_heap_new _
theorem QbAt.rw_ (h : QbAt w q a W) (hr : RwIn w w.heap.size a) : RwIn W W.heap.size a := (hr.below h.bel).more h.bel.size
theorem QbAt.rc (h : QbAt w q a W) : W.cell? ⟨w.heap.size + 1, 0, none⟩ = some (.slice a.A1 a.n1 a.c1) ∧ W.cell? ⟨w.heap.size + 1, 1, none⟩ = some (.slice a.A2 a.n2 a.c2) ∧ W.cell? ⟨w.heap.size + 1, 2, none⟩ = some (.slice a.A3 a.n3 a.c3) ∧ W.cell? ⟨w.heap.size + 1, 3, none⟩ = some (.slice a.A4 a.n4 a.c4) := by
  refine ⟨?_, ?_, ?_, ?_⟩ <;> · rw [Lib.cell_of_heap h.r_]; rfl
theorem QbAt.qc (h : QbAt w q a W) : W.cell? ⟨w.heap.size, 0, none⟩ = some (.int .i64 q.kind) ∧ W.cell? ⟨w.heap.size, 1, none⟩ = some (.int .i64 q.src) ∧ W.cell? ⟨w.heap.size, 2, none⟩ = some (.int .i64 q.dst) ∧ W.cell? ⟨w.heap.size, 3, none⟩ = some (.slice q.W q.nw q.cw) ∧ W.cell? ⟨w.heap.size, 4, none⟩ = some (.int .i64 q.radius) ∧ W.cell? ⟨w.heap.size, 5, none⟩ = some (.int .i64 q.most) := by
  refine ⟨?_, ?_, ?_, ?_, ?_, ?_⟩ <;> · rw [Lib.cell_of_heap h.q_]; rfl
end

end Go.Proofs.YtpdnipabaimofaaGreat
