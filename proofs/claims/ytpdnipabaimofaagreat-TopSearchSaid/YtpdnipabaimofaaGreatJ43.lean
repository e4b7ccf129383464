/-
  Postings that came in; and queries, their words' room with them.
-/
import Derived.Test.YtpdnipabaimofaaGreatJ19
import Derived.Test.YtpdnipabaimofaaGreatJ42
namespace Go.Proofs.YtpdnipabaimofaaGreat
open Go.RowKit Go.Deep Go.ChangeShapes Go.WideShapes

section
variable {H : Type} {enc : TypeId × Value → H} {w : World} {base : Nat} {spare : Nat → Bool} {held : Bool}

theorem cells_post : Tryz.prog.cellsOf 33 = 2 := by kernel_rfl
theorem trod_intW {n : Nat} {cs : List Value} {y : DataW H × List MemPlace} (h : DataW.trod enc Tryz.prog w base spare held n 3 cs = some y) : ∃ x : Int, cs = [.int .i64 x] ∧ wfI x := by
  obtain ⟨a, e0, _, h0⟩ := DataW.trod_int Tryz.underlying3 h
  exact ⟨a, e0, h0⟩
theorem trod_places {n : Nat} {cs : List Value} {y : DataW H × List MemPlace} (h : DataW.trod enc Tryz.prog w base spare held n 25 cs = some y) :
    ∃ (A : Option Addr) (len cap : Nat) (l : List Int), cs = [.slice A len cap] ∧ Reads w w.heap.size 1 A len (iv l) ∧ len ≤ maxLen ∧ ∀ x ∈ l, wfI x := by
  obtain ⟨A, len, cap, rfl⟩ : ∃ A len cap, cs = [.slice A len cap] := by
    rcases open_slice Tryz.underlying25 h with ⟨hcs, _⟩ | ⟨x, l, c, m, n, D, Pl, hcs, _⟩
    · exact ⟨none, 0, 0, hcs⟩
    · exact ⟨some x, l, c, hcs⟩
  obtain ⟨l, h1, h2, h3, h4⟩ := open_list (fun s : Int => [Value.int .i64 s]) 1 (fun _ => rfl) (by decide) wfI Tryz.underlying25 cells_int (fun _ _ _ h => trod_intW h) (A := A) (len := len) (cap := cap) ⟨n, h⟩
  refine ⟨A, len, cap, l, rfl, ?_, h3, h4⟩
  rw [iv_flat l] at h2
  exact h2
set_option maxRecDepth 100000 in
theorem trod_post {n : Nat} {cs : List Value} {y : DataW H × List MemPlace} (h : DataW.trod enc Tryz.prog w base spare held n 33 cs = some y) : ∃ p : Pst, cs = pstC p ∧ PstIn w w.heap.size p ∧ p.w.size ≤ maxLen := by
  obtain ⟨xs, m, _, _, hl, hxl, hf⟩ := DataW.trod_struct Tryz.underlying33 h
  rw [cells_post] at hl
  match cs, hl with
  | [c0, c1], _ =>
    match xs, hxl with
    | [x0, x1], _ =>
      have h0 : DataW.trod enc Tryz.prog w base spare held m 9 (([c0, c1].drop 0).take (Tryz.prog.cellsOf 9)) = some x0 := hf 0 _ rfl
      have h1 : DataW.trod enc Tryz.prog w base spare held m 25 (([c0, c1].drop 1).take (Tryz.prog.cellsOf 25)) = some x1 := hf 1 _ rfl
      rw [cells_str] at h0
      rw [cells_ints] at h1
      obtain ⟨s, e0, hs⟩ := trod_str1 h0
      obtain ⟨A, len, cap, l, e1, k1, k2, k3⟩ := trod_places h1
      simp at e0 e1
      subst e0 e1
      exact ⟨⟨s, A, len, cap, l⟩, rfl, ⟨k1, k2, k3⟩, hs⟩
/-- Postings as an argument. -/
structure PoA where
  A : Option Addr
  n : Nat
  c : Nat
  l : List Pst
def poVal (a : PoA) : Value := .slice a.A a.n a.c
def PoArg (w : World) (a : PoA) : Prop := PsArg w a.A a.n a.l
set_option maxRecDepth 100000 in
theorem open_posts {r : Reach} {b0 : Nat} {v : Value} {d : DataW H} {p : List MemPlace} (hv : Value.okWide Tryz.prog w r b0 28 v) (h : DataW.Trod enc Tryz.prog w base spare held 28 v d p) :
    ∃ a : PoA, v = poVal a ∧ PoArg w a := by
  obtain ⟨A, len, cap, rfl⟩ := okWide_slice Tryz.underlying28 hv
  obtain ⟨l, h1, h2, h3, h4⟩ := open_list pstC 2 (fun _ => rfl) (by decide) (fun p => PstIn w w.heap.size p ∧ p.w.size ≤ maxLen) Tryz.underlying28 cells_post (fun _ _ _ h => trod_post h) h
  have hp : PsArg w A len l := ⟨⟨h2, fun p hp => (h4 p hp).1⟩, h3, fun p hp => (h4 p hp).2⟩
  exact ⟨⟨A, len, cap, l⟩, rfl, hp⟩

/-- A query as an argument: its words can be read, and they lie in their room. -/
def QuInC (w : World) (a : QuA) : Prop := ∃ ws : List ByteArray, ws.length = a.nw ∧ Reads w w.heap.size 1 a.W a.nw (svR ws) ∧ a.nw ≤ maxLen ∧ a.nw ≤ a.cw ∧ ∀ s ∈ ws, s.size ≤ maxLen
set_option maxRecDepth 100000 in
theorem open_queryC {r : Reach} {b0 : Nat} {v : Value} {d : DataW H} {p : List MemPlace} (hv : Value.okWide Tryz.prog w r b0 24 v) (h : DataW.Trod enc Tryz.prog w base spare held 24 v d p) :
    ∃ a : QuA, v = quVal a ∧ QuInC w a := by
  obtain ⟨cs, rfl, hsz⟩ := okWide_struct Tryz.underlying24 hv
  obtain ⟨fuel, hfu⟩ := h
  obtain ⟨xs, m, _, _, hl, hxl, hf⟩ := DataW.trod_struct Tryz.underlying24 hfu
  rw [cells_query] at hl
  obtain ⟨l⟩ := cs
  simp only [Value.cells] at hl hf
  match l, hl with
  | [c0, c1, c2, c3, c4, c5], _ =>
    match xs, hxl with
    | [x0, x1, x2, x3, x4, x5], _ =>
      have h0 : DataW.trod enc Tryz.prog w base spare held m 3 (([c0, c1, c2, c3, c4, c5].drop 0).take (Tryz.prog.cellsOf 3)) = some x0 := hf 0 _ rfl
      have h1 : DataW.trod enc Tryz.prog w base spare held m 3 (([c0, c1, c2, c3, c4, c5].drop 1).take (Tryz.prog.cellsOf 3)) = some x1 := hf 1 _ rfl
      have h2 : DataW.trod enc Tryz.prog w base spare held m 3 (([c0, c1, c2, c3, c4, c5].drop 2).take (Tryz.prog.cellsOf 3)) = some x2 := hf 2 _ rfl
      have h3 : DataW.trod enc Tryz.prog w base spare held m 22 (([c0, c1, c2, c3, c4, c5].drop 3).take (Tryz.prog.cellsOf 22)) = some x3 := hf 3 _ rfl
      have h4 : DataW.trod enc Tryz.prog w base spare held m 3 (([c0, c1, c2, c3, c4, c5].drop 4).take (Tryz.prog.cellsOf 3)) = some x4 := hf 4 _ rfl
      have h5 : DataW.trod enc Tryz.prog w base spare held m 3 (([c0, c1, c2, c3, c4, c5].drop 5).take (Tryz.prog.cellsOf 3)) = some x5 := hf 5 _ rfl
      rw [cells_int] at h0 h1 h2 h4 h5
      rw [cells_texts] at h3
      obtain ⟨a, e0, _, w0⟩ := DataW.trod_int Tryz.underlying3 h0
      obtain ⟨b, e1, _, w1⟩ := DataW.trod_int Tryz.underlying3 h1
      obtain ⟨c, e2, _, w2⟩ := DataW.trod_int Tryz.underlying3 h2
      obtain ⟨A, len, cap, l, e3, k1, k2, k3, k4⟩ := trod_texts h3
      obtain ⟨r, e4, _, w4⟩ := DataW.trod_int Tryz.underlying3 h4
      obtain ⟨mo, e5, _, w5⟩ := DataW.trod_int Tryz.underlying3 h5
      simp at e0 e1 e2 e3 e4 e5
      subst e0 e1 e2 e3 e4 e5
      have hc := open_cap Tryz.underlying22 (A := A) (len := len) (cap := cap) ⟨m, h3⟩
      exact ⟨⟨a, b, c, A, len, cap, r, mo⟩, rfl, l, k1, k2, k3, hc, k4⟩
end
end Go.Proofs.YtpdnipabaimofaaGreat
