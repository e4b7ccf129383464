/-
  Graphs that came in.
-/
import Derived.Test.YtmnjlhifjjainaaGreatImages
import Derived.Test.YtmnjlhifjjainaaGreatOpen
import Derived.Deep.Fields
namespace Go.Proofs.YtmnjlhifjjainaaGreat
open Go.RowKit Go.Deep Go.ChangeShapes Go.WideShapes

section
variable {H : Type} {enc : TypeId × Value → H} {w : World} {base : Nat} {spare : Nat → Bool} {held : Bool}

theorem cells_int : Tryz.prog.cellsOf 3 = 1 := by kernel_rfl
theorem cells_str : Tryz.prog.cellsOf 9 = 1 := by kernel_rfl
theorem cells_texts : Tryz.prog.cellsOf 35 = 1 := by kernel_rfl
theorem cells_edge : Tryz.prog.cellsOf 38 = 2 := by kernel_rfl
theorem cells_edges : Tryz.prog.cellsOf 22 = 1 := by kernel_rfl
theorem cells_rows : Tryz.prog.cellsOf 23 = 1 := by kernel_rfl
theorem cells_graph : Tryz.prog.cellsOf 25 = 3 := by kernel_rfl

theorem trod_str1 {n : Nat} {cs : List Value} {y : DataW H × List MemPlace} (h : DataW.trod enc Tryz.prog w base spare held n 9 cs = some y) : ∃ x : ByteArray, cs = [.string x] ∧ x.size ≤ maxLen := by
  obtain ⟨s, e, _, hs⟩ := DataW.trod_string Tryz.underlying9 h
  exact ⟨s, e, hs⟩
theorem sv_flat : ∀ l : List ByteArray, l.flatMap (fun s : ByteArray => [Value.string s]) = sv l
  | [] => rfl
  | x :: xs => by
    rw [List.flatMap_cons, sv_flat xs]
    rfl
/-- A row of texts, as a slice. -/
structure RowA where
  A : Option Addr
  n : Nat
  c : Nat
  l : List ByteArray
def rowVal (r : RowA) : Value := .slice r.A r.n r.c
def RowIn (w : World) (r : RowA) : Prop := Reads w w.heap.size 1 r.A r.n (sv r.l) ∧ r.n ≤ maxLen
theorem trod_texts {n : Nat} {cs : List Value} {y : DataW H × List MemPlace} (h : DataW.trod enc Tryz.prog w base spare held n 35 cs = some y) :
    ∃ r : RowA, cs = [rowVal r] ∧ RowIn w r := by
  obtain ⟨A, len, cap, rfl⟩ : ∃ A len cap, cs = [.slice A len cap] := by
    rcases open_slice Tryz.underlying35 h with ⟨hcs, _⟩ | ⟨x, l, c, m, n, D, Pl, hcs, _⟩
    · exact ⟨none, 0, 0, hcs⟩
    · exact ⟨some x, l, c, hcs⟩
  obtain ⟨l, h1, h2, h3, _⟩ := open_list (fun s : ByteArray => [Value.string s]) 1 (fun _ => rfl) (by decide) (fun s => s.size ≤ maxLen) Tryz.underlying35 cells_str (fun _ _ _ h => trod_str1 h) (A := A) (len := len) (cap := cap) ⟨n, h⟩
  refine ⟨⟨A, len, cap, l⟩, rfl, ?_, h3⟩
  rw [sv_flat l] at h2
  exact h2
set_option maxRecDepth 100000 in
theorem trod_edge {n : Nat} {cs : List Value} {y : DataW H × List MemPlace} (h : DataW.trod enc Tryz.prog w base spare held n 38 cs = some y) : ∃ m : Edg, cs = ec m ∧ True := by
  obtain ⟨xs, m, _, _, hl, hxl, hf⟩ := DataW.trod_struct Tryz.underlying38 h
  rw [cells_edge] at hl
  match cs, hl with
  | [c0, c1], _ =>
    match xs, hxl with
    | [x0, x1], _ =>
      have h0 : DataW.trod enc Tryz.prog w base spare held m 3 (([c0, c1].drop 0).take (Tryz.prog.cellsOf 3)) = some x0 := hf 0 _ rfl
      have h1 : DataW.trod enc Tryz.prog w base spare held m 3 (([c0, c1].drop 1).take (Tryz.prog.cellsOf 3)) = some x1 := hf 1 _ rfl
      rw [cells_int] at h0 h1
      obtain ⟨a, e0, _, w0⟩ := DataW.trod_int Tryz.underlying3 h0
      obtain ⟨b, e1, _, w1⟩ := DataW.trod_int Tryz.underlying3 h1
      simp at e0 e1
      subst e0 e1
      exact ⟨⟨a, b⟩, rfl, trivial⟩
theorem trod_edges {n : Nat} {cs : List Value} {y : DataW H × List MemPlace} (h : DataW.trod enc Tryz.prog w base spare held n 22 cs = some y) :
    ∃ (A : Option Addr) (len cap : Nat) (l : List Edg), cs = [.slice A len cap] ∧ Reads w w.heap.size 2 A len (ev l) ∧ len ≤ maxLen := by
  obtain ⟨A, len, cap, rfl⟩ : ∃ A len cap, cs = [.slice A len cap] := by
    rcases open_slice Tryz.underlying22 h with ⟨hcs, _⟩ | ⟨x, l, c, m, n, D, Pl, hcs, _⟩
    · exact ⟨none, 0, 0, hcs⟩
    · exact ⟨some x, l, c, hcs⟩
  obtain ⟨l, h1, h2, h3, _⟩ := open_list ec 2 ec_len (by decide) (fun _ => True) Tryz.underlying22 cells_edge (fun _ _ _ h => trod_edge h) (A := A) (len := len) (cap := cap) ⟨n, h⟩
  exact ⟨A, len, cap, l, rfl, h2, h3⟩
theorem trod_rows {n : Nat} {cs : List Value} {y : DataW H × List MemPlace} (h : DataW.trod enc Tryz.prog w base spare held n 23 cs = some y) :
    ∃ (A : Option Addr) (len cap : Nat) (l : List RowA), cs = [.slice A len cap] ∧ Reads w w.heap.size 1 A len (l.map rowVal) ∧ len ≤ maxLen ∧ ∀ r ∈ l, RowIn w r := by
  obtain ⟨A, len, cap, rfl⟩ : ∃ A len cap, cs = [.slice A len cap] := by
    rcases open_slice Tryz.underlying23 h with ⟨hcs, _⟩ | ⟨x, l, c, m, n, D, Pl, hcs, _⟩
    · exact ⟨none, 0, 0, hcs⟩
    · exact ⟨some x, l, c, hcs⟩
  obtain ⟨l, h1, h2, h3, h4⟩ := open_list (fun r : RowA => [rowVal r]) 1 (fun _ => rfl) (by decide) (RowIn w) Tryz.underlying23 cells_texts (fun _ _ _ h => trod_texts h) (A := A) (len := len) (cap := cap) ⟨n, h⟩
  refine ⟨A, len, cap, l, rfl, ?_, h3, h4⟩
  have e : ∀ m : List RowA, m.flatMap (fun r : RowA => [rowVal r]) = m.map rowVal := by
    intro m
    induction m with
    | nil => rfl
    | cons x xs ih => rw [List.flatMap_cons, ih]; rfl
  rw [e] at h2
  exact h2

/-- A graph as an argument. -/
structure GrA where
  g : Gr
  A1 : Option Addr
  n1 : Nat
  c1 : Nat
  A2 : Option Addr
  n2 : Nat
  c2 : Nat
  vs : List Value
def grVal (a : GrA) : Value := .agg #[.int .i64 a.g.n, .slice a.A1 a.n1 a.c1, .slice a.A2 a.n2 a.c2]
def GrArg (w : World) (a : GrA) : Prop := GrIn w w.heap.size a.g a.A1 a.n1 a.A2 a.n2 a.vs

set_option maxRecDepth 100000 in
theorem open_gr {r : Reach} {b0 : Nat} {v : Value} {d : DataW H} {p : List MemPlace} (hv : Value.okWide Tryz.prog w r b0 25 v) (h : DataW.Trod enc Tryz.prog w base spare held 25 v d p) :
    ∃ a : GrA, v = grVal a ∧ GrArg w a := by
  obtain ⟨cs, rfl, hsz⟩ := okWide_struct Tryz.underlying25 hv
  obtain ⟨fuel, hfu⟩ := h
  obtain ⟨xs, m, _, _, hl, hxl, hf⟩ := DataW.trod_struct Tryz.underlying25 hfu
  rw [cells_graph] at hl
  obtain ⟨l⟩ := cs
  simp only [Value.cells] at hl hf
  match l, hl with
  | [c0, c1, c2], _ =>
    match xs, hxl with
    | [x0, x1, x2], _ =>
      have h0 : DataW.trod enc Tryz.prog w base spare held m 3 (([c0, c1, c2].drop 0).take (Tryz.prog.cellsOf 3)) = some x0 := hf 0 _ rfl
      have h1 : DataW.trod enc Tryz.prog w base spare held m 22 (([c0, c1, c2].drop 1).take (Tryz.prog.cellsOf 22)) = some x1 := hf 1 _ rfl
      have h2 : DataW.trod enc Tryz.prog w base spare held m 23 (([c0, c1, c2].drop 2).take (Tryz.prog.cellsOf 23)) = some x2 := hf 2 _ rfl
      rw [cells_int] at h0
      rw [cells_edges] at h1
      rw [cells_rows] at h2
      obtain ⟨a, e0, _, w0⟩ := DataW.trod_int Tryz.underlying3 h0
      obtain ⟨A1, n1, k1, es, e1, r1, m1⟩ := trod_edges h1
      obtain ⟨A2, n2, k2, rs, e2, r2, m2, hrs⟩ := trod_rows h2
      simp at e0 e1 e2
      subst e0 e1 e2
      refine ⟨⟨⟨a, es, rs.map RowA.l⟩, A1, n1, k1, A2, n2, k2, rs.map rowVal⟩, rfl, r1, r2, ⟨?_, fun i v rr hv hr => ?_⟩, m1, m2⟩
      · show (rs.map rowVal).length = (wv (rs.map RowA.l)).length
        rw [wv_len, List.length_map, List.length_map]
      · have hv : (rs.map rowVal)[i]? = some v := hv
        have hr : (wv (rs.map RowA.l))[i]? = some rr := hr
        rw [List.getElem?_map] at hv
        rw [wv, List.getElem?_map, List.getElem?_map] at hr
        cases hx : rs[i]? with
        | none => rw [hx] at hv; cases hv
        | some x =>
          rw [hx] at hv hr
          injection hv with hv
          injection hr with hr
          subst hv hr
          obtain ⟨q1, q2⟩ := hrs x (List.mem_of_getElem? hx)
          exact ⟨x.A, x.n, x.c, rfl, q2, q1⟩
end
end Go.Proofs.YtmnjlhifjjainaaGreat
