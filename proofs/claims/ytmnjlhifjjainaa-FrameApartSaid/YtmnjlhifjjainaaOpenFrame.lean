/-
  Requests and replies that came in.
-/
import Derived.Test.YtmnjlhifjjainaaFramed
import Derived.Test.YtmnjlhifjjainaaOpen
import Derived.Deep.Fields
namespace Go.Proofs.Ytmnjlhifjjainaa
open Go.RowKit Go.Deep Go.ChangeShapes Go.WideShapes

section
variable {H : Type} {enc : TypeId × Value → H} {w : World} {base : Nat} {spare : Nat → Bool} {held : Bool}

theorem cells_int : Try.prog.cellsOf 3 = 1 := by kernel_rfl
theorem cells_errno : Try.prog.cellsOf 28 = 1 := by kernel_rfl
theorem cells_bool : Try.prog.cellsOf 4 = 1 := by kernel_rfl
theorem cells_str : Try.prog.cellsOf 9 = 1 := by kernel_rfl
theorem cells_texts : Try.prog.cellsOf 22 = 1 := by kernel_rfl
theorem cells_hits : Try.prog.cellsOf 36 = 1 := by kernel_rfl
theorem cells_hit : Try.prog.cellsOf 88 = 2 := by kernel_rfl
theorem cells_query : Try.prog.cellsOf 24 = 6 := by kernel_rfl
theorem cells_request : Try.prog.cellsOf 26 = 8 := by kernel_rfl
theorem cells_answer : Try.prog.cellsOf 38 = 3 := by kernel_rfl
theorem cells_reply : Try.prog.cellsOf 40 = 5 := by kernel_rfl

theorem trod_str1 {n : Nat} {cs : List Value} {y : DataW H × List MemPlace} (h : DataW.trod enc Try.prog w base spare held n 9 cs = some y) : ∃ x : ByteArray, cs = [.string x] ∧ x.size ≤ maxLen := by
  obtain ⟨s, e, _, hs⟩ := DataW.trod_string Try.underlying9 h
  exact ⟨s, e, hs⟩
theorem sv_flat : ∀ l : List ByteArray, l.flatMap (fun s : ByteArray => [Value.string s]) = sv l
  | [] => rfl
  | x :: xs => by
    rw [List.flatMap_cons, sv_flat xs]
    rfl
theorem trod_texts {n : Nat} {cs : List Value} {y : DataW H × List MemPlace} (h : DataW.trod enc Try.prog w base spare held n 22 cs = some y) :
    ∃ (A : Option Addr) (len cap : Nat) (l : List ByteArray), cs = [.slice A len cap] ∧ l.length = len ∧ Reads w w.heap.size 1 A len (sv l) ∧ len ≤ maxLen := by
  obtain ⟨A, len, cap, rfl⟩ : ∃ A len cap, cs = [.slice A len cap] := by
    rcases open_slice Try.underlying22 h with ⟨hcs, _⟩ | ⟨x, l, c, m, n, D, Pl, hcs, _⟩
    · exact ⟨none, 0, 0, hcs⟩
    · exact ⟨some x, l, c, hcs⟩
  obtain ⟨l, h1, h2, h3, _⟩ := open_list (fun s : ByteArray => [Value.string s]) 1 (fun _ => rfl) (by decide) (fun s => s.size ≤ maxLen) Try.underlying22 cells_str (fun _ _ _ h => trod_str1 h) (A := A) (len := len) (cap := cap) ⟨n, h⟩
  refine ⟨A, len, cap, l, rfl, h1, ?_, h3⟩
  have e : l.flatMap (fun s : ByteArray => [Value.string s]) = sv l := by
    exact sv_flat l
  rw [e] at h2
  exact h2
set_option maxRecDepth 100000 in
theorem trod_hit {n : Nat} {cs : List Value} {y : DataW H × List MemPlace} (h : DataW.trod enc Try.prog w base spare held n 88 cs = some y) : ∃ m : Hit, cs = hc m ∧ True := by
  obtain ⟨xs, m, _, _, hl, hxl, hf⟩ := DataW.trod_struct Try.underlying88 h
  rw [cells_hit] at hl
  match cs, hl with
  | [c0, c1], _ =>
    match xs, hxl with
    | [x0, x1], _ =>
      have h0 : DataW.trod enc Try.prog w base spare held m 3 (([c0, c1].drop 0).take (Try.prog.cellsOf 3)) = some x0 := hf 0 _ rfl
      have h1 : DataW.trod enc Try.prog w base spare held m 3 (([c0, c1].drop 1).take (Try.prog.cellsOf 3)) = some x1 := hf 1 _ rfl
      rw [cells_int] at h0 h1
      obtain ⟨a, e0, _, w0⟩ := DataW.trod_int Try.underlying3 h0
      obtain ⟨b, e1, _, w1⟩ := DataW.trod_int Try.underlying3 h1
      simp at e0 e1
      subst e0 e1
      exact ⟨⟨a, b⟩, rfl, trivial⟩
theorem trod_hits {n : Nat} {cs : List Value} {y : DataW H × List MemPlace} (h : DataW.trod enc Try.prog w base spare held n 36 cs = some y) :
    ∃ (A : Option Addr) (len cap : Nat) (l : List Hit), cs = [.slice A len cap] ∧ l.length = len ∧ Reads w w.heap.size 2 A len (hv l) ∧ len ≤ maxLen := by
  obtain ⟨A, len, cap, rfl⟩ : ∃ A len cap, cs = [.slice A len cap] := by
    rcases open_slice Try.underlying36 h with ⟨hcs, _⟩ | ⟨x, l, c, m, n, D, Pl, hcs, _⟩
    · exact ⟨none, 0, 0, hcs⟩
    · exact ⟨some x, l, c, hcs⟩
  obtain ⟨l, h1, h2, h3, _⟩ := open_list hc 2 hc_len (by decide) (fun _ => True) Try.underlying36 cells_hit (fun _ _ _ h => trod_hit h) (A := A) (len := len) (cap := cap) ⟨n, h⟩
  exact ⟨A, len, cap, l, rfl, h1, h2, h3⟩

set_option maxRecDepth 100000 in
theorem trod_query {n : Nat} {cs : List Value} {y : DataW H × List MemPlace} (h : DataW.trod enc Try.prog w base spare held n 24 cs = some y) :
    ∃ (q : Qry) (A : Option Addr) (len cap : Nat), cs = [.int .i64 q.kind, .int .i64 q.src, .int .i64 q.dst, .slice A len cap, .int .i64 q.radius, .int .i64 q.most] ∧ Reads w w.heap.size 1 A len (sv q.words) ∧ len ≤ maxLen := by
  obtain ⟨xs, m, _, _, hl, hxl, hf⟩ := DataW.trod_struct Try.underlying24 h
  rw [cells_query] at hl
  match cs, hl with
  | [c0, c1, c2, c3, c4, c5], _ =>
    match xs, hxl with
    | [x0, x1, x2, x3, x4, x5], _ =>
      have h0 : DataW.trod enc Try.prog w base spare held m 3 (([c0, c1, c2, c3, c4, c5].drop 0).take (Try.prog.cellsOf 3)) = some x0 := hf 0 _ rfl
      have h1 : DataW.trod enc Try.prog w base spare held m 3 (([c0, c1, c2, c3, c4, c5].drop 1).take (Try.prog.cellsOf 3)) = some x1 := hf 1 _ rfl
      have h2 : DataW.trod enc Try.prog w base spare held m 3 (([c0, c1, c2, c3, c4, c5].drop 2).take (Try.prog.cellsOf 3)) = some x2 := hf 2 _ rfl
      have h3 : DataW.trod enc Try.prog w base spare held m 22 (([c0, c1, c2, c3, c4, c5].drop 3).take (Try.prog.cellsOf 22)) = some x3 := hf 3 _ rfl
      have h4 : DataW.trod enc Try.prog w base spare held m 3 (([c0, c1, c2, c3, c4, c5].drop 4).take (Try.prog.cellsOf 3)) = some x4 := hf 4 _ rfl
      have h5 : DataW.trod enc Try.prog w base spare held m 3 (([c0, c1, c2, c3, c4, c5].drop 5).take (Try.prog.cellsOf 3)) = some x5 := hf 5 _ rfl
      rw [cells_int] at h0 h1 h2 h4 h5
      rw [cells_texts] at h3
      obtain ⟨a, e0, _, w0⟩ := DataW.trod_int Try.underlying3 h0
      obtain ⟨b, e1, _, w1⟩ := DataW.trod_int Try.underlying3 h1
      obtain ⟨c, e2, _, w2⟩ := DataW.trod_int Try.underlying3 h2
      obtain ⟨A, len, cap, l, e3, k1, k2, k3⟩ := trod_texts h3
      obtain ⟨r, e4, _, w4⟩ := DataW.trod_int Try.underlying3 h4
      obtain ⟨mo, e5, _, w5⟩ := DataW.trod_int Try.underlying3 h5
      simp at e0 e1 e2 e3 e4 e5
      subst e0 e1 e2 e3 e4 e5
      exact ⟨⟨a, b, c, l, r, mo⟩, A, len, cap, rfl, k2, k3⟩

/-- A request as an argument. -/
structure ReqA where
  x : Req
  A : Option Addr
  n : Nat
  c : Nat
def reqVal (a : ReqA) : Value := .agg #[.int .i64 a.x.id, .int .i64 a.x.kind, .int .i64 a.x.q.kind, .int .i64 a.x.q.src, .int .i64 a.x.q.dst, .slice a.A a.n a.c, .int .i64 a.x.q.radius, .int .i64 a.x.q.most]
def ReqIn (w : World) (a : ReqA) : Prop := Reads w w.heap.size 1 a.A a.n (sv a.x.q.words) ∧ a.n ≤ maxLen
/-- A reply as an argument. -/
structure RepA where
  x : Rep
  A : Option Addr
  n : Nat
  c : Nat
def repVal (a : RepA) : Value := .agg #[.int .i64 a.x.id, .int .i64 a.x.code, .bool a.x.found, .int .i64 a.x.d, .slice a.A a.n a.c]
def RepIn (w : World) (a : RepA) : Prop := Reads w w.heap.size 2 a.A a.n (hv a.x.hits) ∧ a.n ≤ maxLen

set_option maxRecDepth 100000 in
theorem open_req {r : Reach} {b0 : Nat} {v : Value} {d : DataW H} {p : List MemPlace} (hv : Value.okWide Try.prog w r b0 26 v) (h : DataW.Trod enc Try.prog w base spare held 26 v d p) :
    ∃ a : ReqA, v = reqVal a ∧ ReqIn w a := by
  obtain ⟨cs, rfl, hsz⟩ := okWide_struct Try.underlying26 hv
  obtain ⟨fuel, hfu⟩ := h
  obtain ⟨xs, m, _, _, hl, hxl, hf⟩ := DataW.trod_struct Try.underlying26 hfu
  rw [cells_request] at hl
  obtain ⟨l⟩ := cs
  simp only [Value.cells] at hl hf
  match l, hl with
  | [c0, c1, c2, c3, c4, c5, c6, c7], _ =>
    match xs, hxl with
    | [x0, x1, x2], _ =>
      have h0 : DataW.trod enc Try.prog w base spare held m 3 (([c0, c1, c2, c3, c4, c5, c6, c7].drop 0).take (Try.prog.cellsOf 3)) = some x0 := hf 0 _ rfl
      have h1 : DataW.trod enc Try.prog w base spare held m 3 (([c0, c1, c2, c3, c4, c5, c6, c7].drop 1).take (Try.prog.cellsOf 3)) = some x1 := hf 1 _ rfl
      have h2 : DataW.trod enc Try.prog w base spare held m 24 (([c0, c1, c2, c3, c4, c5, c6, c7].drop 2).take (Try.prog.cellsOf 24)) = some x2 := hf 2 _ rfl
      rw [cells_int] at h0 h1
      rw [cells_query] at h2
      obtain ⟨a, e0, _, w0⟩ := DataW.trod_int Try.underlying3 h0
      obtain ⟨b, e1, _, w1⟩ := DataW.trod_int Try.underlying3 h1
      obtain ⟨q, A, len, cap, e2, k1, k2⟩ := trod_query h2
      simp at e0 e1 e2
      obtain ⟨rfl, rfl, rfl, rfl, rfl, rfl⟩ := e2
      subst e0 e1
      exact ⟨⟨⟨a, b, q⟩, A, len, cap⟩, rfl, k1, k2⟩

set_option maxRecDepth 100000 in
theorem trod_answer {n : Nat} {cs : List Value} {y : DataW H × List MemPlace} (h : DataW.trod enc Try.prog w base spare held n 38 cs = some y) :
    ∃ (f : Bool) (d : Int) (l : List Hit) (A : Option Addr) (len cap : Nat), cs = [.bool f, .int .i64 d, .slice A len cap] ∧ Reads w w.heap.size 2 A len (hv l) ∧ len ≤ maxLen := by
  obtain ⟨xs, m, _, _, hl, hxl, hf⟩ := DataW.trod_struct Try.underlying38 h
  rw [cells_answer] at hl
  match cs, hl with
  | [c0, c1, c2], _ =>
    match xs, hxl with
    | [x0, x1, x2], _ =>
      have h0 : DataW.trod enc Try.prog w base spare held m 4 (([c0, c1, c2].drop 0).take (Try.prog.cellsOf 4)) = some x0 := hf 0 _ rfl
      have h1 : DataW.trod enc Try.prog w base spare held m 3 (([c0, c1, c2].drop 1).take (Try.prog.cellsOf 3)) = some x1 := hf 1 _ rfl
      have h2 : DataW.trod enc Try.prog w base spare held m 36 (([c0, c1, c2].drop 2).take (Try.prog.cellsOf 36)) = some x2 := hf 2 _ rfl
      rw [cells_bool] at h0
      rw [cells_int] at h1
      rw [cells_hits] at h2
      obtain ⟨f, e0, _⟩ := DataW.trod_bool Try.underlying4 h0
      obtain ⟨d, e1, _, w1⟩ := DataW.trod_int Try.underlying3 h1
      obtain ⟨A, len, cap, l, e2, k1, k2, k3⟩ := trod_hits h2
      simp at e0 e1 e2
      subst e0 e1 e2
      exact ⟨f, d, l, A, len, cap, rfl, k2, k3⟩

set_option maxRecDepth 100000 in
theorem open_rep {r : Reach} {b0 : Nat} {v : Value} {d : DataW H} {p : List MemPlace} (hv : Value.okWide Try.prog w r b0 40 v) (h : DataW.Trod enc Try.prog w base spare held 40 v d p) :
    ∃ a : RepA, v = repVal a ∧ RepIn w a := by
  obtain ⟨cs, rfl, hsz⟩ := okWide_struct Try.underlying40 hv
  obtain ⟨fuel, hfu⟩ := h
  obtain ⟨xs, m, _, _, hl, hxl, hf⟩ := DataW.trod_struct Try.underlying40 hfu
  rw [cells_reply] at hl
  obtain ⟨l⟩ := cs
  simp only [Value.cells] at hl hf
  match l, hl with
  | [c0, c1, c2, c3, c4], _ =>
    match xs, hxl with
    | [x0, x1, x2], _ =>
      have h0 : DataW.trod enc Try.prog w base spare held m 3 (([c0, c1, c2, c3, c4].drop 0).take (Try.prog.cellsOf 3)) = some x0 := hf 0 _ rfl
      have h1 : DataW.trod enc Try.prog w base spare held m 28 (([c0, c1, c2, c3, c4].drop 1).take (Try.prog.cellsOf 28)) = some x1 := hf 1 _ rfl
      have h2 : DataW.trod enc Try.prog w base spare held m 38 (([c0, c1, c2, c3, c4].drop 2).take (Try.prog.cellsOf 38)) = some x2 := hf 2 _ rfl
      rw [cells_int] at h0
      rw [cells_errno] at h1
      rw [cells_answer] at h2
      obtain ⟨a, e0, _, w0⟩ := DataW.trod_int Try.underlying3 h0
      obtain ⟨b, e1, _, w1⟩ := DataW.trod_int Try.underlying28 h1
      obtain ⟨f, dd, l, A, len, cap, e2, k1, k2⟩ := trod_answer h2
      simp at e0 e1 e2
      obtain ⟨rfl, rfl, rfl⟩ := e2
      subst e0 e1
      exact ⟨⟨⟨a, b, f, dd, l⟩, A, len, cap⟩, rfl, k1, k2⟩
end
end Go.Proofs.Ytmnjlhifjjainaa
