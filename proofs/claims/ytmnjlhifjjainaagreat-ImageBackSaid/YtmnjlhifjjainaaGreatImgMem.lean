/-
  Words for memory: edges, texts, rows of texts, graphs.
-/
import Derived.Test.YtmnjlhifjjainaaGreatProg
import Derived.Test.YtmnjlhifjjainaaGreatImgPlain
import Derived.Test.YtmnjlhifjjainaaGreatRowsL
namespace Go.Proofs.YtmnjlhifjjainaaGreat
open Go.RowKit

theorem below_one (w : World) (o : Obj) : Below w.heap.size w (w.alloc o) := (Below.refl _ _).alloc (Nat.le_refl _) o

/-- Texts as cells. -/
def sv (l : List ByteArray) : List Value := l.map Value.string
theorem sv_get {l : List ByteArray} {k : Nat} {u : Value} (h : (sv l)[k]? = some u) : ∃ x, l[k]? = some x ∧ u = .string x := by
  unfold sv at h
  rw [List.getElem?_map] at h
  cases hl : l[k]? with
  | none => rw [hl] at h; cases h
  | some x => rw [hl] at h; exact ⟨x, rfl, by cases h; rfl⟩
theorem sv_append (l m : List ByteArray) : sv (l ++ m) = sv l ++ sv m := by simp [sv]
theorem sv_len (l : List ByteArray) : (sv l).length = l.length := by simp [sv]
theorem sv_one (l : List ByteArray) : ∀ u ∈ sv l, u.oneCell' = true := by
  intro u hu
  simp only [sv, List.mem_map] at hu
  obtain ⟨x, _, rfl⟩ := hu
  rfl
theorem sv_inj : ∀ {l m : List ByteArray}, sv l = sv m → l = m
  | [], [], _ => rfl
  | [], _ :: _, h => by cases h
  | _ :: _, [], h => by cases h
  | a :: l, b :: m, h => by
    simp only [sv, List.map_cons, List.cons.injEq] at h
    obtain ⟨h1, h2⟩ := h
    injection h1 with h1
    rw [h1, sv_inj h2]

/-- Edges as cells. -/
def ec (e : Edg) : List Value := [.int .i64 e.src, .int .i64 e.dst]
def ev (l : List Edg) : List Value := l.flatMap ec
theorem ec_len (e : Edg) : (ec e).length = 2 := rfl
theorem ev_len (l : List Edg) : (ev l).length = l.length * 2 := flat_len ec 2 ec_len l
theorem ev_append (l m : List Edg) : ev (l ++ m) = ev l ++ ev m := List.flatMap_append
theorem ec_one (e : Edg) : ∀ u ∈ ec e, u.oneCell' = true := by
  intro u hu
  simp only [ec, List.mem_cons, List.not_mem_nil, or_false] at hu
  rcases hu with rfl | rfl <;> rfl
theorem ev_one (l : List Edg) : ∀ u ∈ ev l, u.oneCell' = true := by
  intro u hu
  obtain ⟨m, _, hm⟩ := List.mem_flatMap.1 hu
  exact ec_one m u hm
def wv (l : List (List ByteArray)) : List (List Value) := l.map sv
theorem wv_len (l : List (List ByteArray)) : (wv l).length = l.length := by simp [wv]
theorem wv_get {l : List (List ByteArray)} {k : Nat} {x : List ByteArray} (h : l[k]? = some x) : (wv l)[k]? = some (sv x) := by rw [wv, List.getElem?_map, h]; rfl
theorem wv_append (l m : List (List ByteArray)) : wv (l ++ m) = wv l ++ wv m := by simp [wv]

section
variable {w w' : World} {B n : Nat} {A : Option Addr}
theorem Reads.str_at {xs : List ByteArray} {k : Nat} (h : Reads w B 1 A n (sv xs)) (hk : k < n) :
    ∃ b o x, A = some ⟨b, o, none⟩ ∧ Hid (xs[k]? = some x) ∧ w.cell? ⟨b, o + k, none⟩ = some (.string x) := by
  obtain ⟨b, o, e, _, hc⟩ := h.2 (by omega)
  have hl : xs.length = n := by have := h.1; simpa [sv] using this
  have hx : xs[k]? = some (xs[k]'(by omega)) := List.getElem?_eq_getElem (by omega)
  exact ⟨b, o, _, e, hx, hc k _ (by simp [sv, hx])⟩
theorem Reads.str_len {xs : List ByteArray} (h : Reads w B 1 A n (sv xs)) : xs.length = n := by
  have := h.1; simpa [sv] using this
theorem Reads.edge_len {xs : List Edg} (h : Reads w B 2 A n (ev xs)) : xs.length = n := by
  have := h.1; rw [ev_len] at this; omega
theorem Reads.edge_at {xs : List Edg} {k : Nat} (h : Reads w B 2 A n (ev xs)) (hk : k < n) :
    ∃ b o m, A = some ⟨b, o, none⟩ ∧ Hid (xs[k]? = some m) ∧ w.cell? ⟨b, o + k * 2, none⟩ = some (.int .i64 m.src) ∧ w.cell? ⟨b, o + k * 2 + 1, none⟩ = some (.int .i64 m.dst) := by
  have hl := h.edge_len
  obtain ⟨b, o, e, _, hc'⟩ := h.2 (by omega)
  have hx : xs[k]? = some (xs[k]'(by omega)) := List.getElem?_eq_getElem (by omega)
  have hf := fun r hr => flat_get ec 2 ec_len xs k r _ hx hr
  exact ⟨b, o, _, e, hx, hc' _ _ (hf 0 (by omega)), by rw [Nat.add_assoc]; exact hc' _ _ (hf 1 (by omega))⟩
end

/-- A graph that can be read. -/
structure GrIn (w : World) (B : Nat) (g : Gr) (A1 : Option Addr) (n1 : Nat) (A2 : Option Addr) (n2 : Nat) (vs : List Value) : Prop where
  es : Reads w B 2 A1 n1 (ev g.es)
  rows : Reads w B 1 A2 n2 vs
  words : RowsRead w B 1 vs (wv g.ws)
  m1 : n1 ≤ maxLen
  m2 : n2 ≤ maxLen
section
variable {w w' : World} {B B' n1 n2 : Nat} {A1 A2 : Option Addr} {g : Gr} {vs : List Value}
theorem GrIn.below (h : GrIn w B g A1 n1 A2 n2 vs) (hB : Below B w w') : GrIn w' B g A1 n1 A2 n2 vs := ⟨h.es.below hB, h.rows.below hB, h.words.below hB, h.m1, h.m2⟩
theorem GrIn.more (h : GrIn w B g A1 n1 A2 n2 vs) (hB : B ≤ B') : GrIn w B' g A1 n1 A2 n2 vs := ⟨h.es.more hB, h.rows.more hB, h.words.more hB, h.m1, h.m2⟩
theorem GrIn.len1 (h : GrIn w B g A1 n1 A2 n2 vs) : g.es.length = n1 := h.es.edge_len
theorem GrIn.len2 (h : GrIn w B g A1 n1 A2 n2 vs) : g.ws.length = n2 := by
  have e1 := h.rows.1
  have e2 := h.words.1
  rw [wv_len] at e2
  omega
theorem GrIn.row_at (h : GrIn w B g A1 n1 A2 n2 vs) {k : Nat} (hk : k < n2) :
    ∃ b o A n c l, A2 = some ⟨b, o, none⟩ ∧ Hid (g.ws[k]? = some l) ∧ w.cell? ⟨b, o + k, none⟩ = some (.slice A n c) ∧ n ≤ maxLen ∧ Reads w B 1 A n (sv l) := by
  have hl := h.len2
  have hx : g.ws[k]? = some (g.ws[k]'(by omega)) := List.getElem?_eq_getElem (by omega)
  obtain ⟨A, n, c, hv, hn, hr⟩ := h.words.at_ (wv_get hx)
  obtain ⟨b, o, e, hc⟩ := h.rows.val_at hv
  exact ⟨b, o, A, n, c, _, e, hx, hc, hn, hr⟩
theorem GrIn.row_of (h : GrIn w B g A1 n1 A2 n2 vs) {k n c : Nat} {A : Option Addr} {l : List ByteArray} (hv : vs[k]? = some (.slice A n c)) (hl : g.ws[k]? = some l) :
    ∃ b o, A2 = some ⟨b, o, none⟩ ∧ w.cell? ⟨b, o + k, none⟩ = some (.slice A n c) ∧ n ≤ maxLen ∧ Reads w B 1 A n (sv l) := by
  obtain ⟨A', n', c', hv', hn, hr⟩ := h.words.at_ (wv_get hl)
  rw [hv] at hv'
  cases hv'
  obtain ⟨b, o, e, hc⟩ := h.rows.val_at hv
  exact ⟨b, o, e, hc, hn, hr⟩
theorem GrIn.row_is (h : GrIn w B g A1 n1 A2 n2 vs) {k : Nat} (hk : k < n2) : ∃ A n c l, Hid (vs[k]? = some (.slice A n c)) ∧ Hid (g.ws[k]? = some l) := by
  have hl := h.len2
  have hx : g.ws[k]? = some (g.ws[k]'(by omega)) := List.getElem?_eq_getElem (by omega)
  obtain ⟨A, n, c, hv, _, _⟩ := h.words.at_ (wv_get hx)
  exact ⟨A, n, c, _, hv, hx⟩
theorem GrIn.new (h : GrIn w w.heap.size g A1 n1 A2 n2 vs) (hB : Below w.heap.size w w') : GrIn w' w'.heap.size g A1 n1 A2 n2 vs := (h.below hB).more hB.size
theorem grIn_no (w : World) (B : Nat) : GrIn w B noG none 0 none 0 [] := ⟨Reads.none_, Reads.none_, ⟨rfl, fun i v r h => by simp at h⟩, by simp [maxLen], by simp [maxLen]⟩
end

/-- A graph in its cells. -/
def GAt (w : World) (b : Nat) (m : Int) (A1 : Option Addr) (n1 c1 : Nat) (A2 : Option Addr) (n2 c2 : Nat) : Prop := w.heap[b]? = some (.cells #[.int .i64 m, .slice A1 n1 c1, .slice A2 n2 c2] 25 (0, 0))
section
variable {w w' : World} {b n1 c1 n2 c2 d e : Nat} {m : Int} {A1 A2 A3 : Option Addr}
theorem GAt.new (w : World) (m : Int) (A1 : Option Addr) (n1 c1 : Nat) (A2 : Option Addr) (n2 c2 : Nat) : GAt (w.alloc (.cells #[.int .i64 m, .slice A1 n1 c1, .slice A2 n2 c2] 25)) w.heap.size m A1 n1 c1 A2 n2 c2 := Array.getElem?_push_size
theorem GAt.cells (h : GAt w b m A1 n1 c1 A2 n2 c2) : w.cell? ⟨b, 0, none⟩ = some (.int .i64 m) ∧ w.cell? ⟨b, 1, none⟩ = some (.slice A1 n1 c1) ∧ w.cell? ⟨b, 2, none⟩ = some (.slice A2 n2 c2) := by
  unfold GAt at h
  refine ⟨?_, ?_, ?_⟩ <;> · rw [Lib.cell_of_heap h]; rfl
theorem GAt.frozen (h : GAt w b m A1 n1 c1 A2 n2 c2) (k : Nat) : w.frozen? ⟨b, k, none⟩ = false := Lib.frozen_of_heap h k
theorem GAt.lt (h : GAt w b m A1 n1 c1 A2 n2 c2) : b < w.heap.size := (Array.getElem?_eq_some_iff.1 h).1
theorem GAt.below {B : Nat} (h : GAt w b m A1 n1 c1 A2 n2 c2) (hB : Below B w w') (hb : b < B) : GAt w' b m A1 n1 c1 A2 n2 c2 := (hB.block b hb).trans h
theorem GAt.grown {k : Option Nat} (h : GAt w b m A1 n1 c1 A2 n2 c2) (hg : w.grownBy w' k) (hne : some b ≠ k) : GAt w' b m A1 n1 c1 A2 n2 c2 := (hg.block b h.lt hne).trans h
theorem GAt.drew (h : GAt w b m A1 n1 c1 A2 n2 c2) : GAt w.drew b m A1 n1 c1 A2 n2 c2 := h
theorem GAt.set0 (h : GAt w b m A1 n1 c1 A2 n2 c2) (x : Int) : GAt (w.setCell ⟨b, 0, none⟩ (.int .i64 x)) b x A1 n1 c1 A2 n2 c2 := by
  have := heap_setCell_same w b 0 _ _ (.int .i64 x) h
  unfold GAt; simpa using this
theorem GAt.set1 (h : GAt w b m A1 n1 c1 A2 n2 c2) : GAt (w.setCell ⟨b, 1, none⟩ (.slice A3 d e)) b m A3 d e A2 n2 c2 := by
  have := heap_setCell_same w b 1 _ _ (.slice A3 d e) h
  unfold GAt; simpa using this
theorem GAt.set2 (h : GAt w b m A1 n1 c1 A2 n2 c2) : GAt (w.setCell ⟨b, 2, none⟩ (.slice A3 d e)) b m A1 n1 c1 A3 d e := by
  have := heap_setCell_same w b 2 _ _ (.slice A3 d e) h
  unfold GAt; simpa using this
end
end Go.Proofs.YtmnjlhifjjainaaGreat
