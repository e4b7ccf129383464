/-
  Boxes of graphs: whole stores.
-/
import Derived.Test.YtmnjlhifjjainaaGreatImgRows
namespace Go.Proofs.YtmnjlhifjjainaaGreat
open Go.RowKit

theorem only_setCell' {a w : World} {g : Nat} (h : a.grownBy w (some g)) {k o : Nat} (hp : a.heap.size ≤ k) (u : Value) : a.grownBy (w.setCell ⟨k, o, none⟩ u) (some g) := only_setCell h (.inr hp) u
theorem only_setCellS {a w : World} {g : Nat} (h : a.grownBy w (some g)) (k : Nat) (u : Value) : a.grownBy (w.setCell ⟨g, k, none⟩ u) (some g) := only_setCell h (.inl rfl) u
theorem Pushed.heap {w w' : World} {A A' : Option Addr} {k : Nat} (p : Pushed w w' A A') (hk : k < w.heap.size) (h : ∀ x, A = some x → k < x.block) : w'.heap[k]? = w.heap[k]? :=
  p.grown.block k hk (fun e => by
    cases A with
    | none => cases e
    | some x => have h1 := h x rfl; injection e with e; simp only at e; omega)
theorem isF_own {w w' : World} {base e size n c g : Nat} {A : Option Addr} {xs : List Value} (h : w.ownsRow base e size (.slice A n c) n xs) (hg : w.grownBy w' (some g)) (hne : g < base) : w'.ownsRow base e size (.slice A n c) n xs :=
  own_only h hg (fun a ha he => by have := (own_lt h a ha).1; injection he; omega)

def putG (w : World) (o : Nat) (m : Int) (A1 : Option Addr) (n1 c1 : Nat) (A2 : Option Addr) (n2 c2 : Nat) : World :=
  ((w.setCell ⟨o, 0, none⟩ (.int .i64 m)).setCell ⟨o, 1, none⟩ (.slice A1 n1 c1)).setCell ⟨o, 2, none⟩ (.slice A2 n2 c2)
section
variable {w w' : World} {o n1 c1 n2 c2 m1 d1 m2 d2 B : Nat} {m k : Int} {A1 A2 A3 A4 : Option Addr}
theorem putG_at (h : GAt w o k A3 m1 d1 A4 m2 d2) (m : Int) (A1 : Option Addr) (n1 c1 : Nat) (A2 : Option Addr) (n2 c2 : Nat) : GAt (putG w o m A1 n1 c1 A2 n2 c2) o m A1 n1 c1 A2 n2 c2 := by
  have h0 := h.set0 m
  have h1 := h0.set1 (A3 := A1) (d := n1) (e := c1)
  have h2 := h1.set2 (A3 := A2) (d := n2) (e := c2)
  unfold putG
  exact h2
theorem putG_grown (w : World) (o : Nat) (m : Int) (A1 : Option Addr) (n1 c1 : Nat) (A2 : Option Addr) (n2 c2 : Nat) : w.grownBy (putG w o m A1 n1 c1 A2 n2 c2) (some o) := by
  unfold putG
  exact only_setCellS (only_setCellS (only_setCellS (only_refl w _) _ _) _ _) _ _
theorem putG_below {a : World} (h : Below B a w) (ho : B ≤ o) (m : Int) (A1 : Option Addr) (n1 c1 : Nat) (A2 : Option Addr) (n2 c2 : Nat) : Below B a (putG w o m A1 n1 c1 A2 n2 c2) := by
  unfold putG
  exact ((h.setCell ho _).setCell ho _).setCell ho _
theorem GAt.only {g : Nat} (h : GAt w o m A1 n1 c1 A2 n2 c2) (hg : w.grownBy w' (some g)) (hne : o ≠ g) : GAt w' o m A1 n1 c1 A2 n2 c2 := h.grown hg (fun e => hne (by injection e))
end
/-- What owns its parts can be read. -/
theorem grIn_own {w : World} {b1 b2 b3 : Nat} {g : Gr} {A1 A2 : Option Addr} {n1 c1 n2 c2 : Nat} {us : List Value} (h1 : w.ownsRow b1 38 2 (.slice A1 n1 c1) n1 (ev g.es)) (h2 : w.ownsRow b2 35 1 (.slice A2 n2 c2) n2 us)
    (h3 : RowsOwn w b3 9 1 us (wv g.ws)) : GrIn w w.heap.size g A1 n1 A2 n2 us :=
  ⟨own_reads h1, own_reads h2, h3.reads, Nat.le_trans (own_cap h1).1 (own_cap h1).2, Nat.le_trans (own_cap h2).1 (own_cap h2).2⟩
end Go.Proofs.YtmnjlhifjjainaaGreat
