/-
  The reference's Next where rows and state are right: the walk. (Printed by genref18.py.)
  The reference's put of chapter 19: the walk.
  The reference's Step where it is refused: the walk.
-/
import Derived.Test.YtpdnipabaimofaaGreatJ34
import Derived.Test.YtpdnipabaimofaaGreatJ33
import Derived.Test.YtpdnipabaimofaaGreatJ04
import Derived.Test.YtpdnipabaimofaaGreatJ06
import Derived.Test.YtpdnipabaimofaaGreatJ08
import Derived.Deep.RegionHeld3
import Derived.StillTailTactics
import Derived.BigQuiet
namespace Go.Proofs.YtpdnipabaimofaaGreat
open Go.RowKit

/-- The boxes, and the key's. -/
structure Nx2 (w : World) (q : QuA) (a : RwA) (x : Msg) (b : Nat) (W : World) : Prop where
  at_ : NxAt w q a x W
  k_ : W.heap[b]? = some (.cells #[.int .i64 x.slot, .int .i64 x.dir, .int .i64 x.v] 77 (0, 0))
section
variable {w W W' : World} {q : QuA} {a : RwA} {x : Msg} {b : Nat}
theorem Nx2.step (h : Nx2 w q a x b W) (hB : Below W.heap.size W W') : Nx2 w q a x b W' := ⟨h.at_.step hB, (hB.block _ (Array.getElem?_eq_some_iff.1 h.k_).1).trans h.k_⟩
theorem Nx2.kc (h : Nx2 w q a x b W) : W.cell? ⟨b, 0, none⟩ = some (.int .i64 x.slot) ∧ W.cell? ⟨b, 1, none⟩ = some (.int .i64 x.dir) ∧ W.cell? ⟨b, 2, none⟩ = some (.int .i64 x.v) := by
  refine ⟨?_, ?_, ?_⟩ <;> · rw [Lib.cell_of_heap h.k_]; rfl
theorem nx2_new (h : NxAt w q a x W) : Nx2 w q a x W.heap.size (W.alloc (.cells #[.int .i64 x.slot, .int .i64 x.dir, .int .i64 x.v] 77)) := ⟨h.step (below_one _ _), W.alloc_heap_new _⟩
end

end Go.Proofs.YtpdnipabaimofaaGreat

namespace Go.Proofs.YtpdnipabaimofaaGreat
open Go.RowKit

theorem state_box {w : World} {b : Nat} {x : Msg} (h : w.heap[b]? = some (.cells #[.int .i64 x.slot, .int .i64 x.dir, .int .i64 x.v, .int .i64 x.d] 121 (0, 0))) :
    w.cell? ⟨b, 0, none⟩ = some (.int .i64 x.slot) ∧ w.cell? ⟨b, 1, none⟩ = some (.int .i64 x.dir) ∧ w.cell? ⟨b, 2, none⟩ = some (.int .i64 x.v) ∧ w.cell? ⟨b, 3, none⟩ = some (.int .i64 x.d) := by
  refine ⟨?_, ?_, ?_, ?_⟩ <;> · rw [Lib.cell_of_heap h]; rfl

end Go.Proofs.YtpdnipabaimofaaGreat

namespace Go.Proofs.YtpdnipabaimofaaGreat
open Go.RowKit

/-- The boxes that the reference's Step begins with. -/
structure QrAt (w : World) (q : QuA) (a : RwA) (W : World) : Prop where
  q_ : W.heap[w.heap.size]? = some (quBox q)
  r_ : W.heap[w.heap.size + 1]? = some (rwBox a)
  bel : Below w.heap.size w W
section
variable {w W W' : World} {q : QuA} {a : RwA}
theorem QrAt.lt (h : QrAt w q a W) : w.heap.size + 1 < W.heap.size := (Array.getElem?_eq_some_iff.1 h.r_).1
theorem QrAt.step (h : QrAt w q a W) (hB : Below W.heap.size W W') : QrAt w q a W' :=
  have hl := h.lt
  ⟨(hB.block _ (by omega)).trans h.q_, (hB.block _ (by omega)).trans h.r_, h.bel.trans (hB.mono (by omega))⟩
theorem qrAt_new (w : World) (q : QuA) (a : RwA) : QrAt w q a ((w.alloc (quBox q)).alloc (rwBox a)) := by
  have h1 := (w.alloc (quBox q)).alloc_heap_new (rwBox a)
  rw [World.size_alloc] at h1
  refine ⟨?_, h1, (below_one w _).trans ((below_one _ _).mono (by simp))⟩
  rw [Below.heap_alloc _ _ _ (by simp)]
  exact w.alloc_heap_new _
theorem QrAt.rw_ (h : QrAt w q a W) (hr : RwIn w w.heap.size a) : RwIn W W.heap.size a := (hr.below h.bel).more h.bel.size
theorem QrAt.rc (h : QrAt w q a W) : W.cell? ⟨w.heap.size + 1, 0, none⟩ = some (.slice a.A1 a.n1 a.c1) ∧ W.cell? ⟨w.heap.size + 1, 1, none⟩ = some (.slice a.A2 a.n2 a.c2) ∧ W.cell? ⟨w.heap.size + 1, 2, none⟩ = some (.slice a.A3 a.n3 a.c3) ∧ W.cell? ⟨w.heap.size + 1, 3, none⟩ = some (.slice a.A4 a.n4 a.c4) := by
  refine ⟨?_, ?_, ?_, ?_⟩ <;> · rw [Lib.cell_of_heap h.r_]; rfl
theorem QrAt.qc (h : QrAt w q a W) : W.cell? ⟨w.heap.size, 0, none⟩ = some (.int .i64 q.kind) ∧ W.cell? ⟨w.heap.size, 1, none⟩ = some (.int .i64 q.src) ∧ W.cell? ⟨w.heap.size, 2, none⟩ = some (.int .i64 q.dst) ∧ W.cell? ⟨w.heap.size, 3, none⟩ = some (.slice q.W q.nw q.cw) ∧ W.cell? ⟨w.heap.size, 4, none⟩ = some (.int .i64 q.radius) ∧ W.cell? ⟨w.heap.size, 5, none⟩ = some (.int .i64 q.most) := by
  refine ⟨?_, ?_, ?_, ?_, ?_, ?_⟩ <;> · rw [Lib.cell_of_heap h.q_]; rfl
end
theorem stepOk_iff {S M : List Msg} {k n : Int} : stepOk S M k n ↔ rightR S ∧ allMay M ∧ ((∀ x ∈ S, x.v < n) ∧ ∀ x ∈ M, x.v < n) ∧ (1 ≤ k ∧ k ≤ 16) := by
  unfold stepOk rightP rightR
  constructor
  · rintro ⟨⟨h1, h2⟩, h3, h4, h5⟩
    exact ⟨⟨fun x hx => (h1 x hx).1, h2⟩, h3, ⟨fun x hx => (h1 x hx).2, h4⟩, h5⟩
  · rintro ⟨⟨h1, h2⟩, h3, ⟨h4, h5⟩, h6⟩
    exact ⟨⟨fun x hx => ⟨h1 x hx, h4 x hx⟩, h2⟩, h3, h5, h6⟩

end Go.Proofs.YtpdnipabaimofaaGreat
