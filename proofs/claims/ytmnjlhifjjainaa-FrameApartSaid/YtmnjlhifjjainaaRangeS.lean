/-
  A range over a function whose iterator keeps its own state in one captured cell (block Bn) between the rounds.
-/
import Derived.RangeFuncFrom
import Derived.RangeFuncLeaves
import Derived.RangeFuncBox
namespace Go.Proofs.Ytmnjlhifjjainaa
open Go Go.RowKit

/-- The promise of such an iterator: the caller's J bears whatever the iterator stores into block Bn; each round leaves that block as it lay and goes on. -/
def GivesS {α : Type} (F : Fence) (n : Nat) (P : Program) (g : Nat) (lb : Array Value) (encs : α → Array Value) (Bn : Nat) (S : List α → Prop) (w : World) : Prop :=
  ∀ (l : Nat) (J : List α → World → Prop) (W : World), Below w.heap.size w W → (∀ pre X v, J pre X → J pre (X.setCell ⟨Bn, 0, none⟩ v)) →
    (∀ pre x X, J pre X → (∃ xs, S (pre ++ x :: xs)) → YieldAt F (n - 1) P l (encs x) X fun e X' => e = .returned (.bool true) ∧ J (pre ++ [x]) X' ∧ X'.heap[Bn]? = X.heap[Bn]?) →
    J [] W →
    CallsIn F n P g (#[.func (.yield l) #[] #[]] ++ lb) W fun e W' => (∃ v, e = .returned v) ∧ ∃ xs, S xs ∧ J xs W'

theorem heap_setCell_ne (X : World) (Bn k : Nat) (v : Value) (h : k ≠ Bn) : (X.setCell ⟨Bn, 0, none⟩ v).heap[k]? = X.heap[k]? := by
  by_cases hk : k < X.heap.size
  · exact (grownBy_setCell' X Bn v).block k hk (fun e => h (by cases e; rfl))
  · have hs : (X.setCell ⟨Bn, 0, none⟩ v).heap.size = X.heap.size := by simp
    rw [Array.getElem?_eq_none (by omega), Array.getElem?_eq_none (by omega)]

variable {F : Fence} {n : Nat} {P : Program}

/-- The statement 'for .. := range g' over such an iterator, where each round's body ends normally. -/
theorem wpIn_range_state {α : Type} {g : Operand} {ps : Array Tmp} {assign body : Code} {Q : Exit → Act → World → Prop} {a : Act} {w : World}
    (hro : F.round = none) (h1 : 1 ≤ n) {gf : Nat} {lb : Array Value} (hg : a.eval g = .func (.func gf) #[] lb) (hFg : F.fn gf) (eg : ∀ args w, (callFunc gf args).run P w = .ok (.enter gf args) w)
    {encs : α → Array Value} {Bn : Nat} {S : List α → Prop} (hseq : GivesS F (n - 1) P gf lb encs Bn S w) (hBn : Bn < w.heap.size) (hps : ∀ x, (encs x).size = ps.size)
    (I : List α → World → Prop) (hI : OwnFrom w.heap.size I) (hIs : ∀ pre X v, I pre X → I pre (X.setCell ⟨Bn, 0, none⟩ v)) (h0 : I [] w) (a₁ : α → Act)
    (hassign : ∀ (l : Nat) (x : α) (W : World) (K : Act → World → Prop), K (a₁ x) W →
      assign.wpIn (F.inRound l) (n - 1 - 1) P (Exit.then K (fun _ _ _ => False)) { tmps := (ps.zip (encs x)).foldl (fun t (p, v) => t.setIfInBounds p v) a.tmps, defers := [] } W)
    (hbody : ∀ (l : Nat) (pre : List α) (x : α) (W : World), I pre W → (∃ xs, S (pre ++ x :: xs)) →
      body.wpIn (F.inRound l) (n - 1 - 1) P (fun e _ W' => e = .normal ∧ KeepsOthers W W' ∧ W'.heap[Bn]? = W.heap[Bn]? ∧ I (pre ++ [x]) W') (a₁ x) W)
    (hdone : ∀ (D : Nat) (xs : List α) (W : World), w.heap.size ≤ D → S xs → I xs W → W.heap[D]? = some (.deferred (some [])) → Q .normal { a with defers := { target := .collected D, args := #[] } :: a.defers } W) :
    (Code.rangeFunc g ps assign body).wpIn F n P Q a w := by
  refine wpIn_rangeFunc fun fn hfn => ?_
  rw [hro]
  generalize hB : w.heap.size = B at *
  -- the record, ready and busy, and the world in which both blocks are laid
  let rdy : Loop := { state := .ready, pending := none, fn := fn, tmps := a.tmps, params := ps, assign := assign, body := body, defers := B }
  let bsy : Loop := { rdy with state := .busy }
  let W1 : World := (w.alloc (.deferred (some []))).alloc (.loop rdy)
  have e1 : (w.alloc (.deferred (some []))).heap.size = B + 1 := by rw [World.size_alloc, hB]
  have hloop : W1.heap[B + 1]? = some (.loop rdy) := by
    have := World.alloc_heap_new (w.alloc (.deferred (some []))) (.loop rdy); rwa [e1] at this
  have hdef : W1.heap[B]? = some (.deferred (some [])) := by
    have h2 : W1.heap[B]? = (w.alloc (.deferred (some []))).heap[B]? := Below.heap_alloc _ _ _ (by rw [e1]; omega)
    have h3 := World.alloc_heap_new w (.deferred (some [])); rw [hB] at h3
    exact h2.trans h3
  have hbel : Below w.heap.size w W1 := ((Below.refl _ w).alloc (Nat.le_refl _) _).alloc (by rw [World.size_alloc]; omega) _
  let y : Value := .func (.yield (B + 1)) #[] #[]
  refine ⟨B + 1, [{ target := .collected B, args := #[] }], W1, { target := .fn (.func gf) lb, args := #[y] }, W1, gf, #[y] ++ lb, W1, ?_, ?_, ?_, ?_, fun _ => h1, ?_⟩
  · have := run_enterLoop_outer (P := P) (w := w) fn a.tmps ps assign body
    rw [hB] at this; exact this
  · simp only [resolve, hg]
    simp [go_sem, y]
  · intro f' hf'
    simp [Target.leads] at hf'
    subst hf'; exact hFg
  · simp [invoke, go_sem, eg]
  · refine (hseq (B + 1) (fun pre X => I pre X ∧ X.heap[B + 1]? = some (.loop rdy) ∧ X.heap[B]? = some (.deferred (some []))) W1 (by rw [hB] at hbel; rw [hB]; exact hbel)
      (fun pre X v h => ⟨hIs _ _ _ h.1, (heap_setCell_ne X Bn _ v (by omega)).trans h.2.1, (heap_setCell_ne X Bn _ v (by omega)).trans h.2.2⟩) ?_ ⟨hI.alloc _ (hI.alloc _ h0), hloop, hdef⟩).mono ?_
    · rintro pre x X ⟨hi, hl, hd⟩ hx
      have hltl : B + 1 < X.heap.size := (Array.getElem?_eq_some_iff.1 hl).1
      refine ⟨fn, _, assign, body, run_yield (P := P) (args := encs x) hl (hps x), roundIn_of_wpIn hfn (hassign _ x X _ ⟨_, run_beginRound hl rfl, ?_⟩)⟩
      have hl2 : (X.putObj (B + 1) (.loop bsy)).heap[B + 1]? = some (.loop bsy) := World.putObj_heap_same hltl
      have hd2 : (X.putObj (B + 1) (.loop bsy)).heap[B]? = some (.deferred (some [])) := (World.putObj_heap_other (by omega)).trans hd
      refine wpIn_mono (hbody _ pre x _ (hI.putObj _ hi (by omega) hl rfl) hx) ?_
      rintro e a3 X3 ⟨rfl, hk, hb, hi3⟩
      have hl3 := hk.same _ _ hl2 rfl
      have hd3 := hk.same _ _ hd2 rfl
      refine ⟨_, _, run_endRound (P := P) none hl3, rfl, ⟨hI.putObj _ hi3 (by omega) hl3 rfl, World.putObj_heap_same (Array.getElem?_eq_some_iff.1 hl3).1, (World.putObj_heap_other (by omega)).trans hd3⟩, ?_⟩
      exact (World.putObj_heap_other (by omega)).trans (hb.trans (World.putObj_heap_other (by omega)))
    · rintro e W2 ⟨⟨v, rfl⟩, xs, hS, hi, hl, hd⟩
      exact ⟨none, _, run_endLoop (P := P) hl (by simp [rdy]), hdone B xs _ (Nat.le_refl _) hS (hI.putObj _ hi (by omega) hl rfl) ((World.putObj_heap_other (by omega)).trans hd)⟩

#print axioms wpIn_range_state
end Go.Proofs.Ytmnjlhifjjainaa
