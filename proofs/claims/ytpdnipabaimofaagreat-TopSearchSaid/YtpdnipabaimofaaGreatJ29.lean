/-
  A range over a function whose rounds may leave: the iterator keeps a record of its own that it turns between the rounds.
  What lies while job.Run goes on.
  job.Run: the walk.
-/
import Derived.Test.YtpdnipabaimofaaGreatJ27
import Derived.Test.YtpdnipabaimofaaGreatJ08
import Derived.Test.YtpdnipabaimofaaGreatJ28
import Derived.Test.YtpdnipabaimofaaGreatJ19
import Derived.Test.YtpdnipabaimofaaGreatJ03
import Derived.BigFrameIn
namespace Go.Proofs.YtpdnipabaimofaaGreat
open Go Go.RowKit

section
variable {F : Fence} {n : Nat} {P : Program}
theorem wpIn_range_go {β : Type} {g : Operand} {ps : Array Tmp} {assign body : Code} {Q : Exit → Act → World → Prop} {a : Act} {w : World}
    (hro : F.round = none) (h1 : 1 ≤ n) {gf : Nat} {lb : Array Value} (hg : a.eval g = .func (.func gf) #[] lb) (hFg : F.fn gf) (eg : ∀ args w, (callFunc gf args).run P w = .ok (.enter gf args) w)
    {encs : β → Array Value} {At : Nat → β → World → Prop} {more : β → Bool} {St : World → Prop} {br : Nat} (hbr : br < w.heap.size)
    (I : Nat → World → Prop)
    (hseq : ∀ (l : Nat) (I' : Nat → World → Prop) (Jx' : World → Prop) (W1 : World), (∀ t X X', I' t X → Below X.heap.size X X' → I' t X') → (∀ t X X', I' t X → X.grownBy X' (some br) → I' t X') → (∀ t X, I' t X → I t X) →
      (∀ t x X, I' t X → At t x X → YieldAt F (n - 1 - 1) P l (encs x) X fun e X' => (more x = true ∧ e = .returned (.bool true) ∧ I' (t + 1) X' ∧ At t x X') ∨ (more x = false ∧ e = .returned (.bool false) ∧ Jx' X')) →
      I' 0 W1 → St W1 → CallsIn F (n - 1) P gf (#[.func (.yield l) #[] #[]] ++ lb) W1 fun e W' => (∃ v, e = .returned v) ∧ Jx' W')
    (hps : ∀ x, (encs x).size = ps.size)
    (Jx : World → Prop) (Mid : β → Act → World → Prop)
    (hIb : ∀ t X X', I t X → Below X.heap.size X X' → I t X') (hIr : ∀ t X X', I t X → X.grownBy X' (some br) → I t X')
    (hI : OwnFrom w.heap.size I) (hJ : OwnFrom w.heap.size (fun (_ : Unit) => Jx)) (hSt : OwnFrom w.heap.size (fun (_ : Unit) => St)) (hAt : OwnFrom w.heap.size (fun (s : Nat × β) => At s.1 s.2)) (hMid : OwnFrom w.heap.size (fun (s : β × Act) => Mid s.1 s.2))
    (h0 : I 0 w) (hs0 : St w)
    (hassign : ∀ (l t : Nat) (x : β) (W : World) (K : Act → World → Prop), I t W → At t x W → (∀ a' W', Below W.heap.size W W' → I t W' → At t x W' → Mid x a' W' → K a' W') →
      assign.wpIn (F.inRound l) (n - 1 - 1) P (Exit.then K (fun _ _ _ => False)) { tmps := (ps.zip (encs x)).foldl (fun t (p, v) => t.setIfInBounds p v) a.tmps, defers := [] } W)
    (hbody : ∀ (l t : Nat) (x : β) (a' : Act) (W : World), I t W → At t x W → Mid x a' W →
      body.wpIn (F.inRound l) (n - 1 - 1) P (fun e _ W' => KeepsFrom w.heap.size W W' ∧ ((more x = true ∧ e = .normal ∧ I (t + 1) W' ∧ At t x W') ∨ (more x = false ∧ e = .ret ∧ Jx W'))) a' W)
    (hstop : ∀ (D : Nat) (W : World), w.heap.size ≤ D → Jx W → W.heap[D]? = some (.deferred (some [])) → (Code.ret).wpIn F n P Q { a with defers := { target := .collected D, args := #[] } :: a.defers } W) :
    (Code.rangeFunc g ps assign body).wpIn F n P Q a w := by
  refine wpIn_rangeFunc fun fn hfn => ?_
  rw [hro]
  generalize hB : w.heap.size = B at *
  let rdy : Loop := { state := .ready, pending := none, fn := fn, tmps := a.tmps, params := ps, assign := assign, body := body, defers := B }
  let bsy : Loop := { rdy with state := .busy }
  let fin : Loop := { rdy with state := .done, pending := some .ret }
  let W1 : World := (w.alloc (.deferred (some []))).alloc (.loop rdy)
  have e1 : (w.alloc (.deferred (some []))).heap.size = B + 1 := by rw [World.size_alloc, hB]
  have hloop : W1.heap[B + 1]? = some (.loop rdy) := by
    have := World.alloc_heap_new (w.alloc (.deferred (some []))) (.loop rdy); rwa [e1] at this
  have hdef : W1.heap[B]? = some (.deferred (some [])) := by
    have h2 : W1.heap[B]? = (w.alloc (.deferred (some []))).heap[B]? := Below.heap_alloc _ _ _ (by rw [e1]; omega)
    have h3 := World.alloc_heap_new w (.deferred (some [])); rw [hB] at h3
    exact h2.trans h3
  let y : Value := .func (.yield (B + 1)) #[] #[]
  refine ⟨B + 1, [{ target := .collected B, args := #[] }], W1, { target := .fn (.func gf) lb, args := #[y] }, W1, gf, #[y] ++ lb, W1, ?_, ?_, ?_, ?_, fun _ => h1, ?_⟩
  · have := run_enterLoop_outer (P := P) (w := w) fn a.tmps ps assign body
    rw [hB] at this; exact this
  · simp only [resolve, hg]
    simp [go_sem, y]
  · intro f' hf'
    simp [Target.leads] at hf'
    subst hf'; exact hFg
  · simp [invoke, go_sem, eg]
  · have hkeep : ∀ {X X' : World} {row : Option Nat} {k : Nat} {o : Obj}, X.grownBy X' row → X.heap[k]? = some o → some k ≠ row → X'.heap[k]? = some o := fun {X X' row k o} hg hk hne => (hg.block k (Array.getElem?_eq_some_iff.1 hk).1 hne).trans hk
    refine (hseq (B + 1) (fun t X => I t X ∧ X.heap[B + 1]? = some (.loop rdy) ∧ X.heap[B]? = some (.deferred (some []))) (fun X => Jx X ∧ X.heap[B + 1]? = some (.loop fin) ∧ X.heap[B]? = some (.deferred (some []))) W1
      (fun t X X' h hb => ⟨hIb _ _ _ h.1 hb, (hb.block _ (Array.getElem?_eq_some_iff.1 h.2.1).1).trans h.2.1, (hb.block _ (Array.getElem?_eq_some_iff.1 h.2.2).1).trans h.2.2⟩)
      (fun t X X' h hg => ⟨hIr _ _ _ h.1 hg, hkeep hg h.2.1 (fun e => by injection e; omega), hkeep hg h.2.2 (fun e => by injection e; omega)⟩)
      (fun t X h => h.1) ?_ ⟨hI.alloc _ (hI.alloc _ h0), hloop, hdef⟩ (hSt.alloc (s := ()) _ (hSt.alloc (s := ()) _ hs0))).mono ?_
    · rintro t x X ⟨hi, hl, hd⟩ hat
      refine ⟨fn, _, assign, body, run_yield (P := P) (args := encs x) hl (hps x), roundIn_of_wpIn hfn (hassign _ t x X _ hi hat fun a' W' hbW hi' hat' hmid' => ?_)⟩
      have hl' : W'.heap[B + 1]? = some (.loop rdy) := (hbW.block _ (Array.getElem?_eq_some_iff.1 hl).1).trans hl
      have hd' : W'.heap[B]? = some (.deferred (some [])) := (hbW.block _ (Array.getElem?_eq_some_iff.1 hd).1).trans hd
      refine ⟨_, run_beginRound hl' rfl, ?_⟩
      have hltl : B + 1 < W'.heap.size := (Array.getElem?_eq_some_iff.1 hl').1
      have hl2 : (W'.putObj (B + 1) (.loop bsy)).heap[B + 1]? = some (.loop bsy) := World.putObj_heap_same hltl
      have hd2 : (W'.putObj (B + 1) (.loop bsy)).heap[B]? = some (.deferred (some [])) := (World.putObj_heap_other (by omega)).trans hd'
      refine wpIn_mono (hbody _ t x a' _ (hI.putObj _ hi' (by omega) hl' rfl) (hAt.putObj (s := (t, x)) _ hat' (by omega) hl' rfl) (hMid.putObj (s := (x, a')) _ hmid' (by omega) hl' rfl)) ?_
      rintro e a3 X3 ⟨hk, ⟨hm, rfl, hi3, hat3⟩ | ⟨hm, rfl, hj3⟩⟩
      · have hl3 := hk.same _ _ (by omega) hl2 rfl
        have hd3 := hk.same _ _ (Nat.le_refl _) hd2 rfl
        exact ⟨_, _, run_endRound (P := P) none hl3, .inl ⟨hm, rfl, ⟨hI.putObj _ hi3 (by omega) hl3 rfl, World.putObj_heap_same (Array.getElem?_eq_some_iff.1 hl3).1, (World.putObj_heap_other (by omega)).trans hd3⟩, hAt.putObj (s := (t, x)) _ hat3 (by omega) hl3 rfl⟩⟩
      · have hl3 := hk.same _ _ (by omega) hl2 rfl
        have hd3 := hk.same _ _ (Nat.le_refl _) hd2 rfl
        exact ⟨_, _, run_endRound (P := P) (some .ret) hl3, .inr ⟨hm, rfl, hJ.putObj (s := ()) _ hj3 (by omega) hl3 rfl, World.putObj_heap_same (Array.getElem?_eq_some_iff.1 hl3).1, (World.putObj_heap_other (by omega)).trans hd3⟩⟩
    · rintro e W2 ⟨⟨v, rfl⟩, hj, hl, hd⟩
      exact ⟨some .ret, _, run_endLoop (P := P) hl (by simp [fin]), hstop B _ (Nat.le_refl _) (hJ.putObj (s := ()) _ hj (by omega) hl rfl) ((World.putObj_heap_other (by omega)).trans hd)⟩
end
end Go.Proofs.YtpdnipabaimofaaGreat

namespace Go.Proofs.YtpdnipabaimofaaGreat
open Go Go.RowKit Go.Shelf Go.Lib

/-- What Run hands on of Done's answers. -/
structure GoodP (Good : Nat → List Msg → List Msg → Value → Bool → World → Prop) : Prop where
  ans : ∀ {lim S M ans r X}, Good lim S M ans r X → ∃ (fd : Bool) (d : Int) (A : Option Addr) (n c : Nat), ans = .agg #[.bool fd, .int .i64 d, .slice A n c]
  kept : ∀ {lim S M ans r X X' row}, Good lim S M ans r X → X.grownBy X' row → (∀ g, row = some g → g < lim ∨ ∃ o : Obj, X.heap[g]? = some o ∧ o.isCells = false) → Good lim S M ans r X'
  end_ : ∀ {lim S ans X}, ¬ Good lim S [] ans false X
/-- Run's boxes. -/
structure RbAt (w : World) (q : QuA) (a : RwA) (bud : Int) (W : World) : Prop where
  q_ : W.heap[w.heap.size]? = some (quBox q)
  r_ : W.heap[w.heap.size + 1]? = some (rwBox a)
  b_ : W.heap[w.heap.size + 2]? = some (.cells #[.int .i64 bud] 3 (0, 0))
  a_ : W.heap[w.heap.size + 3]? = some (ansBox false 0 none 0 0)
  n_ : W.heap[w.heap.size + 4]? = some (.cells #[.int .i64 0] 3 (0, 0))
  e_ : W.heap[w.heap.size + 5]? = some (.cells #[.int .i64 0] 37 (0, 0))
  bel : Below w.heap.size w W
section
variable {w W W' : World} {q : QuA} {a : RwA} {bud : Int}
theorem RbAt.lt (h : RbAt w q a bud W) : w.heap.size + 5 < W.heap.size := (Array.getElem?_eq_some_iff.1 h.e_).1
theorem RbAt.step (h : RbAt w q a bud W) (hB : Below W.heap.size W W') : RbAt w q a bud W' :=
  have hl := h.lt
  ⟨(hB.block _ (by omega)).trans h.q_, (hB.block _ (by omega)).trans h.r_, (hB.block _ (by omega)).trans h.b_, (hB.block _ (by omega)).trans h.a_, (hB.block _ (by omega)).trans h.n_, (hB.block _ (by omega)).trans h.e_, h.bel.trans (hB.mono (by omega))⟩
/-- Kept where a block beyond the boxes is turned. -/
theorem RbAt.far (h : RbAt w q a bud W) {row : Option Nat} (hg : W.grownBy W' row) (hr : ∀ g, row = some g → w.heap.size + 5 < g) : RbAt w q a bud W' := by
  have hl := h.lt
  have hk : ∀ {k : Nat} {o : Obj}, k ≤ w.heap.size + 5 → W.heap[k]? = some o → W'.heap[k]? = some o := fun {k o} hk ho => (hg.block k (by omega) (fun e => by have := hr k e.symm; omega)).trans ho
  exact ⟨hk (by omega) h.q_, hk (by omega) h.r_, hk (by omega) h.b_, hk (by omega) h.a_, hk (by omega) h.n_, hk (by omega) h.e_, h.bel.grown hg h.bel.size (fun g e => by have := hr g e; omega)⟩
theorem rbAt_new (w : World) (q : QuA) (a : RwA) (bud : Int) : RbAt w q a bud ((((((w.alloc (quBox q)).alloc (rwBox a)).alloc (.cells #[.int .i64 bud] 3)).alloc (ansBox false 0 none 0 0)).alloc (.cells #[.int .i64 0] 3)).alloc (.cells #[.int .i64 0] 37)) := by
  have key : ∀ (X : World) (o : Obj) (k : Nat), X.heap.size = w.heap.size + k → Below w.heap.size w X → (X.alloc o).heap.size = w.heap.size + (k + 1) ∧ (X.alloc o).heap[w.heap.size + k]? = some o ∧ (∀ j (o' : Obj), X.heap[j]? = some o' → (X.alloc o).heap[j]? = some o') ∧ Below w.heap.size w (X.alloc o) := fun X o k hs hb => by
    refine ⟨by rw [World.size_alloc, hs]; omega, by rw [← hs]; exact World.alloc_heap_new X o, fun j o' h => (Below.heap_alloc _ _ _ (Array.getElem?_eq_some_iff.1 h).1).trans h, hb.alloc (by omega) o⟩
  obtain ⟨s1, n1, k1, b1⟩ := key w (quBox q) 0 rfl (Below.refl _ _)
  obtain ⟨s2, n2, k2, b2⟩ := key _ (rwBox a) 1 s1 b1
  obtain ⟨s3, n3, k3, b3⟩ := key _ (.cells #[.int .i64 bud] 3) 2 s2 b2
  obtain ⟨s4, n4, k4, b4⟩ := key _ (ansBox false 0 none 0 0) 3 s3 b3
  obtain ⟨s5, n5, k5, b5⟩ := key _ (.cells #[.int .i64 0] 3) 4 s4 b4
  obtain ⟨s6, n6, k6, b6⟩ := key _ (.cells #[.int .i64 0] 37) 5 s5 b5
  exact ⟨k6 _ _ (k5 _ _ (k4 _ _ (k3 _ _ (k2 _ _ n1)))), k6 _ _ (k5 _ _ (k4 _ _ (k3 _ _ n2))), k6 _ _ (k5 _ _ (k4 _ _ n3)), k6 _ _ (k5 _ _ n4), k6 _ _ n5, n6, b6⟩
theorem RbAt.qc (h : RbAt w q a bud W) : (W.cell? ⟨w.heap.size, 0, none⟩ = some (.int .i64 q.kind) ∧ W.cell? ⟨w.heap.size, 1, none⟩ = some (.int .i64 q.src) ∧ W.cell? ⟨w.heap.size, 2, none⟩ = some (.int .i64 q.dst) ∧ W.cell? ⟨w.heap.size, 3, none⟩ = some (.slice q.W q.nw q.cw) ∧ W.cell? ⟨w.heap.size, 4, none⟩ = some (.int .i64 q.radius) ∧ W.cell? ⟨w.heap.size, 5, none⟩ = some (.int .i64 q.most)) ∧
    (W.cell? ⟨w.heap.size + 1, 0, none⟩ = some (.slice a.A1 a.n1 a.c1) ∧ W.cell? ⟨w.heap.size + 1, 1, none⟩ = some (.slice a.A2 a.n2 a.c2) ∧ W.cell? ⟨w.heap.size + 1, 2, none⟩ = some (.slice a.A3 a.n3 a.c3) ∧ W.cell? ⟨w.heap.size + 1, 3, none⟩ = some (.slice a.A4 a.n4 a.c4)) := by
  refine ⟨⟨?_, ?_, ?_, ?_, ?_, ?_⟩, ?_, ?_, ?_, ?_⟩
  all_goals first
    | (rw [Lib.cell_of_heap h.q_]; rfl)
    | (rw [Lib.cell_of_heap h.r_]; rfl)
theorem RbAt.bc (h : RbAt w q a bud W) : W.cell? ⟨w.heap.size + 2, 0, none⟩ = some (.int .i64 bud) := by rw [Lib.cell_of_heap h.b_]; rfl
/-- The cells of the results. -/
theorem RbAt.oc (h : RbAt w q a bud W) : (W.cell? ⟨w.heap.size + 3, 0, none⟩ = some (.bool false) ∧ W.cell? ⟨w.heap.size + 3, 1, none⟩ = some (.int .i64 0) ∧ W.cell? ⟨w.heap.size + 3, 2, none⟩ = some (.slice none 0 0)) ∧ W.cell? ⟨w.heap.size + 4, 0, none⟩ = some (.int .i64 0) ∧ W.cell? ⟨w.heap.size + 5, 0, none⟩ = some (.int .i64 0) ∧
    (W.frozen? ⟨w.heap.size + 3, 0, none⟩ = false ∧ W.frozen? ⟨w.heap.size + 3, 1, none⟩ = false ∧ W.frozen? ⟨w.heap.size + 3, 2, none⟩ = false) ∧ W.frozen? ⟨w.heap.size + 4, 0, none⟩ = false ∧ W.frozen? ⟨w.heap.size + 5, 0, none⟩ = false :=
  ⟨ans_cells h.a_, by rw [Lib.cell_of_heap h.n_]; rfl, by rw [Lib.cell_of_heap h.e_]; rfl, ⟨Lib.frozen_of_heap h.a_ 0, Lib.frozen_of_heap h.a_ 1, Lib.frozen_of_heap h.a_ 2⟩, Lib.frozen_of_heap h.n_ 0, Lib.frozen_of_heap h.e_ 0⟩
end
section
variable {n₀ bx br : Nat} {q : QuA} {a : RwA} {Al Ap As Am : Option Addr} {nl cl k np cp t ns cs nm cm : Nat} {ps : List Int} {S M : List Msg} {X X' : World}
/-- A run is kept where a block that is no cells is turned. -/
theorem RunAt.own (h : RunAt n₀ bx br q a Al nl cl k Ap np cp ps t S M As ns cs Am nm cm X) {row : Option Nat} (hg : X.grownBy X' row) (hr : ∀ g, row = some g → n₀ ≤ g ∧ ∃ o : Obj, X.heap[g]? = some o ∧ o.isCells = false) : RunAt n₀ bx br q a Al nl cl k Ap np cp ps t S M As ns cs Am nm cm X' := by
  have hbx : ∀ {k cs t fr}, X.heap[k]? = some (Obj.cells cs t fr) → X'.heap[k]? = some (Obj.cells cs t fr) := fun {k cs t fr} hk =>
    (hg.block k (Array.getElem?_eq_some_iff.1 hk).1 (fun e' => by
      obtain ⟨_, o, ho, hc⟩ := hr k e'.symm
      rw [hk] at ho; cases ho; cases hc)).trans hk
  have hcell : ∀ {p : Addr} {u : Value}, X.cell? p = some u → X'.cell? p = some u := fun {p u} hp => by
    refine (World.cell?_of_block (hg.block p.block (World.block_lt_of_cell? X p hp) (fun e' => ?_))).trans hp
    obtain ⟨_, o, ho, hc⟩ := hr _ e'.symm
    unfold World.cell? at hp
    rw [ho] at hp
    cases o <;> simp_all [Obj.isCells]
  have hrd : ∀ {B size n : Nat} {A : Option Addr} {xs : List Value}, Reads X B size A n xs → Reads X' B size A n xs := fun {B size n A xs} h => ⟨h.1, fun hn => by
    obtain ⟨b, o, e, hb, hc⟩ := h.2 hn
    exact ⟨b, o, e, hb, fun j u hu => hcell (hc j u hu)⟩⟩
  have hB : Below n₀ X X' := (Below.refl _ _).grown hg h.n_ (fun g e => (hr g e).1)
  exact ⟨hbx h.x_, hbx h.k_, (hrd h.s_).more hg.size, (hrd h.m_).more hg.size, h.sne, h.mne, h.r_.below hB, hrd h.p_, Nat.le_trans h.n_ hg.size, h.nb, h.ran⟩
end
/-- What is handed over at a round. -/
structure Rd where
  S : List Msg
  M : List Msg
  As : Option Addr
  ns : Nat
  cs : Nat
  Am : Option Addr
  nm : Nat
  cm : Nat
  ans : Value
  r : Bool
/-- How Run ends. -/
def RunEnd (Good : Nat → List Msg → List Msg → Value → Bool → World → Prop) (q : QuA) (a : RwA) (w : World) (e : Ending) (w' : World) : Prop :=
  ∃ (lim : Nat) (S M : List Msg) (ans : Value) (n t : Nat), e = .returned (.tuple #[ans, .int .i64 (n : Int), .int .i64 0]) ∧ w.heap.size ≤ lim ∧ 1 ≤ t ∧ Good lim S M ans true w' ∧ Ran a.r q.kind q.radius q.src q.dst 0 t S M ∧ Below w.heap.size w w'
def RunErr (w : World) (e : Ending) (w' : World) : Prop := ∃ c : Int, c ≠ 0 ∧ e = .returned (.tuple #[.agg #[.bool false, .int .i64 0, .slice none 0 0], .int .i64 0, .int .i64 c]) ∧ Below w.heap.size w w'
end Go.Proofs.YtpdnipabaimofaaGreat

namespace Go.Proofs.YtpdnipabaimofaaGreat
open Go Go.RowKit Go.Shelf Go.Lib
attribute [local go_sem] Oper.semAt_some

section
variable {n₀ bx br : Nat} {q : QuA} {a : RwA} {Al Ap As Am : Option Addr} {nl cl k np cp t ns cs nm cm : Nat} {ps : List Int} {S M : List Msg} {X X' : World}
theorem reads_ctr {A : Option Addr} {n B nb : Nat} {v u : Value} {l : List Msg} {ty : Nat} (h : Reads X B 4 A n (mv l)) (hn : X.heap[nb]? = some (.cells #[v] ty (0, 0))) : Reads (X.setCell ⟨nb, 0, none⟩ u) B 4 A n (mv l) := by
  refine ⟨h.1, fun h0 => ?_⟩
  obtain ⟨b, o, e, hb, hc⟩ := h.2 h0
  refine ⟨b, o, e, hb, fun j x hx => ?_⟩
  have hne : b ≠ nb := fun e' => by
    subst e'
    have key : ∀ i : Nat, 1 ≤ i → X.cell? ⟨b, i, none⟩ = none := fun i hi => by
      rw [Lib.cell_of_heap hn]
      have : (#[v] : Array Value)[i]? = none := Array.getElem?_eq_none (by simpa using hi)
      simpa using this
    have h1 : ∃ x, (mv l)[1]? = some x := by
      have h2 := h.1
      exact ⟨_, List.getElem?_eq_getElem (by omega)⟩
    obtain ⟨x1, hx1⟩ := h1
    have h2 := hc 1 x1 hx1
    rw [key _ (by omega)] at h2
    cases h2
  have h3 := hc j x hx
  exact (World.cell?_of_block ((grownBy_setCell' X nb u).block b (World.block_lt_of_cell? X _ h3) (fun e' => hne (by injection e')))).trans h3
theorem RunAt.ctr {nb : Nat} {v : Int} {u : Value} (h : RunAt n₀ bx br q a Al nl cl k Ap np cp ps t S M As ns cs Am nm cm X) (hn : X.heap[nb]? = some (.cells #[.int .i64 v] 3 (0, 0))) (h0 : n₀ ≤ nb) : RunAt n₀ bx br q a Al nl cl k Ap np cp ps t S M As ns cs Am nm cm (X.setCell ⟨nb, 0, none⟩ u) := by
  have hg := grownBy_setCell' X nb u
  have hsz : (X.setCell ⟨nb, 0, none⟩ u).heap.size = X.heap.size := by simp [World.setCell]
  have hB : Below n₀ X (X.setCell ⟨nb, 0, none⟩ u) := (Below.refl _ _).grown hg h.n_ (fun g e => by injection e with e; omega)
  refine ⟨(hg.block _ (Array.getElem?_eq_some_iff.1 h.x_).1 (fun e => ?_)).trans h.x_, (hg.block _ (Array.getElem?_eq_some_iff.1 h.k_).1 (fun e => ?_)).trans h.k_, by rw [hsz]; exact reads_ctr h.s_ hn, by rw [hsz]; exact reads_ctr h.m_ hn, h.sne, h.mne, h.r_.below hB, h.p_.below hB, by rw [hsz]; exact h.n_, h.nb, h.ran⟩
  · injection e with e
    have := h.x_
    rw [e, hn] at this
    simp at this
  · injection e with e
    have := h.k_
    rw [e, hn] at this
    simp [runObj] at this
end

theorem runAt_start (q : QuA) (a : RwA) (Al : Option Addr) (nl cl k : Nat) (Ap : Option Addr) (np cp : Nat) (ps : List Int) (w w4 : World) (Am : Option Addr) (nm cm : Nat) (hb : Below w.heap.size w w4) (hr : RwIn w w.heap.size a) (hp : Reads w w.heap.size 1 Ap np (iv ps)) (hm : Reads w4 w4.heap.size 4 Am nm (mv (startM q.kind q.src q.dst 0))) (hlt : ∀ x, Am = some x → x.block < w4.heap.size) (hk : q.kind = 1 ∨ q.kind = 2 ∨ q.kind = 3) (hrad : q.kind = 3 → 0 ≤ q.radius) (w5 : World)
    (h5 : w5 = (((w4.alloc (runObj q a Al nl cl k Ap np cp none 0 0 Am nm cm)).alloc (.cells #[.int .i64 0] 3)).alloc (.cells #[.pointer (some ⟨w4.heap.size, 0, none⟩)] 56))) :
    RunAt w.heap.size (w4.heap.size + 1 + 1) w4.heap.size q a Al nl cl k Ap np cp ps 0 [] (startM q.kind q.src q.dst 0) none 0 0 Am nm cm w5 ∧ w5.heap[w4.heap.size + 1]? = some (.cells #[.int .i64 0] 3 (0, 0)) ∧ w5.heap.size = w4.heap.size + 3 ∧ Below w4.heap.size w4 w5 := by
  have hB : Below w4.heap.size w4 w5 := by
    rw [h5]
    exact (((Below.refl _ _).alloc (Nat.le_refl _) _).alloc (by simp) _).alloc (by simp; omega) _
  have hs : w5.heap.size = w4.heap.size + 3 := by rw [h5]; simp
  have hws := hb.size
  have h0 : w5.heap[w4.heap.size]? = some (runObj q a Al nl cl k Ap np cp none 0 0 Am nm cm) := by
    rw [h5, Below.heap_alloc _ _ _ (by simp; omega), Below.heap_alloc _ _ _ (by simp)]
    exact World.alloc_heap_new w4 _
  have h1 : w5.heap[w4.heap.size + 1]? = some (.cells #[.int .i64 0] 3 (0, 0)) := by
    rw [h5, Below.heap_alloc _ _ _ (by simp)]
    have := (w4.alloc (runObj q a Al nl cl k Ap np cp none 0 0 Am nm cm)).alloc_heap_new (.cells #[.int .i64 0] 3)
    rwa [World.size_alloc] at this
  have h2 : w5.heap[w4.heap.size + 1 + 1]? = some (.cells #[.pointer (some ⟨w4.heap.size, 0, none⟩)] 56 (0, 0)) := by
    have := ((w4.alloc (runObj q a Al nl cl k Ap np cp none 0 0 Am nm cm)).alloc (.cells #[.int .i64 0] 3)).alloc_heap_new (.cells #[.pointer (some ⟨w4.heap.size, 0, none⟩)] 56)
    rw [← h5] at this
    simpa using this
  have hbw : Below w.heap.size w w5 := hb.trans (hB.mono hws)
  refine ⟨⟨h2, h0, ⟨rfl, fun h => absurd h (by decide)⟩, (hm.below hB).more hB.size, fun x h => (by cases h), fun x h => (by have := hlt x h; omega), hr.below hbw, hp.below hbw, by omega, ⟨by omega, by omega, by omega⟩, ran_start hk hrad⟩, h1, hs, hB⟩
theorem rb_ends {w X : World} {q : QuA} {a : RwA} {bud : Int} (h : RbAt w q a bud X) (fd : Bool) (d : Int) (A : Option Addr) (n c : Nat) (u v : Int) (X' : World) (hX : X' = (((((X.setCell ⟨w.heap.size + 3, 0, none⟩ (.bool fd)).setCell ⟨w.heap.size + 3, 1, none⟩ (.int .i64 d)).setCell ⟨w.heap.size + 3, 2, none⟩ (.slice A n c)).setCell ⟨w.heap.size + 4, 0, none⟩ (.int .i64 u)).setCell ⟨w.heap.size + 5, 0, none⟩ (.int .i64 v))) :
    X'.heap[w.heap.size + 3]? = some (ansBox fd d A n c) ∧ X'.heap[w.heap.size + 4]? = some (.cells #[.int .i64 u] 3 (0, 0)) ∧ X'.heap[w.heap.size + 5]? = some (.cells #[.int .i64 v] 37 (0, 0)) ∧ X'.heap.size = X.heap.size ∧ Below w.heap.size w X' := by
  subst hX
  have a1 := heap_setCell_same X (w.heap.size + 3) 0 _ _ (.bool fd) h.a_
  have a2 := heap_setCell_same _ (w.heap.size + 3) 1 _ _ (.int .i64 d) a1
  have a3 := heap_setCell_same _ (w.heap.size + 3) 2 _ _ (.slice A n c) a2
  have st : ∀ (W : World) (p : Addr) (x : Value) (j : Nat) (o : Obj), W.heap[j]? = some o → j ≠ p.block → (W.setCell p x).heap[j]? = some o := fun W p x j o hj hne => (Below.heap_setCell W p x j hne).trans hj
  have b1 := st _ ⟨w.heap.size + 3, 2, none⟩ (.slice A n c) _ _ (st _ ⟨w.heap.size + 3, 1, none⟩ (.int .i64 d) _ _ (st _ ⟨w.heap.size + 3, 0, none⟩ (.bool fd) _ _ h.n_ (by simp)) (by simp)) (by simp)
  have c1 := st _ ⟨w.heap.size + 3, 2, none⟩ (.slice A n c) _ _ (st _ ⟨w.heap.size + 3, 1, none⟩ (.int .i64 d) _ _ (st _ ⟨w.heap.size + 3, 0, none⟩ (.bool fd) _ _ h.e_ (by simp)) (by simp)) (by simp)
  have b2 := heap_setCell_same _ (w.heap.size + 4) 0 _ _ (.int .i64 u) b1
  have c2 := heap_setCell_same _ (w.heap.size + 5) 0 _ _ (.int .i64 v) (st _ ⟨w.heap.size + 4, 0, none⟩ (.int .i64 u) _ _ c1 (by simp))
  refine ⟨?_, ?_, c2, by simp [World.setCell], ?_⟩
  · unfold ansBox
    simpa using st _ ⟨w.heap.size + 5, 0, none⟩ (.int .i64 v) _ _ (st _ ⟨w.heap.size + 4, 0, none⟩ (.int .i64 u) _ _ a3 (by simp)) (by simp)
  · exact st _ ⟨w.heap.size + 5, 0, none⟩ (.int .i64 v) _ _ b2 (by simp)
  · have hl := h.lt
    have hz := h.bel.size
    refine h.bel.trans ?_
    refine Below.setCell (Below.setCell (Below.setCell (Below.setCell (Below.setCell (Below.refl _ _) ?_ _) ?_ _) ?_ _) ?_ _) ?_ _ <;> simp
/-- How the range ends. -/
structure RunFin (Good : Nat → List Msg → List Msg → Value → Bool → World → Prop) (q : QuA) (a : RwA) (w : World) (lim : Nat) (fd : Bool) (d : Int) (A : Option Addr) (n c : Nat) (S M : List Msg) (t : Nat) (X : World) : Prop where
  good : Good lim S M (.agg #[.bool fd, .int .i64 d, .slice A n c]) true X
  ran : Ran a.r q.kind q.radius q.src q.dst 0 (t + 1) S M
  a_ : X.heap[w.heap.size + 3]? = some (ansBox fd d A n c)
  n_ : X.heap[w.heap.size + 4]? = some (.cells #[.int .i64 ((t + 1 : Nat) : Int)] 3 (0, 0))
  e_ : X.heap[w.heap.size + 5]? = some (.cells #[.int .i64 0] 37 (0, 0))
  bel : Below w.heap.size w X
  lim_ : lim ≤ X.heap.size ∧ w.heap.size + 5 < lim
theorem RunFin.own {Good : Nat → List Msg → List Msg → Value → Bool → World → Prop} {q : QuA} {a : RwA} {w : World} {lim : Nat} {fd : Bool} {d : Int} {A : Option Addr} {n c : Nat} {S M : List Msg} {t : Nat} {X X' : World} (hG : GoodP Good) (h : RunFin Good q a w lim fd d A n c S M t X) {row : Option Nat} (hg : X.grownBy X' row) (hr : ∀ r, row = some r → lim ≤ r ∧ ∃ o : Obj, X.heap[r]? = some o ∧ o.isCells = false) : RunFin Good q a w lim fd d A n c S M t X' := by
  have hl := h.lim_
  have hk : ∀ {k : Nat} {o : Obj}, k < lim → X.heap[k]? = some o → X'.heap[k]? = some o := fun {k o} h1 h2 => (hg.block k (by omega) (fun e => by have := (hr k e.symm).1; omega)).trans h2
  exact ⟨hG.kept h.good hg (fun g e => .inr (hr g e).2), h.ran, hk (by omega) h.a_, hk (by omega) h.n_, hk (by omega) h.e_, h.bel.grown hg h.bel.size (fun g e => by have := (hr g e).1; omega), Nat.le_trans h.lim_.1 hg.size, h.lim_.2⟩

def RunFins (Good : Nat → List Msg → List Msg → Value → Bool → World → Prop) (q : QuA) (a : RwA) (w : World) (lim : Nat) (X : World) : Prop := ∃ (S M : List Msg) (t : Nat) (fd : Bool) (d : Int) (A : Option Addr) (n c : Nat), RunFin Good q a w lim fd d A n c S M t X
/-- What Run's walk leans on. -/
structure RunPre (Good : Nat → List Msg → List Msg → Value → Bool → World → Prop) (Ok Er : Prop) (q : QuA) (a : RwA) (Al : Option Addr) (nl cl k : Nat) (Ap : Option Addr) (np cp : Nat) (ps : List Int) (w : World) : Prop where
  chk : ∀ X, Below w.heap.size w X → Calls Tryz.prog 10 #[quVal q, rwVal a] X fun e w' => ∃ c : Int, e = .returned (.int .i64 c) ∧ (c = 0 → Ok) ∧ (c ≠ 0 → Er) ∧ Below X.heap.size X w'
  ok : Ok → chkR a.r ∧ (0 ≤ q.src ∧ q.src < (a.r.n : Int)) ∧ (q.kind = 1 → 0 ≤ q.dst ∧ q.dst < (a.r.n : Int)) ∧ (q.kind = 1 ∨ q.kind = 2 ∨ q.kind = 3) ∧ (q.kind = 3 → 0 ≤ q.radius)
  good : GoodP Good
  done : Ok → ∀ (lim bx br : Nat) (X : World) (S M : List Msg) (t : Nat) (As : Option Addr) (ns cs : Nat) (Am : Option Addr) (nm cm : Nat), lim ≤ X.heap.size → Below w.heap.size w X → RunAt w.heap.size bx br q a Al nl cl k Ap np cp ps t S M As ns cs Am nm cm X → t ≤ 191 → Calls Tryz.prog 25 #[quVal q, .slice Al nl cl, .slice As ns cs, .slice Am nm cm] X fun e X' => DoneOk (Good lim) S M X e X'
set_option maxRecDepth 100000 in
set_option maxHeartbeats 8000000 in
theorem jobRun_c (Good : Nat → List Msg → List Msg → Value → Bool → World → Prop) (Ok Er : Prop) (q : QuA) (a : RwA) (Al : Option Addr) (nl cl k : Nat) (Ap : Option Addr) (np cp : Nat) (ps : List Int) (w : World) (hr : RwIn w w.heap.size a) (hp : Reads w w.heap.size 1 Ap np (iv ps)) (hnp : np ≤ maxLen) (hk : 1 ≤ k ∧ k ≤ 16) (hrn : a.r.n ≤ 190) (hpre : RunPre Good Ok Er q a Al nl cl k Ap np cp ps w) :
    Calls Tryz.prog 7 #[quVal q, rwVal a, .slice Al nl cl, .int .i64 (k : Int), .int .i64 300, .slice Ap np cp] w fun e w' => (Er ∧ RunErr w e w') ∨ RunEnd Good q a w e w' := by
  show Calls Tryz.prog 7 #[.agg #[.int .i64 q.kind, .int .i64 q.src, .int .i64 q.dst, .slice q.W q.nw q.cw, .int .i64 q.radius, .int .i64 q.most], .agg #[.slice a.A1 a.n1 a.c1, .slice a.A2 a.n2 a.c2, .slice a.A3 a.n3 a.c3, .slice a.A4 a.n4 a.c4], .slice Al nl cl, .int .i64 (k : Int), .int .i64 300, .slice Ap np cp] w _
  have hb := rbAt_new w q a 300
  unfold quBox rwBox ansBox at hb
  have HB := Lib.hid hb
  have HR := Lib.hid hr
  have HP := Lib.hid hp
  have HPRE := Lib.hid hpre
  clear hb hr hp hpre
  rw [← callsIn_wide (n := 10)]
  refine callsIn_of_wp_marks Tryz.func7 rfl trivial ?_ rfl
  simp only [Tryz.ntmps7, List.size_toArray, List.length_cons, List.length_nil, Nat.reduceAdd, Nat.reduceSub, Array.replicate_succ, Array.replicate_zero, List.push_toArray, List.append_toArray, List.nil_append, List.cons_append]
  refine wpIn_wide.2 ?_
  obtain ⟨Qm, hQm⟩ : ∃ Qm, Qm = bodyPostM Fence.wide 10 Tryz.prog Tryz.f7 (fun e w' => (Er ∧ RunErr w e w') ∨ RunEnd Good q a w e w') := ⟨_, rfl⟩
  rw [← hQm]
  have HQ := Lib.hid hQm
  clear hQm
  go_wp2_with (fail)
  refine (HPRE.out.chk _ HB.out.bel).mono ?_
  rintro e w1 ⟨c, rfl, hcok, her, hB1⟩
  have HER := Lib.hid her
  clear her
  have HB1 := Lib.hid (HB.out.step hB1)
  have HCOK := Lib.hid hcok
  clear hcok hB1 HB
  go_wp2_with (fail)
  refine (home_c 0 (k : Int) w1).mono ?_
  rintro e w2 ⟨rfl, hB2⟩
  rw [decide_eq_true (show homeOk 0 (k : Int) from ⟨by decide, by omega, by omega⟩)]
  have HB2 := Lib.hid (HB1.out.step hB2)
  clear hB2 HB1
  have hb2 := HB2.out.bc
  obtain ⟨⟨o0, o1, o2⟩, o3, o4, ⟨f0, f1, f2⟩, f3, f4⟩ := HB2.out.oc
  by_cases hc : c = 0
  · subst hc
    have HOK := Lib.hid (HCOK.out rfl)
    clear HCOK HER
    go_wp2_with (fail)
    have HB3 : Hid (RbAt w q a 300 w2.drew) := HB2.out.step (Below.refl _ _).drew
    go_region_held3 (fun X : World => ((X.cell? ⟨w.heap.size, 0, none⟩ = some (.int .i64 q.kind) ∧ X.cell? ⟨w.heap.size, 1, none⟩ = some (.int .i64 q.src) ∧ X.cell? ⟨w.heap.size, 2, none⟩ = some (.int .i64 q.dst) ∧ X.cell? ⟨w.heap.size, 3, none⟩ = some (.slice q.W q.nw q.cw) ∧ X.cell? ⟨w.heap.size, 4, none⟩ = some (.int .i64 q.radius) ∧ X.cell? ⟨w.heap.size, 5, none⟩ = some (.int .i64 q.most)) ∧ X.cell? ⟨w.heap.size + 1, 0, none⟩ = some (.slice a.A1 a.n1 a.c1) ∧ X.cell? ⟨w.heap.size + 1, 1, none⟩ = some (.slice a.A2 a.n2 a.c2) ∧ X.cell? ⟨w.heap.size + 1, 2, none⟩ = some (.slice a.A3 a.n3 a.c3) ∧ X.cell? ⟨w.heap.size + 1, 3, none⟩ = some (.slice a.A4 a.n4 a.c4)))
      (first | exact HB3.out.qc | exact HB4.out.qc | exact (HB4.out.step (below_one _ _)).qc)
      ((first
        | (go_at_call 12; refine (start_c q 0 _).mono ?_; rintro e w4 ⟨Am, nm, cm, rfl, hnm, hom, hB4⟩; have HB4 := Lib.hid (HB3.out.step hB4); have HOM := Lib.hid hom; have HNM := Lib.hid hnm; clear hom hnm hB4)))
    clear HB2 HB3 hb2 o0 o1 o2 o3 o4 f0 f1 f2 f3 f4
    go_wp2_with (fail)
    refine (steps_c w4.heap.size _).mono ?_
    rintro e w5 ⟨rfl, hw5⟩
    simp only [World.size_alloc]
    obtain ⟨hc, hs, hd, hkd, hrad⟩ := HPRE.out.ok HOK.out
    obtain ⟨hra, hnb, hsz, hB5⟩ := runAt_start q a Al nl cl k Ap np cp ps w w4 Am nm cm HB4.out.bel HR.out HP.out (own_reads HOM.out) (fun x h => (own_lt HOM.out x h).2) hkd hrad w5 hw5
    have hrb := HB4.out.step hB5
    have hl4 := HB4.out.lt
    have HB5 := Lib.hid hrb
    have HRA := Lib.hid hra
    have HNB := Lib.hid hnb
    have HSZ := Lib.hid hsz
    clear hw5 hrb hra hnb hB5 HOM HNM HB4 hsz
    go_wp2_with (fail)
    have HG := Lib.hid HPRE.out.good
    refine (wpIn_wide (n := 10)).1 ?_
    refine wpIn_range_go (β := Rd) (br := w4.heap.size) rfl (by omega) (gf := 23) (lb := #[.pointer (some ⟨w4.heap.size + 1 + 1, 0, none⟩)]) rfl trivial (enters_of Tryz.func23 (by kernel_rfl) rfl)
      (encs := fun x => #[x.ans, .bool x.r]) (At := fun t x X => t ≤ 190 ∧ RunAt w.heap.size (w4.heap.size + 1 + 1) w4.heap.size q a Al nl cl k Ap np cp ps (t + 1) x.S x.M x.As x.ns x.cs x.Am x.nm x.cm X ∧ Good w5.heap.size x.S x.M x.ans x.r X) (more := fun x => !x.r)
      (St := fun X => RunAt w.heap.size (w4.heap.size + 1 + 1) w4.heap.size q a Al nl cl k Ap np cp ps 0 [] (startM q.kind q.src q.dst 0) none 0 0 Am nm cm X)
      (by rw [HSZ.out]; omega)
      (I := fun t X => RbAt w q a 300 X ∧ X.heap[w4.heap.size + 1]? = some (.cells #[.int .i64 (t : Int)] 3 (0, 0)) ∧ w5.heap.size ≤ X.heap.size)
      (fun l I' Jx' W1 hIb hIr hII hY hI0 hS0 => stepsGo_c 9 (by omega) w.heap.size (w4.heap.size + 1 + 1) w4.heap.size q a Al nl cl k Ap np cp ps hc hk hs hd hnp (by omega) (Good w5.heap.size) I' (fun X S M t As ns cs Am nm cm hR ht ⟨t', hI⟩ => HPRE.out.done HOK.out w5.heap.size _ _ X S M t As ns cs Am nm cm (hII _ _ hI).2.2 (hII _ _ hI).1.bel hR ht) (fun S ans X => HG.out.end_) l Jx' hIb hIr
        (fun t S M As ns cs Am nm cm X ans r ht hI hR hgd => (hY t ⟨S, M, As, ns, cs, Am, nm, cm, ans, r⟩ X hI ⟨ht, hR, hgd⟩).mono fun e X' h => h.elim (fun ⟨h1, h2, h3, h4⟩ => .inl ⟨by simpa using h1, h2, h3, h4.2.1⟩) (fun ⟨h1, h2, h3⟩ => .inr ⟨by simpa using h1, h2, h3⟩)) W1 _ _ _ _ _ _ _ _ hS0 hI0)
      (fun _ => rfl)
      (fun X => RunFins Good q a w w5.heap.size X)
      (fun x a' X => ∃ (bb : Nat) (fd : Bool) (d : Int) (A : Option Addr) (n c : Nat), x.ans = .agg #[.bool fd, .int .i64 d, .slice A n c] ∧ a' = { tmps := #[Value.agg #[Value.int IntKind.i64 q.kind, Value.int IntKind.i64 q.src, Value.int IntKind.i64 q.dst, Value.slice q.W q.nw q.cw, Value.int IntKind.i64 q.radius, Value.int IntKind.i64 q.most], Value.agg #[Value.slice a.A1 a.n1 a.c1, Value.slice a.A2 a.n2 a.c2, Value.slice a.A3 a.n3 a.c3, Value.slice a.A4 a.n4 a.c4], Value.slice Al nl cl, Value.int IntKind.i64 (k : Int), Value.int IntKind.i64 300, Value.slice Ap np cp, Value.pointer (some { block := w.heap.size, off := 0 }), Value.pointer (some { block := w.heap.size + 1, off := 0 }), undef, undef, Value.pointer (some { block := w.heap.size + 1 + 1, off := 0 }), undef, Value.pointer (some { block := w.heap.size + 1 + 1 + 1, off := 0 }), Value.pointer (some { block := w.heap.size + 1 + 1 + 1 + 1, off := 0 }), Value.pointer (some { block := w.heap.size + 1 + 1 + 1 + 1 + 1, off := 0 }), Value.int IntKind.i64 0, Value.int IntKind.i64 (homeI 0 (k : Int)), Value.bool true, Value.pointer (some { block := w4.heap.size, off := 0 }), Value.pointer (some { block := w4.heap.size + 1, off := 0 }), Value.pointer (some ⟨bb, 0, none⟩), Value.bool x.r, Value.agg #[Value.int IntKind.i64 q.kind, Value.int IntKind.i64 q.src, Value.int IntKind.i64 q.dst, Value.slice q.W q.nw q.cw, Value.int IntKind.i64 q.radius, Value.int IntKind.i64 q.most], Value.agg #[Value.slice a.A1 a.n1 a.c1, Value.slice a.A2 a.n2 a.c2, Value.slice a.A3 a.n3 a.c3, Value.slice a.A4 a.n4 a.c4], Value.int IntKind.i64 0, Value.tuple #[Value.int IntKind.i64 (homeI 0 (k : Int)), Value.bool true], Value.int IntKind.i64 (k : Int), Value.tuple #[Value.int IntKind.i64 (homeI 0 (k : Int)), Value.bool true], Value.int IntKind.i64 (homeI 0 (k : Int)), Value.bool true, Value.int IntKind.i64 0, Value.bool true, Value.bool true, Value.bool true, Value.bool false, Value.bool false, Value.int IntKind.i64 300, Value.bool false, Value.bool false, Value.bool false, Value.int IntKind.i64 0, Value.bool false, undef, undef, Value.agg #[Value.int IntKind.i64 q.kind, Value.int IntKind.i64 q.src, Value.int IntKind.i64 q.dst, Value.slice q.W q.nw q.cw, Value.int IntKind.i64 q.radius, Value.int IntKind.i64 q.most], Value.agg #[Value.slice a.A1 a.n1 a.c1, Value.slice a.A2 a.n2 a.c2, Value.slice a.A3 a.n3 a.c3, Value.slice a.A4 a.n4 a.c4], Value.slice Al nl cl, Value.int IntKind.i64 (k : Int), Value.slice Ap np cp, Value.agg #[Value.int IntKind.i64 q.kind, Value.int IntKind.i64 q.src, Value.int IntKind.i64 q.dst, Value.slice q.W q.nw q.cw, Value.int IntKind.i64 q.radius, Value.int IntKind.i64 q.most], Value.slice Am nm cm, Value.agg #[Value.int IntKind.i64 q.kind, Value.int IntKind.i64 q.src, Value.int IntKind.i64 q.dst, Value.slice q.W q.nw q.cw, Value.int IntKind.i64 q.radius, Value.int IntKind.i64 q.most, Value.slice a.A1 a.n1 a.c1, Value.slice a.A2 a.n2 a.c2, Value.slice a.A3 a.n3 a.c3, Value.slice a.A4 a.n4 a.c4, Value.slice Al nl cl, Value.int IntKind.i64 (k : Int), Value.slice Ap np cp, Value.slice none 0 0, Value.slice Am nm cm], Value.pointer (some { block := w4.heap.size, off := 0 }), Value.pointer (some { block := w4.heap.size, off := 0 }), Value.func (Fn.func 23) #[] #[Value.pointer (some ⟨w4.heap.size + 1 + 1, 0, none⟩)], Value.agg #[.bool fd, .int .i64 d, .slice A n c], Value.bool x.r, undef, undef, undef, undef, undef, undef, undef, undef, undef, undef], defers := [] } ∧ X.heap[bb]? = some (ansBox fd d A n c) ∧ w5.heap.size ≤ bb)
      ?hIb ?hIr ?hI ?hJ ?hSt ?hAt ?hMid ?h0 HRA.out ?assign ?body ?stop
    case hIb =>
      rintro t X X' ⟨h1, h2, h3⟩ hB
      exact ⟨h1.step hB, (hB.block _ (Array.getElem?_eq_some_iff.1 h2).1).trans h2, Nat.le_trans h3 hB.size⟩
    case hIr =>
      rintro t X X' ⟨h1, h2, h3⟩ hg
      exact ⟨h1.far hg (fun g e => by injection e with e; omega), (hg.block _ (Array.getElem?_eq_some_iff.1 h2).1 (fun e => by injection e with e; omega)).trans h2, Nat.le_trans h3 hg.size⟩
    case hI =>
      rintro t X X' row ⟨h1, h2, h3⟩ hg hr
      have h5 := HSZ.out
      exact ⟨h1.far hg (fun g e => by have := (hr g e).1; omega), (hg.block _ (Array.getElem?_eq_some_iff.1 h2).1 (fun e => by have := (hr _ e.symm).1; omega)).trans h2, Nat.le_trans h3 hg.size⟩
    case hJ =>
      rintro _ X X' row ⟨S, M, t, fd, d, A, n, c, h⟩ hg hr
      exact ⟨S, M, t, fd, d, A, n, c, h.own HG.out hg hr⟩
    case hSt =>
      rintro _ X X' row h hg hr
      have h5 := HSZ.out
      exact h.own hg (fun g e => ⟨by have := (hr g e).1; omega, (hr g e).2⟩)
    case hAt =>
      rintro ⟨t, x⟩ X X' row ⟨h1, h2, h3⟩ hg hr
      have h5 := HSZ.out
      exact ⟨h1, h2.own hg (fun g e => ⟨by have := (hr g e).1; omega, (hr g e).2⟩), HG.out.kept h3 hg (fun g e => .inr (hr g e).2)⟩
    case hMid =>
      rintro ⟨x, a'⟩ X X' row ⟨bb, fd, d, A, n, c, h1, h2, h3, h4⟩ hg hr
      refine ⟨bb, fd, d, A, n, c, h1, h2, (hg.block _ (Array.getElem?_eq_some_iff.1 h3).1 (fun e => ?_)).trans h3, h4⟩
      obtain ⟨-, o, ho, hcl⟩ := hr _ e.symm
      rw [h3] at ho; cases ho; cases hcl
    case h0 => exact ⟨HB5.out, HNB.out, Nat.le_refl _⟩
    case assign =>
      intro l t x W K hI hat hK
      obtain ⟨fd, d, A, n, c, he⟩ := HG.out.ans hat.2.2
      obtain ⟨S', M', As', ns', cs', Am', nm', cm', ans', r'⟩ := x
      dsimp only at he
      subst he
      have HK := Lib.hid hK
      have HII := Lib.hid hI
      have HAT := Lib.hid hat
      clear hK hI hat
      gi_wp2_with (fail)
      have hgr := World.grownBy_alloc W (.cells #[.bool fd, .int .i64 d, .slice A n c] 36) none
      refine HK.out _ _ (below_one _ _) ⟨HII.out.1.step (below_one _ _), ((below_one W _).block _ (Array.getElem?_eq_some_iff.1 HII.out.2.1).1).trans HII.out.2.1, Nat.le_trans HII.out.2.2 (below_one W _).size⟩ ⟨HAT.out.1, HAT.out.2.1.below (below_one _ _), HG.out.kept HAT.out.2.2 hgr (fun g e => (by cases e))⟩ ⟨W.heap.size, fd, d, A, n, c, rfl, rfl, W.alloc_heap_new _, HII.out.2.2⟩
    case body =>
      rintro l t x a' W hI hat ⟨bb, fd, d, A, n, c, he, rfl, hbb, hlb⟩
      obtain ⟨S', M', As', ns', cs', Am', nm', cm', ans', r'⟩ := x
      dsimp only at he
      subst he
      have c1 : W.cell? ⟨w4.heap.size + 1, 0, none⟩ = some (.int .i64 (t : Int)) := by rw [Lib.cell_of_heap hI.2.1]; rfl
      have c2 := Lib.frozen_of_heap hI.2.1 0
      obtain ⟨b0, b1, b2⟩ := ans_cells hbb
      have hbud := hI.1.bc
      have ht := hat.1
      have HII := Lib.hid hI
      have HAT := Lib.hid hat
      clear hI hat
      have hsz := HSZ.out
      have hgr := grownBy_setCell' W (w4.heap.size + 1) (Value.int IntKind.i64 ((t : Int) + 1))
      have hn1 : (W.setCell ⟨w4.heap.size + 1, 0, none⟩ (Value.int IntKind.i64 ((t : Int) + 1))).heap[w4.heap.size + 1]? = some (.cells #[.int .i64 ((t + 1 : Nat) : Int)] 3 (0, 0)) := by
        have h := heap_setCell_same W (w4.heap.size + 1) 0 _ _ (Value.int IntKind.i64 ((t : Int) + 1)) HII.out.2.1
        have e : ((t + 1 : Nat) : Int) = (t : Int) + 1 := by omega
        rw [e]
        simpa using h
      have HI1 : Hid ((RbAt w q a 300 (W.setCell ⟨w4.heap.size + 1, 0, none⟩ (Value.int IntKind.i64 ((t : Int) + 1))) ∧ (W.setCell ⟨w4.heap.size + 1, 0, none⟩ (Value.int IntKind.i64 ((t : Int) + 1))).heap[w4.heap.size + 1]? = some (.cells #[.int .i64 ((t + 1 : Nat) : Int)] 3 (0, 0)) ∧ w5.heap.size ≤ (W.setCell ⟨w4.heap.size + 1, 0, none⟩ (Value.int IntKind.i64 ((t : Int) + 1))).heap.size)) := ⟨HII.out.1.far hgr (fun g e => by injection e with e; omega), hn1, Nat.le_trans HII.out.2.2 hgr.size⟩
      have HA1 : Hid (RunAt w.heap.size (w4.heap.size + 1 + 1) w4.heap.size q a Al nl cl k Ap np cp ps (t + 1) S' M' As' ns' cs' Am' nm' cm' (W.setCell ⟨w4.heap.size + 1, 0, none⟩ (Value.int IntKind.i64 ((t : Int) + 1)))) := HAT.out.2.1.ctr HII.out.2.1 (by omega)
      have HG1 : Hid (Good w5.heap.size S' M' (Value.agg #[Value.bool fd, Value.int IntKind.i64 d, Value.slice A n c]) r' (W.setCell ⟨w4.heap.size + 1, 0, none⟩ (Value.int IntKind.i64 ((t : Int) + 1)))) := (HG.out.kept HAT.out.2.2 hgr (fun g e => .inl (by injection e with e; omega)))
      have HBB := Lib.hid ((hgr.block bb (Array.getElem?_eq_some_iff.1 hbb).1 (fun e => by injection e with e; omega)).trans hbb)
      clear hn1 hgr hsz
      cases r'
      · have ht2 : t + 1 < a.r.n := by
          rcases Nat.lt_or_ge (t + 1) a.r.n with h | h
          · exact h
          · have hm := ran_ends hc hs hd HA1.out.ran h
            have hg := HG1.out
            rw [hm] at hg
            exact absurd hg HG.out.end_
        have ht : t ≤ 188 := by omega
        gi_wp2_with (fail)
        exact ⟨(KeepsOthers.setCell _ _ _).from _, ⟨HI1.out.1, HI1.out.2.1, HII.out.2.2⟩, HA1.out, HG1.out⟩
      · gi_wp2_with (fail)
        have HKW := Lib.hid (KeepsOthers.setCell W ⟨w4.heap.size + 1, 0, none⟩ (Value.int IntKind.i64 ((t : Int) + 1)))
        generalize W.setCell ⟨w4.heap.size + 1, 0, none⟩ (Value.int IntKind.i64 ((t : Int) + 1)) = W1 at HKW HI1 HA1 HG1 HBB ⊢
        clear c1 c2 b0 b1 b2 hbud hbb HII HAT
        obtain ⟨⟨o0, o1, o2⟩, o3, o4, ⟨f0, f1, f2⟩, f3, f4⟩ := HI1.out.1.oc
        obtain ⟨b0, b1, b2⟩ := ans_cells HBB.out
        have c1 : W1.cell? ⟨w4.heap.size + 1, 0, none⟩ = some (.int .i64 ((t + 1 : Nat) : Int)) := by rw [Lib.cell_of_heap HI1.out.2.1]; rfl
        have k1 : (((W1.setCell ⟨w.heap.size + 1 + 1 + 1, 0, none⟩ (.bool fd)).setCell ⟨w.heap.size + 1 + 1 + 1, 1, none⟩ (.int .i64 d)).setCell ⟨w.heap.size + 1 + 1 + 1, 2, none⟩ (.slice A n c)).cell? ⟨w4.heap.size + 1, 0, none⟩ = some (.int .i64 ((t + 1 : Nat) : Int)) := by
          have hne : w4.heap.size + 1 ≠ w.heap.size + 1 + 1 + 1 := by omega
          have h := (Below.heap_setCell ((W1.setCell ⟨w.heap.size + 1 + 1 + 1, 0, none⟩ (.bool fd)).setCell ⟨w.heap.size + 1 + 1 + 1, 1, none⟩ (.int .i64 d)) ⟨w.heap.size + 1 + 1 + 1, 2, none⟩ (.slice A n c) (w4.heap.size + 1) hne).trans ((Below.heap_setCell (W1.setCell ⟨w.heap.size + 1 + 1 + 1, 0, none⟩ (.bool fd)) ⟨w.heap.size + 1 + 1 + 1, 1, none⟩ (.int .i64 d) (w4.heap.size + 1) hne).trans ((Below.heap_setCell W1 ⟨w.heap.size + 1 + 1 + 1, 0, none⟩ (.bool fd) (w4.heap.size + 1) hne).trans HI1.out.2.1))
          rw [Lib.cell_of_heap h]; rfl
        have HF : Hid (∀ X', X' = ((((((W1.setCell ⟨w.heap.size + 3, 0, none⟩ (.bool fd)).setCell ⟨w.heap.size + 3, 1, none⟩ (.int .i64 d)).setCell ⟨w.heap.size + 3, 2, none⟩ (.slice A n c)).setCell ⟨w.heap.size + 4, 0, none⟩ (.int .i64 ((t + 1 : Nat) : Int))).setCell ⟨w.heap.size + 5, 0, none⟩ (.int .i64 0))).drew → RunFin Good q a w w5.heap.size fd d A n c S' M' t X' ∧ KeepsFrom w5.heap.size W X') := fun X' hX => by
          have hsz := HSZ.out
          obtain ⟨Y, hY⟩ : ∃ Y, Y = (((((W1.setCell ⟨w.heap.size + 3, 0, none⟩ (.bool fd)).setCell ⟨w.heap.size + 3, 1, none⟩ (.int .i64 d)).setCell ⟨w.heap.size + 3, 2, none⟩ (.slice A n c)).setCell ⟨w.heap.size + 4, 0, none⟩ (.int .i64 ((t + 1 : Nat) : Int))).setCell ⟨w.heap.size + 5, 0, none⟩ (.int .i64 0)) := ⟨_, rfl⟩
          rw [← hY] at hX
          obtain ⟨e1, e2, e3, e4, e5⟩ := rb_ends HI1.out.1 fd d A n c _ _ Y hY
          have hk : ∀ {Y : World} (p : Addr) (x : Value), p.block < w5.heap.size → Good w5.heap.size S' M' (Value.agg #[Value.bool fd, Value.int IntKind.i64 d, Value.slice A n c]) true Y → Good w5.heap.size S' M' (Value.agg #[Value.bool fd, Value.int IntKind.i64 d, Value.slice A n c]) true (Y.setCell p x) := fun {Y} p x hp hY => HG.out.kept (row := some p.block) hY ⟨rfl, rfl, rfl, by simp [World.setCell], fun j _ hj => Below.heap_setCell _ _ _ _ (fun e => hj (by rw [e]))⟩ (fun g e => .inl (by injection e with e; omega))
          have hgY : World.grownBy Y X' none := by rw [hX]; exact ⟨rfl, rfl, rfl, Nat.le_refl _, fun j _ _ => rfl⟩
          refine ⟨RunFin.own HG.out ⟨?_, HA1.out.ran, e1, e2, e3, e5, by rw [e4]; exact HI1.out.2.2, by omega⟩ hgY (fun g e => (by cases e)), ?_⟩
          · rw [hY]
            exact hk _ _ (by simp; omega) (hk _ _ (by simp; omega) (hk _ _ (by simp; omega) (hk _ _ (by simp; omega) (hk _ _ (by simp; omega) HG1.out))))
          · rw [hX, hY]
            exact (HKW.out.trans (((((KeepsOthers.setCell _ _ _).trans (KeepsOthers.setCell _ _ _)).trans (KeepsOthers.setCell _ _ _)).trans ((KeepsOthers.setCell _ _ _).trans (KeepsOthers.setCell _ _ _))).trans (KeepsOthers.drew _))).from _
        clear HI1 HA1 HG1 HBB
        refine wpIn_region_any (by kernel_rfl) ?_
        change wpAnyIn _ _ _ _ _ _ _ _ _ (World.drew W1)
        refine wpAnyIn_ready (rs := [0, 1]) (by kernel_rfl) (by simp) ?_
        refine AllReadyIn.cons rfl (fun K hK => ?_) (AllReadyIn.cons rfl (fun K hK => ?_) AllReadyIn.nil)
        · go_simp
          refine hK _ _ ?_
          clear hK K
          refine wpAnyIn_ready (rs := [1, 2]) (by kernel_rfl) (by simp) ?_
          refine AllReadyIn.cons rfl (fun K hK => ?_) (AllReadyIn.cons rfl (fun K hK => ?_) AllReadyIn.nil)
          · go_simp
            refine hK _ _ ?_
            clear hK K
            refine wpAnyIn_ready (rs := [2]) (by kernel_rfl) (by simp) ?_
            refine AllReadyIn.cons rfl (fun K hK => ?_) AllReadyIn.nil
            go_simp
            refine hK _ _ ?_
            clear hK K
            refine wpAnyIn_ready (rs := [3]) (by kernel_rfl) (by simp) ?_
            refine AllReadyIn.cons rfl (fun K hK => ?_) AllReadyIn.nil
            go_simp
            refine hK _ _ ?_
            clear hK K
            refine wpAnyIn_ready (rs := [4]) (by kernel_rfl) (by simp) ?_
            refine AllReadyIn.cons rfl (fun K hK => ?_) AllReadyIn.nil
            go_simp
            refine hK _ _ ?_
            clear hK K
            refine wpAnyIn_done (by kernel_rfl) ?_ _
            gi_wp2_with (fail)
            obtain ⟨R1, K1⟩ := HF.out _ rfl
            exact ⟨K1, ⟨S', M', t, fd, d, A, n, c, R1⟩⟩
          · go_simp
            refine hK _ _ ?_
            clear hK K
            refine wpAnyIn_ready (rs := [1]) (by kernel_rfl) (by simp) ?_
            refine AllReadyIn.cons rfl (fun K hK => ?_) AllReadyIn.nil
            go_simp
            refine hK _ _ ?_
            clear hK K
            refine wpAnyIn_ready (rs := [3]) (by kernel_rfl) (by simp) ?_
            refine AllReadyIn.cons rfl (fun K hK => ?_) AllReadyIn.nil
            go_simp
            refine hK _ _ ?_
            clear hK K
            refine wpAnyIn_ready (rs := [4]) (by kernel_rfl) (by simp) ?_
            refine AllReadyIn.cons rfl (fun K hK => ?_) AllReadyIn.nil
            go_simp
            refine hK _ _ ?_
            clear hK K
            refine wpAnyIn_done (by kernel_rfl) ?_ _
            gi_wp2_with (fail)
            obtain ⟨R1, K1⟩ := HF.out _ rfl
            exact ⟨K1, ⟨S', M', t, fd, d, A, n, c, R1⟩⟩
        · go_simp
          refine hK _ _ ?_
          clear hK K
          refine wpAnyIn_ready (rs := [0]) (by kernel_rfl) (by simp) ?_
          refine AllReadyIn.cons rfl (fun K hK => ?_) AllReadyIn.nil
          go_simp
          refine hK _ _ ?_
          clear hK K
          refine wpAnyIn_ready (rs := [2]) (by kernel_rfl) (by simp) ?_
          refine AllReadyIn.cons rfl (fun K hK => ?_) AllReadyIn.nil
          go_simp
          refine hK _ _ ?_
          clear hK K
          refine wpAnyIn_ready (rs := [3]) (by kernel_rfl) (by simp) ?_
          refine AllReadyIn.cons rfl (fun K hK => ?_) AllReadyIn.nil
          go_simp
          refine hK _ _ ?_
          clear hK K
          refine wpAnyIn_ready (rs := [4]) (by kernel_rfl) (by simp) ?_
          refine AllReadyIn.cons rfl (fun K hK => ?_) AllReadyIn.nil
          go_simp
          refine hK _ _ ?_
          clear hK K
          refine wpAnyIn_done (by kernel_rfl) ?_ _
          gi_wp2_with (fail)
          obtain ⟨R1, K1⟩ := HF.out _ rfl
          exact ⟨K1, ⟨S', M', t, fd, d, A, n, c, R1⟩⟩
    case stop =>
      rintro D W hD ⟨S, M, t, fd, d, A, n, c, hF⟩ hdef
      refine wpIn_ret ?_
      dsimp only
      rw [HQ.out]
      show bodyPostM Fence.wide 10 Tryz.prog Tryz.f7 (fun e w' => (Er ∧ RunErr w e w') ∨ RunEnd Good q a w e w') Exit.ret _ _
      refine leaves_marks (B := w5.heap.size) (fun W => RunFin Good q a w w5.heap.size fd d A n c S M t W) ?_ ?_ [D] W ⟨by simp, fun E hE => by rw [List.mem_singleton.1 hE]; exact ⟨hD, hdef⟩⟩ hF
      · rintro W D hF hD hdef
        exact hF.own HG.out (grownBy_putObj' W D _) (fun g e => by injection e with e; subst e; exact ⟨hD, _, hdef, rfl⟩)
      · rintro W hF
        obtain ⟨o0, o1, o2⟩ := ans_cells hF.a_
        have o3 : W.cell? ⟨w.heap.size + 4, 0, none⟩ = some (.int .i64 ((t + 1 : Nat) : Int)) := by rw [Lib.cell_of_heap hF.n_]; rfl
        have o4 : W.cell? ⟨w.heap.size + 5, 0, none⟩ = some (.int .i64 0) := by rw [Lib.cell_of_heap hF.e_]; rfl
        refine ⟨.tuple #[.agg #[.bool fd, .int .i64 d, .slice A n c], .int .i64 ((t + 1 : Nat) : Int), .int .i64 0], ?_, .inr ⟨w5.heap.size, S, M, _, t + 1, t + 1, rfl, by have := hF.lim_; omega, by omega, hF.good, hF.ran, hF.bel⟩⟩
        clear hF HQ HPRE HG HR HP HRA
        simp [results, Tryz.results7, go_sem, o0, o1, o2, o3, o4]
  · go_wp2_with (fail)
    rw [HQ.out]
    refine ⟨.tuple #[.agg #[.bool false, .int .i64 0, .slice none 0 0], .int .i64 0, .int .i64 c], ?_, .inl ⟨HER.out hc, c, hc, rfl, ?_⟩⟩
    · clear HCOK HER HPRE HR HP HQ
      simp [results, Tryz.results7, go_sem, o0, o1, o2, o3, o4]
    · exact (rb_ends HB2.out false 0 none 0 0 0 c _ rfl).2.2.2.2
end Go.Proofs.YtpdnipabaimofaaGreat
