/-
  What a part of a row reads as.
  A range over a function whose iterator keeps its own state in one captured cell (block Bn) between the rounds.
  The iterator over rows: its contract.
  Small walks of chapter 4: sorted, within, in, a row's part.
  rows.half: the walk.
  slices.BinarySearch on numbers that rise (turned from the shelf's walk).
  slices.BinarySearch on a row that rises: whether it is there.
  A region that draws its order, in a round of a range over a function: one walk in the order of the text.
-/
import Derived.Test.YtpdnipabaimofaaGreatJ02
import Derived.Test.YtpdnipabaimofaaGreatJ01
import Derived.Test.YtpdnipabaimofaaGreatProg
import Derived.RangeFuncFrom
import Derived.RangeFuncLeaves
import Derived.RangeFuncBox
import Derived.RangeFuncKeeps
import Derived.Sort.QuietTacIn
import Derived.BigQuiet
import Derived.Shelf.Abstract
import Derived.TacticsIn
import Derived.BigFrameIn
import Derived.LoopIn
import Derived.WalkLawsBesides
import Derived.WalkSpells
import Derived.Lib.QuietBelow
import Derived.RangeFuncNested
import Derived.RangeFuncBound
import Derived.RangeFuncCalls
import Derived.Shelf.RegionOpen
import Derived.OwnWalkIn
import Derived.TacticsInMore
import Derived.LoopNIn
import Derived.WalkKit
import Derived.Deep.LoopGhost
import Derived.Deep.Draws
import Derived.Lib.Walk
import Derived.Lib.SlicesSearch
namespace Go.Proofs.YtpdnipabaimofaaGreat
open Go.RowKit

/-- What a part of a row reads as. -/
theorem reads_part {w : World} {B n c : Nat} {A : Option Addr} {xs : List Int} (h : Reads w B 1 A n (iv xs)) {x y : Int} (h0 : 0 ≤ x) (h1 : x ≤ y) (h2 : y ≤ (n : Int)) (hc : n ≤ c) :
    Reads w B 1 (if c = x.toNat then A else A.map fun p => p.add x.toNat) (y.toNat - x.toNat) (iv (cutI xs x y)) := by
  have h3 := h.first (k := y.toNat) (by omega)
  have h4 := h3.cut (k := x.toNat) (A' := if c = x.toNat then A else A.map fun p => p.add x.toNat) (by omega) (fun hlt b o e => by
    rw [if_neg (by omega), e]
    simp [Addr.add])
  have e : iv (cutI xs x y) = ((iv xs).take (y.toNat * 1)).drop (x.toNat * 1) := by
    unfold cutI iv
    rw [List.map_drop, List.map_take, Nat.mul_one, Nat.mul_one]
  rw [e]
  exact h4

end Go.Proofs.YtpdnipabaimofaaGreat

namespace Go.Proofs.YtpdnipabaimofaaGreat
open Go Go.RowKit

/-- The promise of such an iterator: the caller's J bears whatever the iterator stores into block Bn; each round leaves that block as it lay and goes on. -/
def GivesS {α : Type} (F : Fence) (n : Nat) (P : Program) (g : Nat) (lb : Array Value) (encs : α → Array Value) (Bn : Nat) (S : List α → Prop) (w : World) : Prop :=
  ∀ (l : Nat) (J : List α → World → Prop) (W : World), Below w.heap.size w W → (∀ pre X v, J pre X → J pre (X.setCell ⟨Bn, 0, none⟩ v)) →
    (∀ pre x X, J pre X → (∃ xs, S (pre ++ x :: xs)) → YieldAt F (n - 1) P l (encs x) X fun e X' => e = .returned (.bool true) ∧ J (pre ++ [x]) X' ∧ X'.heap[Bn]? = X.heap[Bn]?) →
    J [] W →
    CallsIn F n P g (#[.func (.yield l) #[] #[]] ++ lb) W fun e W' => (∃ v, e = .returned v) ∧ ∃ xs, S xs ∧ J xs W'

theorem heap_setCell_ne (X : World) (Bn k : Nat) (v : Value) (h : k ≠ Bn) : (X.setCell ⟨Bn, 0, none⟩ v).heap[k]? = X.heap[k]? := by
  by_cases hk : k < X.heap.size
  · exact (grownBy_setCell' X Bn v).block k hk (fun e => h (by cases e; rfl))
  · have hs : (X.setCell ⟨Bn, 0, none⟩ v).heap.size = X.heap.size := by simp
    rw [Array.getElem?_eq_none (by omega), Array.getElem?_eq_none (by omega)]

variable {F : Fence} {n : Nat} {P : Program}

/-- The statement 'for .. := range g' over such an iterator, where each round's body ends normally. -/
theorem wpIn_range_state {α : Type} {g : Operand} {ps : Array Tmp} {assign body : Code} {Q : Exit → Act → World → Prop} {a : Act} {w : World}
    (hro : F.round = none) (h1 : 1 ≤ n) {gf : Nat} {lb : Array Value} (hg : a.eval g = .func (.func gf) #[] lb) (hFg : F.fn gf) (eg : ∀ args w, (callFunc gf args).run P w = .ok (.enter gf args) w)
    {encs : α → Array Value} {Bn : Nat} {S : List α → Prop} (hseq : GivesS F (n - 1) P gf lb encs Bn S w) (hBn : Bn < w.heap.size) (hps : ∀ x, (encs x).size = ps.size)
    (I : List α → World → Prop) (hI : OwnFrom w.heap.size I) (hIs : ∀ pre X v, I pre X → I pre (X.setCell ⟨Bn, 0, none⟩ v)) (h0 : I [] w) (a₁ : α → Act)
    (hassign : ∀ (l : Nat) (x : α) (W : World) (K : Act → World → Prop), K (a₁ x) W →
      assign.wpIn (F.inRound l) (n - 1 - 1) P (Exit.then K (fun _ _ _ => False)) { tmps := (ps.zip (encs x)).foldl (fun t (p, v) => t.setIfInBounds p v) a.tmps, defers := [] } W)
    (hbody : ∀ (l : Nat) (pre : List α) (x : α) (W : World), I pre W → (∃ xs, S (pre ++ x :: xs)) →
      body.wpIn (F.inRound l) (n - 1 - 1) P (fun e _ W' => e = .normal ∧ KeepsOthers W W' ∧ W'.heap[Bn]? = W.heap[Bn]? ∧ I (pre ++ [x]) W') (a₁ x) W)
    (hdone : ∀ (D : Nat) (xs : List α) (W : World), w.heap.size ≤ D → S xs → I xs W → W.heap[D]? = some (.deferred (some [])) → Q .normal { a with defers := { target := .collected D, args := #[] } :: a.defers } W) :
    (Code.rangeFunc g ps assign body).wpIn F n P Q a w := by
  refine wpIn_rangeFunc fun fn hfn => ?_
  rw [hro]
  generalize hB : w.heap.size = B at *
  -- the record, ready and busy, and the world in which both blocks are laid
  let rdy : Loop := { state := .ready, pending := none, fn := fn, tmps := a.tmps, params := ps, assign := assign, body := body, defers := B }
  let bsy : Loop := { rdy with state := .busy }
  let W1 : World := (w.alloc (.deferred (some []))).alloc (.loop rdy)
  have e1 : (w.alloc (.deferred (some []))).heap.size = B + 1 := by rw [World.size_alloc, hB]
  have hloop : W1.heap[B + 1]? = some (.loop rdy) := by
    have := World.alloc_heap_new (w.alloc (.deferred (some []))) (.loop rdy); rwa [e1] at this
  have hdef : W1.heap[B]? = some (.deferred (some [])) := by
    have h2 : W1.heap[B]? = (w.alloc (.deferred (some []))).heap[B]? := Below.heap_alloc _ _ _ (by rw [e1]; omega)
    have h3 := World.alloc_heap_new w (.deferred (some [])); rw [hB] at h3
    exact h2.trans h3
  have hbel : Below w.heap.size w W1 := ((Below.refl _ w).alloc (Nat.le_refl _) _).alloc (by rw [World.size_alloc]; omega) _
  let y : Value := .func (.yield (B + 1)) #[] #[]
  refine ⟨B + 1, [{ target := .collected B, args := #[] }], W1, { target := .fn (.func gf) lb, args := #[y] }, W1, gf, #[y] ++ lb, W1, ?_, ?_, ?_, ?_, fun _ => h1, ?_⟩
  · have := run_enterLoop_outer (P := P) (w := w) fn a.tmps ps assign body
    rw [hB] at this; exact this
  · simp only [resolve, hg]
    simp [go_sem, y]
  · intro f' hf'
    simp [Target.leads] at hf'
    subst hf'; exact hFg
  · simp [invoke, go_sem, eg]
  · refine (hseq (B + 1) (fun pre X => I pre X ∧ X.heap[B + 1]? = some (.loop rdy) ∧ X.heap[B]? = some (.deferred (some []))) W1 (by rw [hB] at hbel; rw [hB]; exact hbel)
      (fun pre X v h => ⟨hIs _ _ _ h.1, (heap_setCell_ne X Bn _ v (by omega)).trans h.2.1, (heap_setCell_ne X Bn _ v (by omega)).trans h.2.2⟩) ?_ ⟨hI.alloc _ (hI.alloc _ h0), hloop, hdef⟩).mono ?_
    · rintro pre x X ⟨hi, hl, hd⟩ hx
      have hltl : B + 1 < X.heap.size := (Array.getElem?_eq_some_iff.1 hl).1
      refine ⟨fn, _, assign, body, run_yield (P := P) (args := encs x) hl (hps x), roundIn_of_wpIn hfn (hassign _ x X _ ⟨_, run_beginRound hl rfl, ?_⟩)⟩
      have hl2 : (X.putObj (B + 1) (.loop bsy)).heap[B + 1]? = some (.loop bsy) := World.putObj_heap_same hltl
      have hd2 : (X.putObj (B + 1) (.loop bsy)).heap[B]? = some (.deferred (some [])) := (World.putObj_heap_other (by omega)).trans hd
      refine wpIn_mono (hbody _ pre x _ (hI.putObj _ hi (by omega) hl rfl) hx) ?_
      rintro e a3 X3 ⟨rfl, hk, hb, hi3⟩
      have hl3 := hk.same _ _ hl2 rfl
      have hd3 := hk.same _ _ hd2 rfl
      refine ⟨_, _, run_endRound (P := P) none hl3, rfl, ⟨hI.putObj _ hi3 (by omega) hl3 rfl, World.putObj_heap_same (Array.getElem?_eq_some_iff.1 hl3).1, (World.putObj_heap_other (by omega)).trans hd3⟩, ?_⟩
      exact (World.putObj_heap_other (by omega)).trans (hb.trans (World.putObj_heap_other (by omega)))
    · rintro e W2 ⟨⟨v, rfl⟩, xs, hS, hi, hl, hd⟩
      exact ⟨none, _, run_endLoop (P := P) hl (by simp [rdy]), hdone B xs _ (Nat.le_refl _) hS (hI.putObj _ hi (by omega) hl rfl) ((World.putObj_heap_other (by omega)).trans hd)⟩

#print axioms wpIn_range_state
end Go.Proofs.YtpdnipabaimofaaGreat

namespace Go.Proofs.YtpdnipabaimofaaGreat
open Go.RowKit Go.Shelf

theorem all_c (A1 A2 : Option Addr) (n1 c1 n2 c2 : Nat) (w : World) :
    Calls Tryz.prog 41 #[.slice A1 n1 c1, .slice A2 n2 c2] w fun e w' => e = .returned (.func (.func 78) #[] #[.pointer (some ⟨w.heap.size, 0, none⟩), .pointer (some ⟨w.heap.size + 1, 0, none⟩)]) ∧ w' = (w.alloc (.cells #[.slice A1 n1 c1] 25)).alloc (.cells #[.slice A2 n2 c2] 25) := by
  go_enter Tryz.func41, Tryz.ntmps41
  go_wp2
  go_ret
  refine ⟨?_, rfl⟩
  simp

/-- The pairs that rows hold. -/
abbrev PR (off to : List Int) := { p : Nat × Int // p ∈ flatR off to (off.length - 1) }
abbrev pEncs {off to : List Int} (p : PR off to) : Array Value := #[.int .i64 (p.1.1 : Nat), .int .i64 p.1.2]
/-- What a round keeps: whatever lay below n₀, and the iterator's two boxes. -/
structure KpR (n₀ Bo Bt : Nat) (W W' : World) : Prop where
  bel : Below n₀ W W'
  off : W'.heap[Bo]? = W.heap[Bo]?
  to : W'.heap[Bt]? = W.heap[Bt]?
theorem KpR.refl (n₀ Bo Bt : Nat) (W : World) : KpR n₀ Bo Bt W W := ⟨Below.refl _ _, rfl, rfl⟩
theorem KpR.trans {n₀ Bo Bt : Nat} {A B C : World} (h : KpR n₀ Bo Bt A B) (k : KpR n₀ Bo Bt B C) : KpR n₀ Bo Bt A C := ⟨h.bel.trans k.bel, k.off.trans h.off, k.to.trans h.to⟩
theorem KpR.putObj {n₀ Bo Bt : Nat} {w : World} (hn : n₀ ≤ w.heap.size) (ho : Bo < w.heap.size) (ht : Bt < w.heap.size) (W : World) (l : Nat) (o o' : Obj) (hl : w.heap.size ≤ l) (h : W.heap[l]? = some o) (h1 : o.isCells = false) (h2 : o.isWalk = false) : KpR n₀ Bo Bt W (W.putObj l o') :=
  ⟨belowK_b hn W l o o' hl h h1 h2, World.putObj_heap_other (by omega), World.putObj_heap_other (by omega)⟩
theorem KpR.drewN {n₀ Bo Bt : Nat} {A B : World} (h : KpR n₀ Bo Bt A B) (q : Nat) : KpR n₀ Bo Bt A (B.drewN q) := ⟨below_drewN h.bel q, h.off, h.to⟩

set_option maxRecDepth 100000 in
set_option maxHeartbeats 4000000 in
theorem all_stops (F : Fence) (n : Nat) (hF : F.fn 78) (hro : F.round = none) (hn : 1 ≤ n) (Bo Bt n₀ : Nat) (A1 A2 : Option Addr) (n1 c1 n2 c2 : Nat) (off to : List Int) (w : World) (hs : shapeR off to)
    (h1 : Boxed w Bo 25 (.slice A1 n1 c1)) (h2 : Boxed w Bt 25 (.slice A2 n2 c2)) (r1 : Reads w n₀ 1 A1 n1 (iv off)) (r2 : Reads w n₀ 1 A2 n2 (iv to)) (hcap : n2 ≤ c2) (hn₀ : n₀ ≤ w.heap.size) :
    SeqStopsK F n Tryz.prog 78 #[.pointer (some ⟨Bo, 0, none⟩), .pointer (some ⟨Bt, 0, none⟩)] (pEncs (off := off) (to := to)) (KpR n₀ Bo Bt) (fun xs => xs.map Subtype.val = flatR off to (off.length - 1)) (fun pre => pre.map Subtype.val <+: flatR off to (off.length - 1)) (flatR off to (off.length - 1)).length w := by
  intro l J Jx W hW hAJ _ hY h0
  have hbo : Boxed W Bo 25 (.slice A1 n1 c1) := (hW.block Bo h1.lt).trans h1
  have hbt : Boxed W Bt 25 (.slice A2 n2 c2) := (hW.block Bt h2.lt).trans h2
  have hl1 := r1.int_len
  have hl2 := r2.int_len
  have HR1 := Lib.hid (r1.below (hW.mono hn₀))
  have HR2 := Lib.hid (r2.below (hW.mono hn₀))
  have hq1 : 2 ≤ n1 := by have := hs.1.1; omega
  have hq2 : n1 ≤ 201 := by have := hs.1.2; omega
  have hq3 : n2 ≤ 2000 := by have := hs.2.1; omega
  have HS := Lib.hid hs
  have HL1 := Lib.hid hl1
  have HL2 := Lib.hid hl2
  clear hl1 hl2
  have HBO := Lib.hid hbo
  have HBT := Lib.hid hbt
  have hcb := hbo.cell
  clear h1 h2 r1 r2 hW hs
  clear hbo hbt
  refine callsIn_of_wp Tryz.func78 rfl hF ?_ hro
  simp only [Tryz.ntmps78, List.size_toArray, List.length_cons, List.length_nil, Nat.reduceAdd, Nat.reduceSub, Array.replicate_succ, Array.replicate_zero, List.push_toArray, List.append_toArray, List.nil_append, List.cons_append]
  gi_wp2_with (fail)
  clear hcb
  gi_loopw [10] (fun v wr => ∃ (j : Nat) (pre : List (PR off to)), j + 1 ≤ n1 ∧ v = .int .i64 j ∧ Hid (pre.map Subtype.val = flatR off to j) ∧ J pre wr ∧ KpR n₀ Bo Bt W wr) (fun v _ => n1 - (intOf v).toNat)
  case atStart => exact ⟨0, [], by omega, rfl, rfl, h0, KpR.refl _ _ _ _⟩
  case round =>
    obtain ⟨j, pre, hj, rfl, hp, hJ, hK⟩ := hrel
    have hco : wr.cell? ⟨Bo, 0, none⟩ = some (.slice A1 n1 c1) := Boxed.cell (hK.off.trans HBO.out)
    have hct : wr.cell? ⟨Bt, 0, none⟩ = some (.slice A2 n2 c2) := Boxed.cell (hK.to.trans HBT.out)
    by_cases hlt : j + 1 < n1
    · obtain ⟨b, o, x, rfl, hx, d0⟩ := (HR1.out.below hK.bel).int_at (k := j) (by omega)
      obtain ⟨b', o', y, he, hy, d1⟩ := (HR1.out.below hK.bel).int_at (k := j + 1) hlt
      cases he
      have hb := row_bounds HS.out (v := j) (by have := HL1.out; omega)
      rw [nth_is hx.out, nth_is hy.out] at hb
      have HX := Lib.hid (nth_is hx.out)
      have HY := Lib.hid (nth_is hy.out)
      obtain ⟨hb1, hb2, hb3⟩ := hb
      clear hx hy
      have hK' := Lib.hid hK
      clear hK
      have f1 : (0 : Int) ≤ (j : Int) := by omega
      have f2 : (j : Int) < (n1 : Int) := by omega
      have f3 : (0 : Int) ≤ (j : Int) + 1 := by omega
      have f4 : (j : Int) + 1 < (n1 : Int) := by omega
      have f5 : IntKind.i64.wrap ((j : Int) + 1) = (j : Int) + 1 := IntWalk.i64_in _ (by omega)
      have f6 : ((j : Int) + 1).toNat = j + 1 := by omega
      have f7 : y ≤ (c2 : Int) := by have := HL2.out; omega
      have f8 : (j : Int) < (n1 : Int) - 1 := by omega
      gi_wp2_with (fail)
      refine wpIn_region_quiet_lit hro (by kernel_rfl) (by kernel_rfl) ?_
      repeat (quiet_step_in (fail))
      refine wpQuietIn_nil ?_
      intro _ hw'
      obtain ⟨nq, hw''⟩ := hw'
      subst hw''
      have hr3 : Reads W n₀ 1 (if c2 = x.toNat then A2 else A2.map fun p => p.add x.toNat) (y.toNat - x.toNat) (iv (cutI to x y)) := reads_part HR2.out hb1 hb2 (by have := HL2.out; omega) hcap
      have er : Hid (cutI to x y = rowR off to j) := by show _ = _; unfold rowR; rw [HX.out, HY.out]
      have el : Hid (y.toNat - x.toNat = (rowR off to j).length) := by
        show _ = _
        rw [← er.out]
        have := cutI_len hb1 hb2 hb3
        omega
      have HR3 := Lib.hid hr3
      clear hr3
      rw [er.out] at HR3
      generalize (if c2 = x.toNat then A2 else Option.map (fun x_1 => x_1.add x.toNat) A2) = A3 at HR3 ⊢
      generalize y.toNat - x.toNat = k3 at HR3 el ⊢
      generalize c2 - x.toNat = c3
      have hk3 : k3 ≤ 2000 := by rw [el.out]; have := row_len_le off to j; have := HL2.out; omega
      clear hb1 hb2 hb3 f1 f2 f3 f4 f5 f6 f7 HX HY er d0 d1 hco hct
      gi_wp2_with (fail)
      obtain ⟨wq, hwq⟩ : ∃ wq, wq = wr.drewN nq := ⟨_, rfl⟩
      rw [← hwq]
      have hKq := Lib.hid (hK'.out.drewN nq)
      have hJq := hAJ pre wr (wr.drewN nq) none hJ (only_drewN (only_refl _ _) _) (fun _ e => by cases e)
      rw [← hwq] at hKq hJq
      clear hwq hK' hJ
      gi_loopw [25] (fun v wi => ∃ (i : Nat) (pre' : List (PR off to)), i ≤ k3 ∧ v = .int .i64 i ∧ Hid (pre'.map Subtype.val = flatR off to j ++ ((rowR off to j).take i).map (fun x => (j, x))) ∧ J pre' wi ∧ KpR n₀ Bo Bt W wi) (fun v _ => k3 - (intOf v).toNat)
      case atStart => exact ⟨0, pre, Nat.zero_le _, rfl, by show _ = _; rw [hp.out]; simp, hJq, hKq.out⟩
      case round =>
        clear hp hJq hKq pre
        obtain ⟨i, pre, hi, rfl, hp, hJ, hK⟩ := hrel
        by_cases hlt2 : i < k3
        · obtain ⟨b3, o3, z, rfl, hz, d0⟩ := (HR3.out.below hK.bel).int_at (k := i) hlt2
          have HZ := Lib.hid hz.out
          have hsn : Hid ((rowR off to j).take (i + 1) = (rowR off to j).take i ++ [z]) := by show _ = _; rw [List.take_add_one, HZ.out]; rfl
          have hpn : Hid (∀ hm, (pre ++ [(⟨(j, z), hm⟩ : PR off to)]).map Subtype.val = flatR off to j ++ ((rowR off to j).take (i + 1)).map (fun x => (j, x))) := fun hm => by
            rw [List.map_append, hp.out, hsn.out, List.map_append, List.append_assoc]
            rfl
          have hmem : (j, z) ∈ flatR off to (off.length - 1) := mem_flatR.2 ⟨by have := HL1.out; show j < _; omega, List.mem_of_getElem? HZ.out⟩
          have hjl : Hid (j < off.length - 1) := by have := HL1.out; show j < _; omega
          have hln : pre.length < (flatR off to (off.length - 1)).length := by
            have h1 := flatR_pre_len off to hjl.out (i := i) (by rw [← el.out]; exact hlt2)
            have h2 := congrArg List.length hp.out
            rw [List.length_map] at h2
            omega
          obtain ⟨f1, t1, a1, b1, hy, hR⟩ := hY pre ⟨(j, z), hmem⟩ wr hJ hln
          have hpn := Lib.hid (hpn.out hmem)
          dsimp only [pEncs] at hy
          clear hln hz
          have HK := Lib.hid hK
          clear hK
          have e1 : (0 : Int) ≤ (i : Int) := by omega
          have e2 : (i : Int) < (k3 : Int) := by omega
          gi_wp2_with (fail)
          refine hR.mono ?_
          rintro e w3 (⟨rfl, hJ3, hk3⟩ | ⟨rfl, hJx3⟩)
          · have HK3 := Lib.hid (HK.out.trans hk3)
            clear hk3
            gi_wp2_with (fail)
            go_roundw
            case rel => exact ⟨i + 1, _, by omega, by go_num, hpn, hJ3, HK3.out⟩
            case measure => simp [intOf]; omega
          · have hpx : Hid ((pre ++ [(⟨(j, z), hmem⟩ : PR off to)]).map Subtype.val <+: flatR off to (off.length - 1)) := by
              show _ <+: _
              rw [hpn.out]
              exact flatR_pre off to hjl.out (i + 1)
            gi_wp2_with (fail)
            refine bodyPost_ret (results_none rfl _ _ _) rfl ?_
            exact ⟨⟨_, rfl⟩, .inr ⟨_, hpx.out, hJx3⟩⟩
        · obtain rfl : i = k3 := by omega
          have hp2 : Hid (pre.map Subtype.val = flatR off to (j + 1)) := by
            show _ = _
            rw [hp.out, flatR_succ, List.take_of_length_le (by rw [← el.out]; exact Nat.le_refl _)]
          have HK := Lib.hid hK
          clear hK
          gi_wp2_with (fail)
          go_roundw
          case rel => exact ⟨j + 1, pre, by omega, by go_num, hp2, hJ, HK.out⟩
          case measure => simp [intOf]; omega
    · have f8 : ¬ (j : Int) < (n1 : Int) - 1 := by omega
      have hp2 : Hid (pre.map Subtype.val = flatR off to (off.length - 1)) := by show _ = _; rw [hp.out]; congr 1; have := HL1.out; omega
      gi_wp2_with (fail)
      go_end0
      exact ⟨⟨_, rfl⟩, .inl ⟨pre, hp2.out, hJ⟩⟩
end Go.Proofs.YtpdnipabaimofaaGreat

namespace Go.Proofs.YtpdnipabaimofaaGreat
open Go.RowKit

theorem less_c (x y : Int) (w : World) : Calls Tryz.prog 79 #[.int .i64 x, .int .i64 y] w fun e w' => e = .returned (.bool (decide (x < y))) ∧ w' = w := by
  go_enter Tryz.func79, Tryz.ntmps79
  go_wp2_with (fail)
  refine (isNaN_c x _).mono ?_
  rintro e w1 ⟨rfl, rfl⟩
  go_wp2_with (fail)
  go_ret
  exact ⟨rfl, rfl⟩
theorem isNaNs_c (x : Int) (w : World) : Calls Tryz.prog 80 #[.int .i64 x] w fun e w' => e = .returned (.bool false) ∧ w' = w := by
  go_enter Tryz.func80, Tryz.ntmps80
  go_wp2
  go_ret
  exact ⟨by simp, rfl⟩

/-- A contract that ends in 'Below', met in any world behind w. -/
theorem regrown_call {P : Program} {f : FuncId} {args : Array Value} {w : World} {v : Value} (h : ∀ w', Below w.heap.size w w' → Calls P f args w' fun e w'' => e = .returned v ∧ Below w'.heap.size w' w'') (d : Nat) (os : Array Obj) :
    Calls P f args (Sort.grow (redrawn w d) os) fun e w'' => e = .returned v ∧ ∃ p : Regrown, w'' = Sort.grow (redrawn w p.d) p.os :=
  Calls.regrown_of (h _ (below_regrown w d os))

set_option maxRecDepth 100000 in
set_option maxHeartbeats 1000000 in
theorem isSorted_c (A : Option Addr) (n c : Nat) (xs : List Int) (w : World) (h : Reads w w.heap.size 1 A n (iv xs)) (hn : n ≤ maxLen) :
    Calls Tryz.prog 76 #[.slice A n c] w fun e w' => e = .returned (.bool (decide (climbs xs))) ∧ Below w.heap.size w w' := by
  have hl := h.int_len
  unfold maxLen at hn
  have HR := Lib.hid h
  clear h
  go_enter Tryz.func76, Tryz.ntmps76
  go_wp2
  go_loopw [3] (fun i wr => ∃ k : Int, i = .int .i64 k ∧ (-1 ≤ k ∧ k < n) ∧ Hid (∀ v : Nat, k ≤ v → v + 1 < n → nth xs v ≤ nth xs (v + 1)) ∧ Below w.heap.size w wr) (fun i _ => (intOf i + 1).toNat)
  case atStart => exact ⟨(n : Int) - 1, by go_num, by omega, fun v hv hv2 => by omega, Below.refl _ _⟩
  case round =>
    obtain ⟨k, rfl, hk, hT, hB⟩ := hrel
    by_cases hk0 : 0 < k
    · obtain ⟨j, rfl⟩ : ∃ j : Nat, k = (j : Int) + 1 := ⟨(k - 1).toNat, by omega⟩
      obtain ⟨b, o, x, rfl, hx, d0⟩ := (HR.out.below hB).int_at (k := j + 1) (by omega)
      obtain ⟨b', o', y, he, hy, d1⟩ := (HR.out.below hB).int_at (k := j) (by omega)
      cases he
      have f1 : (0 : Int) ≤ (j : Int) := by omega
      have f2 : (j : Int) < (n : Int) := by omega
      have f3 : (0 : Int) ≤ (j : Int) + 1 := by omega
      have f4 : (j : Int) + 1 < (n : Int) := by omega
      have f5 : IntKind.i64.wrap (j : Int) = (j : Int) := IntWalk.i64_in _ (by omega)
      have f6 : ((j : Int) + 1).toNat = j + 1 := by omega
      have HB := Lib.hid hB
      have HX := Lib.hid (nth_is hx.out)
      have HY := Lib.hid (nth_is hy.out)
      clear hB hx hy
      have e0 := cell_regrown d0
      have e1 := cell_regrown d1
      have HCL := Lib.hid (regrown_call (w := wr) (P := Tryz.prog) (f := 79) (args := #[.int .i64 x, .int .i64 y]) (v := .bool (decide (x < y))) (fun w' _ => (less_c x y w').mono fun e w'' hh => ⟨hh.1, hh.2 ▸ Below.refl _ _⟩))
      go_wp2_with (fail)
      refine wp_region_quiet_below (by kernel_rfl) (by kernel_rfl) ?_
      repeat (quiet_step ((go_at_call 79; exact HCL.out _ _)))
      refine wpQuiet_nil ?_
      intro _ hw'
      obtain ⟨⟨dq, osq⟩, hw''⟩ := hw'
      have HZ := Lib.hid (HB.out.trans ((below_regrown wr dq osq).mono HB.out.size))
      rw [← hw''] at HZ
      clear hw'' HCL e0 e1 d0 d1 f1 f2 f3 f4 f5 f6
      by_cases hlt : x < y
      · have hd : decide (x < y) = true := decide_eq_true hlt
        rw [hd]
        go_wp2_with (fail)
        go_ret
        refine ⟨ret_bool (decide_eq_false fun h => ?_).symm, HZ.out⟩
        have h1 := h j (by omega)
        rw [HX.out, HY.out] at h1
        omega
      · have hd : decide (x < y) = false := decide_eq_false hlt
        rw [hd]
        go_wp2_with (fail)
        go_roundw
        case rel =>
          refine ⟨(j : Int), by go_num, by omega, fun v hv hv2 => ?_, HZ.out⟩
          by_cases e : v = j
          · rw [e, HX.out, HY.out]; omega
          · exact hT.out v (by omega) hv2
        case measure => simp [intOf]; omega
    · go_wp2
      go_ret
      refine ⟨ret_bool (decide_eq_true (show climbs xs from fun v hv => ?_)).symm, hB⟩
      rw [hl] at hv
      exact hT.out v (by omega) hv

set_option maxRecDepth 100000 in
set_option maxHeartbeats 1000000 in
theorem within_c (m : Int) (A : Option Addr) (n c : Nat) (xs : List Int) (w : World) (h : Reads w w.heap.size 1 A n (iv xs)) (hn : n ≤ maxLen) :
    Calls Tryz.prog 77 #[.int .i64 m, .slice A n c] w fun e w' => e = .returned (.bool (decide (∀ x ∈ xs, 0 ≤ x ∧ x ≤ m))) ∧ Below w.heap.size w w' := by
  have hl := h.int_len
  unfold maxLen at hn
  have HR := Lib.hid h
  clear h
  go_enter Tryz.func77, Tryz.ntmps77
  go_wp2
  go_loopw [9] (fun i wr => ∃ j : Nat, j ≤ n ∧ i = .int .i64 j ∧ Hid (∀ x ∈ xs.take j, 0 ≤ x ∧ x ≤ m) ∧ Below w.heap.size w wr) (fun i _ => n - (intOf i).toNat)
  case atStart => exact ⟨0, Nat.zero_le _, rfl, fun x hx => by simp at hx, Below.refl _ _⟩
  case round =>
    obtain ⟨j, hj, rfl, hT, hB⟩ := hrel
    by_cases hlt : j < n
    · obtain ⟨b, o, x, rfl, hx, d0⟩ := (HR.out.below hB).int_at hlt
      have f1 : (0 : Int) ≤ (j : Int) := by omega
      have f2 : (j : Int) < (n : Int) := by omega
      have HX := Lib.hid hx.out
      clear hx
      have hmem : Hid (x ∈ xs) := List.mem_of_getElem? HX.out
      by_cases hx0 : x < 0
      · go_wp2
        go_ret
        exact ⟨ret_bool (decide_eq_false fun k => by have := (k x hmem.out).1; omega).symm, hB⟩
      by_cases hxm : m < x
      · go_wp2
        go_ret
        exact ⟨ret_bool (decide_eq_false fun k => by have := (k x hmem.out).2; omega).symm, hB⟩
      go_wp2
      go_roundw
      case rel =>
        refine ⟨j + 1, by omega, by go_num, fun y hy => ?_, hB⟩
        rw [List.take_add_one, HX.out, Option.toList_some] at hy
        rcases List.mem_append.1 hy with hy | hy
        · exact hT.out y hy
        · rw [List.mem_singleton.1 hy]; omega
      case measure => simp [intOf]; omega
    · obtain rfl : n = j := by omega
      rw [List.take_of_length_le (by omega)] at hT
      go_wp2
      go_ret
      exact ⟨ret_bool (decide_eq_true hT.out).symm, hB⟩

end Go.Proofs.YtpdnipabaimofaaGreat

namespace Go.Proofs.YtpdnipabaimofaaGreat
open Go.RowKit Go.Shelf

attribute [local go_sem] Oper.semAt_some

theorem half_end {a : Act} {W w : World} {b : Nat} {v : Bool} (ht : a.tmps.getD 4 undef = .pointer (some ⟨b, 0, none⟩)) (hd : a.defers = []) (hc : W.cell? ⟨b, 0, none⟩ = some (.bool v)) (hB : Below w.heap.size w W) :
    bodyPost Tryz.prog Tryz.f40 (fun e w' => e = .returned (.bool v) ∧ Below w.heap.size w w') Exit.ret a W := by
  refine bodyPost_ret (v := .bool v) ?_ hd ⟨rfl, hB⟩
  rw [Array.getD_eq_getD_getElem?] at ht
  simp [results, Tryz.results40, ht, hc, go_sem]

/-- The two cells that the walk begins with. -/
theorem half_two (w : World) (x : Int) : Below w.heap.size w ((w.alloc (.cells #[.bool false] 4)).alloc (.cells #[.int .i64 x] 3)) := ((Below.refl _ _).alloc (Nat.le_refl _) _).alloc (by simp) _
theorem half_res (w : World) (x : Int) : ((w.alloc (.cells #[.bool false] 4)).alloc (.cells #[.int .i64 x] 3)).cell? ⟨w.heap.size, 0, none⟩ = some (.bool false) := ((Boxed.new w 4 (.bool false)).alloc _).cell

set_option maxRecDepth 100000 in
set_option maxHeartbeats 4000000 in
/-- Where offsets are not right. -/
theorem half_no (A1 A2 : Option Addr) (n1 c1 n2 c2 : Nat) (off to : List Int) (w : World) (h1 : Reads w w.heap.size 1 A1 n1 (iv off)) (h2 : Reads w w.heap.size 1 A2 n2 (iv to)) (hm1 : n1 ≤ maxLen) (hm2 : n2 ≤ maxLen) (hn : ¬ shapeR off to) :
    Calls Tryz.prog 40 #[.slice A1 n1 c1, .slice A2 n2 c2] w fun e w' => e = .returned (.bool false) ∧ Below w.heap.size w w' := by
  unfold maxLen at hm1 hm2
  have hl1 := h1.int_len
  have hl2 := h2.int_len
  by_cases a1 : n1 < 2
  · have a1' : (n1 : Int) - 1 < 1 := by omega
    clear h1 h2 hn
    go_enter Tryz.func40, Tryz.ntmps40
    go_wp2_with (fail)
    exact half_end rfl rfl (half_res _ _) (half_two _ _)
  have a1' : ¬ (n1 : Int) - 1 < 1 := by omega
  by_cases a2 : 201 < n1
  · have a2' : (200 : Int) < (n1 : Int) - 1 := by omega
    clear h1 h2 hn
    go_enter Tryz.func40, Tryz.ntmps40
    go_wp2_with (fail)
    exact half_end rfl rfl (half_res _ _) (half_two _ _)
  have a2' : ¬ (200 : Int) < (n1 : Int) - 1 := by omega
  by_cases a5 : 2000 < n2
  · have a5' : (2000 : Int) < (n2 : Int) := by omega
    clear h1 h2 hn
    go_enter Tryz.func40, Tryz.ntmps40
    go_wp2_with (fail)
    exact half_end rfl rfl (half_res _ _) (half_two _ _)
  have a5' : ¬ (2000 : Int) < (n2 : Int) := by omega
  obtain ⟨b, o, x0, rfl, hx0, d0⟩ := (h1.below (half_two w ((n1 : Int) - 1))).int_at (k := 0) (by omega)
  have e0 := Lib.hid (nth_is hx0.out)
  obtain ⟨b', o', xl, he, hxl, d1⟩ := (h1.below (half_two w ((n1 : Int) - 1))).int_at (k := n1 - 1) (by omega)
  cases he
  have e1 := Lib.hid (nth_is hxl.out)
  have HR1 := Lib.hid h1
  have HN := Lib.hid hn
  have HL1 := Lib.hid hl1
  have HL2 := Lib.hid hl2
  clear hx0 hxl h1 h2 hn hl1 hl2
  rw [Nat.add_zero] at d0
  have g2 : (0 : Int) ≤ (n1 : Int) - 1 := by omega
  have g3 : (n1 : Int) - 1 < (n1 : Int) := by omega
  have g4 : (0 : Int) < (n1 : Int) := by omega
  have g6 : ((n1 : Int) - 1).toNat = n1 - 1 := by omega
  by_cases a3 : x0 = 0
  rotate_left
  · have a3' : (x0 != 0) = true := by simpa using a3
    go_enter Tryz.func40, Tryz.ntmps40
    go_wp2_with (fail)
    exact half_end rfl rfl (half_res _ _) (half_two _ _)
  subst a3
  by_cases a4 : xl = (n2 : Int)
  rotate_left
  · have a4' : (xl != (n2 : Int)) = true := by simpa using a4
    go_enter Tryz.func40, Tryz.ntmps40
    go_wp2_with (fail)
    exact half_end rfl rfl (half_res _ _) (half_two _ _)
  subst a4
  have hc : decide (climbs off) = false := decide_eq_false fun hc => HN.out ⟨by have := HL1.out; omega, by have := HL2.out; omega, e0.out, by have := HL1.out; have := HL2.out; have := e1.out; rw [HL1.out, HL2.out]; exact this, hc⟩
  go_enter Tryz.func40, Tryz.ntmps40
  go_wp2_with (fail)
  refine (isSorted_c _ _ _ off _ ((HR1.out.below (half_two _ _)).more (half_two _ _).size) (by unfold maxLen; omega)).mono ?_
  rintro e w1 ⟨rfl, hB1⟩
  rw [hc]
  have hres : w1.cell? ⟨w.heap.size, 0, none⟩ = some (.bool false) := (hB1.cell (p := ⟨w.heap.size, 0, none⟩) (by simp; omega)).trans (half_res _ _)
  have HB := Lib.hid ((half_two w ((n1 : Int) - 1)).trans (hB1.mono (half_two w ((n1 : Int) - 1)).size))
  have hfz : w1.frozen? ⟨w.heap.size, 0, none⟩ = false := (hB1.frozen (p := ⟨w.heap.size, 0, none⟩) (by simp; omega)).trans ((Boxed.new w 4 (.bool false)).alloc _).frozen
  clear hB1 d0 d1
  go_wp2_with (fail)
  exact half_end rfl rfl (World.cell?_setCell_same' _ _ _ (by rw [hres]; rfl)) (HB.out.setCell (p := ⟨w.heap.size, 0, none⟩) (Nat.le_refl _) _)

/-- The pair that came last. -/
def lastV (l : List (Nat × Int)) : Int := l.getLast?.elim (-1) fun p => (p.1 : Int)
def lastW (l : List (Nat × Int)) : Int := l.getLast?.elim 0 fun p => p.2
theorem lastV_snoc (l : List (Nat × Int)) (x : Nat × Int) : lastV (l ++ [x]) = x.1 := by simp [lastV]
theorem lastW_snoc (l : List (Nat × Int)) (x : Nat × Int) : lastW (l ++ [x]) = x.2 := by simp [lastW]
theorem last_ok {l : List (Nat × Int)} {x : Nat × Int} : (∀ y, l.getLast? = some y → y.1 = x.1 → y.2 < x.2) ↔ ¬ ((x.1 : Int) = lastV l ∧ x.2 ≤ lastW l) := by
  unfold lastV lastW
  generalize l.getLast? = o
  cases o with
  | none => simp
  | some y => simp; omega
theorem keepsFrom_below {B : Nat} {W W' : World} (h : Below W.heap.size W W') : KeepsFrom B W W' := ⟨h.size, fun k _ _ hk _ => (h.block k (Array.getElem?_eq_some_iff.1 hk).1).trans hk⟩
theorem KpR.setCell {n₀ Bo Bt k : Nat} {A B : World} (h : KpR n₀ Bo Bt A B) (hn : n₀ ≤ k) (ho : k ≠ Bo) (ht : k ≠ Bt) (v : Value) : KpR n₀ Bo Bt A (B.setCell ⟨k, 0, none⟩ v) :=
  ⟨h.bel.setCell (p := ⟨k, 0, none⟩) hn v, (heap_setCell_ne B k Bo v ho.symm).trans h.off, (heap_setCell_ne B k Bt v ht.symm).trans h.to⟩
theorem KpR.of_below {n₀ Bo Bt : Nat} {W W' : World} (h : Below W.heap.size W W') (hn : n₀ ≤ W.heap.size) (ho : Bo < W.heap.size) (ht : Bt < W.heap.size) : KpR n₀ Bo Bt W W' := ⟨h.mono hn, h.block _ ho, h.block _ ht⟩

set_option maxRecDepth 100000 in
set_option maxHeartbeats 4000000 in
/-- Where offsets are right. -/
theorem half_yes (A1 A2 : Option Addr) (n1 c1 n2 c2 : Nat) (off to : List Int) (w : World) (h1 : Reads w w.heap.size 1 A1 n1 (iv off)) (h2 : Reads w w.heap.size 1 A2 n2 (iv to)) (hcap : n2 ≤ c2) (hs : shapeR off to) :
    Calls Tryz.prog 40 #[.slice A1 n1 c1, .slice A2 n2 c2] w fun e w' => e = .returned (.bool (decide (halfR off to))) ∧ Below w.heap.size w w' := by
  have hl1 := h1.int_len
  have hl2 := h2.int_len
  have k1 : 2 ≤ n1 := by have := hs.1.1; omega
  have k2 : n1 ≤ 201 := by have := hs.1.2; omega
  have k3 : n2 ≤ 2000 := by have := hs.2.1; omega
  have a1' : ¬ (n1 : Int) - 1 < 1 := by omega
  have a2' : ¬ (200 : Int) < (n1 : Int) - 1 := by omega
  have a5' : ¬ (2000 : Int) < (n2 : Int) := by omega
  obtain ⟨b, o, x0, rfl, hx0, d0⟩ := (h1.below (half_two w ((n1 : Int) - 1))).int_at (k := 0) (by omega)
  obtain ⟨b', o', xl, he, hxl, d1⟩ := (h1.below (half_two w ((n1 : Int) - 1))).int_at (k := n1 - 1) (by omega)
  cases he
  obtain rfl : x0 = 0 := by have := nth_is hx0.out; have := hs.2.2.1; omega
  obtain rfl : xl = (n2 : Int) := by have h3 := nth_is hxl.out; have h4 := hs.2.2.2.1; rw [hl1, hl2] at h4; omega
  have HR1 := Lib.hid h1
  have HR2 := Lib.hid h2
  have HS := Lib.hid hs
  have HL1 := Lib.hid hl1
  have HL2 := Lib.hid hl2
  clear hx0 hxl h1 h2 hs hl1 hl2
  rw [Nat.add_zero] at d0
  have g2 : (0 : Int) ≤ (n1 : Int) - 1 := by omega
  have g3 : (n1 : Int) - 1 < (n1 : Int) := by omega
  have g4 : (0 : Int) < (n1 : Int) := by omega
  have g6 : ((n1 : Int) - 1).toNat = n1 - 1 := by omega
  rw [← callsIn_wide (n := 10)]
  refine callsIn_of_wp_marks Tryz.func40 rfl trivial ?_ rfl
  simp only [Tryz.ntmps40, List.size_toArray, List.length_cons, List.length_nil, Nat.reduceAdd, Nat.reduceSub, Array.replicate_succ, Array.replicate_zero, List.push_toArray, List.append_toArray, List.nil_append, List.cons_append]
  gi_wp2_with (fail)
  refine ⟨trivial, (callsIn_wide.2 (isSorted_c _ _ _ off _ ((HR1.out.below (half_two _ _)).more (half_two _ _).size) (by unfold maxLen; omega))).mono ?_⟩
  rintro e w1 ⟨rfl, hB1⟩
  rw [decide_eq_true HS.out.2.2.2.2]
  have hbr : Hid (Boxed w1 w.heap.size 4 (.bool false)) := (hB1.block w.heap.size (by simp; omega)).trans ((Boxed.new w 4 (.bool false)).alloc _)
  have hbn : Hid (Boxed w1 (w.heap.size + 1) 3 (.int .i64 ((n1 : Int) - 1))) := (hB1.block (w.heap.size + 1) (by simp)).trans (by have := Boxed.new (w.alloc (.cells #[.bool false] 4)) 3 (.int .i64 ((n1 : Int) - 1)); rw [World.size_alloc] at this; exact this)
  have HB := Lib.hid ((half_two w ((n1 : Int) - 1)).trans (hB1.mono (half_two w ((n1 : Int) - 1)).size))
  have hsz : w.heap.size + 2 ≤ w1.heap.size := by have := hB1.size; simp at this; omega
  clear hB1 d0 d1
  gi_wp2_with (fail)
  refine ⟨trivial, (callsIn_wide.2 (all_c _ _ _ _ _ _ _)).mono ?_⟩
  rintro e w' ⟨rfl, rfl⟩
  gi_wp2_with (fail)
  have bV := (((Boxed.new w1 3 (.int .i64 (-1))).alloc (.cells #[.int .i64 0] 3)).alloc (.cells #[.slice (some ⟨b, o, none⟩) n1 c1] 25)).alloc (.cells #[.slice A2 n2 c2] 25)
  have bW := ((Boxed.new (w1.alloc (.cells #[.int .i64 (-1)] 3)) 3 (.int .i64 0)).alloc (.cells #[.slice (some ⟨b, o, none⟩) n1 c1] 25)).alloc (.cells #[.slice A2 n2 c2] 25)
  have bO := (Boxed.new ((w1.alloc (.cells #[.int .i64 (-1)] 3)).alloc (.cells #[.int .i64 0] 3)) 25 (.slice (some ⟨b, o, none⟩) n1 c1)).alloc (.cells #[.slice A2 n2 c2] 25)
  have bT := Boxed.new (((w1.alloc (.cells #[.int .i64 (-1)] 3)).alloc (.cells #[.int .i64 0] 3)).alloc (.cells #[.slice (some ⟨b, o, none⟩) n1 c1] 25)) 25 (.slice A2 n2 c2)
  have bR := (((hbr.out.alloc (.cells #[.int .i64 (-1)] 3)).alloc (.cells #[.int .i64 0] 3)).alloc (.cells #[.slice (some ⟨b, o, none⟩) n1 c1] 25)).alloc (.cells #[.slice A2 n2 c2] 25)
  have bN := (((hbn.out.alloc (.cells #[.int .i64 (-1)] 3)).alloc (.cells #[.int .i64 0] 3)).alloc (.cells #[.slice (some ⟨b, o, none⟩) n1 c1] 25)).alloc (.cells #[.slice A2 n2 c2] 25)
  have hW0 : ((((w1.alloc (.cells #[.int .i64 (-1)] 3)).alloc (.cells #[.int .i64 0] 3)).alloc (.cells #[.slice (some ⟨b, o, none⟩) n1 c1] 25)).alloc (.cells #[.slice A2 n2 c2] 25)).heap.size = w1.heap.size + 4 := by simp
  have hB0 : Below w.heap.size w ((((w1.alloc (.cells #[.int .i64 (-1)] 3)).alloc (.cells #[.int .i64 0] 3)).alloc (.cells #[.slice (some ⟨b, o, none⟩) n1 c1] 25)).alloc (.cells #[.slice A2 n2 c2] 25)) :=
    HB.out.trans (((((Below.refl _ w1).alloc (by omega) _).alloc (by simp; omega) _).alloc (by simp; omega) _).alloc (by simp; omega) _)
  simp only [World.size_alloc] at bW bO bT
  generalize hW : (((w1.alloc (.cells #[.int .i64 (-1)] 3)).alloc (.cells #[.int .i64 0] 3)).alloc (.cells #[.slice (some ⟨b, o, none⟩) n1 c1] 25)).alloc (.cells #[.slice A2 n2 c2] 25) = W0 at *
  clear hW hbr hbn HB
  generalize hsv : w1.heap.size = sv at *
  clear hsv
  refine wpIn_rangeFunc_ownG rfl (by omega) (gf := 78) (lb := #[.pointer (some ⟨sv + 1 + 1, 0, none⟩), .pointer (some ⟨sv + 1 + 1 + 1, 0, none⟩)]) rfl trivial (enters_of Tryz.func78 (by kernel_rfl) rfl)
    (all_stops _ _ trivial rfl (by omega) (sv + 1 + 1) (sv + 1 + 1 + 1) w.heap.size _ A2 n1 c1 n2 c2 off to W0 HS.out bO bT (HR1.out.below hB0) (HR2.out.below hB0) hcap (by omega)) KpR.trans (KpR.putObj (by omega) (by omega) (by omega)) (Below.refl _ _) (fun _ => rfl)
    (fun pre W => ((((okSeq (off.length - 1) (pre.map Subtype.val) ∧ Boxed W w.heap.size 4 (.bool false)) ∧ Boxed W (w.heap.size + 1) 3 (.int .i64 ((n1 : Int) - 1))) ∧ Boxed W sv 3 (.int .i64 (lastV (pre.map Subtype.val)))) ∧ Boxed W (sv + 1) 3 (.int .i64 (lastW (pre.map Subtype.val)))) ∧ (Below w.heap.size w W ∧ sv + 4 ≤ W.heap.size))
    (fun c pre W => ((c = .ret ∧ ¬ okSeq (off.length - 1) (pre.map Subtype.val)) ∧ Boxed W w.heap.size 4 (.bool false)) ∧ Below w.heap.size w W)
    (OwnFrom.and (OwnFrom.and (OwnFrom.and (OwnFrom.and (OwnFrom.and (ownFrom_pure _ _) (Own.from (boxed_own _ _ _) _)) (Own.from (boxed_own _ _ _) _)) (Own.from (boxed_own _ _ (fun (pre : List (PR off to)) => .int .i64 (lastV (pre.map Subtype.val)))) _)) (Own.from (boxed_own _ _ (fun (pre : List (PR off to)) => .int .i64 (lastW (pre.map Subtype.val)))) _)) (OwnFrom.and (ownFrom_below (Nat.le_refl _) (by omega)) (fun _ _ _ _ h hg _ => Nat.le_trans h hg.size)))
    (fun c => OwnFrom.and (OwnFrom.and (ownFrom_pure _ _) (Own.from (boxed_own _ _ _) _)) (ownFrom_below (Nat.le_refl _) (by omega)))
    ⟨⟨⟨⟨⟨okSeq_nil _, bR⟩, bN⟩, bV⟩, bW⟩, hB0, by omega⟩
    (fun x => { tmps := #[Value.slice (some { block := b, off := o }) n1 c1, Value.slice A2 n2 c2, undef, undef,
          Value.pointer (some { block := w.heap.size, off := 0 }),
          Value.pointer (some { block := w.heap.size + 1, off := 0 }),
          Value.pointer (some { block := sv, off := 0 }),
          Value.pointer (some { block := sv + 1, off := 0 }), .int .i64 (x.1.1 : Nat), .int .i64 x.1.2,
          Value.slice (some { block := b, off := o }) n1 c1, Value.int IntKind.i64 ↑n1, Value.int IntKind.i64 (↑n1 - 1),
          Value.int IntKind.i64 (↑n1 - 1), Value.bool false, Value.bool false, Value.int IntKind.i64 (↑n1 - 1),
          Value.bool false, Value.bool false, Value.bool false, Value.slice A2 n2 c2, Value.int IntKind.i64 ↑n2,
          Value.bool false, Value.bool false, Value.bool false, Value.slice (some { block := b, off := o }) n1 c1,
          Value.pointer (some { block := b, off := o }), Value.int IntKind.i64 0, Value.bool false, Value.bool false,
          Value.bool false, Value.slice (some { block := b, off := o }) n1 c1, Value.int IntKind.i64 (↑n1 - 1),
          Value.pointer (some { block := b, off := o + (n1 - 1) }), Value.int IntKind.i64 ↑n2, Value.slice A2 n2 c2,
          Value.int IntKind.i64 ↑n2, Value.bool false, Value.bool false, Value.bool false,
          Value.slice (some { block := b, off := o }) n1 c1, Value.bool true, Value.bool false, Value.bool false,
          Value.slice (some { block := b, off := o }) n1 c1, Value.slice A2 n2 c2,
          Value.func (Fn.func 78) #[]
            #[Value.pointer (some { block := sv + 1 + 1, off := 0 }),
              Value.pointer (some { block := sv + 1 + 1 + 1, off := 0 })],
          .int .i64 (x.1.1 : Nat), .int .i64 x.1.2, undef, undef, undef, undef, undef, undef, undef, undef, undef, undef, undef, undef, undef,
          undef, undef, undef, undef, undef], defers := [] }) ?assign ?body ?done ?stop
  case assign =>
    intro l x W K hK
    gi_wp2_with (fail)
    exact hK
  case body =>
    rintro l pre x W ⟨⟨⟨⟨⟨hp, bR⟩, bN⟩, bV⟩, bW⟩, hB, hZ⟩ hlt
    have cN := bN.cell
    have cV := bV.cell
    have cW := bW.cell
    have fV := bV.frozen
    have fW := bW.frozen
    have cR := bR.cell
    have fR := bR.frozen
    have hmap : Hid ((pre ++ [x]).map Subtype.val = pre.map Subtype.val ++ [x.1]) := by show _ = _; simp
    obtain ⟨xv, xy⟩ : ∃ y, y = x.1.2 := ⟨_, rfl⟩
    obtain ⟨xu, xz⟩ : ∃ y : Int, y = (x.1.1 : Int) := ⟨_, rfl⟩
    rw [← xy, ← xz]
    have HXY := Lib.hid xy
    have HXZ := Lib.hid xz
    clear xy xz
    obtain ⟨lv, elv⟩ : ∃ y, y = lastV (pre.map Subtype.val) := ⟨_, rfl⟩
    obtain ⟨lw, elw⟩ : ∃ y, y = lastW (pre.map Subtype.val) := ⟨_, rfl⟩
    rw [← elv] at bV cV
    rw [← elw] at bW cW
    have HLV := Lib.hid elv
    have HLW := Lib.hid elw
    clear elv elw
    gi_wp2_with (fail)
    refine ⟨trivial, (CallsIn.inRound l (callsIn_wide.2 (within_c ((n1 : Int) - 1 - 1) _ 1 1 [xv] _ (by rw [World.size_alloc]; exact reads_lit W [xv] 3) (by unfold maxLen; omega)))).mono ?_⟩
    rintro e w3 ⟨rfl, hB3⟩
    have hB4 : Below W.heap.size W w3 := (below_one W _).trans (hB3.mono (by simp))
    have bR3 : Boxed w3 w.heap.size 4 (.bool false) := (hB4.block _ bR.lt).trans bR
    have bN3 : Boxed w3 (w.heap.size + 1) 3 (.int .i64 ((n1 : Int) - 1)) := (hB4.block _ bN.lt).trans bN
    have bV3 : Boxed w3 sv 3 (.int .i64 lv) := (hB4.block _ bV.lt).trans bV
    have bW3 : Boxed w3 (sv + 1) 3 (.int .i64 lw) := (hB4.block _ bW.lt).trans bW
    have hK3 := keepsFrom_below (B := W0.heap.size) hB4
    have hsW := hB.size
    have hBB := Lib.hid (hB.trans (hB4.mono hsW))
    clear cN cV cW fV fW cR fR bR bN bV bW hB3
    have cR := bR3.cell
    have fR := bR3.frozen
    have cV := bV3.cell
    have cW := bW3.cell
    have fV := bV3.frozen
    have fW := bW3.frozen
    have hP := Lib.hid hp
    clear hp
    have H1 : (n1 : Int) - 1 - 1 + 1 = ((off.length - 1 : Nat) : Int) := by have := HL1.out; omega
    by_cases hw : 0 ≤ xv ∧ xv ≤ (n1 : Int) - 1 - 1
    rotate_left
    · have hno : Hid (¬ okSeq (off.length - 1) ((pre ++ [x]).map Subtype.val)) := fun h => by
        rw [hmap.out, okSeq_snoc] at h
        have := h.2.1
        have := HXY.out
        omega
      rw [decide_eq_false (fun h => hw (h xv (by simp)))]
      gi_wp2_with (fail)
      exact ⟨hK3.trans ((KeepsOthers.setCell _ _ _).from _), ⟨⟨rfl, hno.out⟩, bR3.set _⟩, hBB.out.setCell (p := ⟨w.heap.size, 0, none⟩) (Nat.le_refl _) _⟩
    rw [decide_eq_true (show ∀ y ∈ [xv], 0 ≤ y ∧ y ≤ (n1 : Int) - 1 - 1 from fun y hy => by rw [List.mem_singleton.1 hy]; exact hw)]
    by_cases he : xu = lv
    · by_cases hle : xv ≤ lw
      · have hno : Hid (¬ okSeq (off.length - 1) ((pre ++ [x]).map Subtype.val)) := fun h => by
          rw [hmap.out, okSeq_snoc, last_ok] at h
          exact h.2.2 ⟨by have := HXZ.out; have := HLV.out; omega, by have := HXY.out; have := HLW.out; omega⟩
        have hee : (xu == lv) = true := by simpa using he
        gi_wp2_with (fail)
        exact ⟨hK3.trans ((KeepsOthers.setCell _ _ _).from _), ⟨⟨rfl, hno.out⟩, bR3.set _⟩, hBB.out.setCell (p := ⟨w.heap.size, 0, none⟩) (Nat.le_refl _) _⟩
      · have hyes : Hid (okSeq (off.length - 1) ((pre ++ [x]).map Subtype.val)) := by
          show okSeq _ _
          rw [hmap.out, okSeq_snoc, last_ok]
          exact ⟨hP.out, by have := HXY.out; omega, fun h => hle (by have := HXY.out; have := HLW.out; omega)⟩
        have hee : (xu == lv) = true := by simpa using he
        gi_wp2_with (fail)
        exact ⟨hK3.trans (((KeepsOthers.setCell _ _ _).from _).trans ((KeepsOthers.setCell _ _ _).from _)), ((KpR.of_below hB4 hsW (by omega) (by omega)).setCell (by omega) (by omega) (by omega) _).setCell (by omega) (by omega) (by omega) _,
          ⟨⟨⟨⟨⟨hyes.out, (bR3.other (by omega) _).other (by omega) _⟩, (bN3.other (by omega) _).other (by omega) _⟩, by rw [hmap.out, lastV_snoc, ← HXZ.out]; rw [he]; exact (bV3.set _).other (by omega) _⟩, by rw [hmap.out, lastW_snoc, ← HXY.out]; exact (bW3.other (by omega) _).set _⟩, (hBB.out.setCell (p := ⟨sv, 0, none⟩) (by show _ ≤ sv; omega) _).setCell (p := ⟨sv + 1, 0, none⟩) (by show _ ≤ sv + 1; omega) _, by have := hB4.size; simp; omega⟩⟩
    · have hyes : Hid (okSeq (off.length - 1) ((pre ++ [x]).map Subtype.val)) := by
          show okSeq _ _
          rw [hmap.out, okSeq_snoc, last_ok]
          exact ⟨hP.out, by have := HXY.out; omega, fun h => he (by have := HXZ.out; have := HLV.out; omega)⟩
      have hee : (xu == lv) = false := by simpa using he
      gi_wp2_with (fail)
      exact ⟨hK3.trans (((KeepsOthers.setCell _ _ _).from _).trans ((KeepsOthers.setCell _ _ _).from _)), ((KpR.of_below hB4 hsW (by omega) (by omega)).setCell (by omega) (by omega) (by omega) _).setCell (by omega) (by omega) (by omega) _,
        ⟨⟨⟨⟨⟨hyes.out, (bR3.other (by omega) _).other (by omega) _⟩, (bN3.other (by omega) _).other (by omega) _⟩, by rw [hmap.out, lastV_snoc, ← HXZ.out];  exact (bV3.set _).other (by omega) _⟩, by rw [hmap.out, lastW_snoc, ← HXY.out]; exact (bW3.other (by omega) _).set _⟩, (hBB.out.setCell (p := ⟨sv, 0, none⟩) (by show _ ≤ sv; omega) _).setCell (p := ⟨sv + 1, 0, none⟩) (by show _ ≤ sv + 1; omega) _, by have := hB4.size; simp; omega⟩⟩
  case done =>
    rintro D ys W hD hS ⟨⟨⟨⟨⟨hp, bR⟩, bN⟩, bV⟩, bW⟩, hB, hZ⟩ hK
    have cR := bR.cell
    have fR := bR.frozen
    have hok : Hid (halfR off to) := ⟨HS.out, (okSeq_flat off to _ _).1 (by rw [← hS]; exact hp)⟩
    have hK' := (KeepsOthers.setCell W ⟨w.heap.size, 0, none⟩ (.bool true)).same D _ hK rfl
    have hc5 := cell_kept (bR.set (.bool true)).cell (grownBy_putObj' _ D (.deferred none)) (fun r e => by cases e; exact ⟨_, hK', rfl⟩)
    have hfin : Hid (Below w.heap.size w ((W.setCell ⟨w.heap.size, 0, none⟩ (.bool true)).putObj D (.deferred none))) := (hB.setCell (p := ⟨w.heap.size, 0, none⟩) (Nat.le_refl _) _).trans (belowK_b (w := w) (Nat.le_refl _) _ D _ _ (by omega) hK' rfl rfl)
    clear bN bV bW hp
    gi_wp2_with (fail)
    refine ⟨by simp, .inl ⟨_, _, rfl, run_takeDeferred hK', ?_⟩⟩
    refine ⟨.bool true, ?_, by rw [decide_eq_true hok.out], hfin.out⟩
    simp [results, Tryz.results40, go_sem, hc5]
  case stop =>
    rintro D c pre W hD hS ⟨⟨⟨rfl, hp⟩, bR⟩, hB⟩ hK
    have hno : Hid (¬ halfR off to) := fun h => hp (okSeq_prefix ((okSeq_flat off to _ _).2 h.2) hS)
    have hc5 := cell_kept bR.cell (grownBy_putObj' _ D (.deferred none)) (fun r e => by cases e; exact ⟨_, hK, rfl⟩)
    have hfin : Hid (Below w.heap.size w (W.putObj D (.deferred none))) := hB.trans (belowK_b (w := w) (Nat.le_refl _) _ D _ _ (by omega) hK rfl rfl)
    clear hp
    gi_wp2_with (fail)
    refine ⟨by simp, .inl ⟨_, _, rfl, run_takeDeferred hK, ?_⟩⟩
    refine ⟨.bool false, ?_, by rw [decide_eq_false hno.out], hfin.out⟩
    simp [results, Tryz.results40, go_sem, hc5]

theorem half_c (A1 A2 : Option Addr) (n1 c1 n2 c2 : Nat) (off to : List Int) (w : World) (h1 : Reads w w.heap.size 1 A1 n1 (iv off)) (h2 : Reads w w.heap.size 1 A2 n2 (iv to)) (hm1 : n1 ≤ maxLen) (hm2 : n2 ≤ maxLen) (hcap : n2 ≤ c2) :
    Calls Tryz.prog 40 #[.slice A1 n1 c1, .slice A2 n2 c2] w fun e w' => e = .returned (.bool (decide (halfR off to))) ∧ Below w.heap.size w w' := by
  by_cases hs : shapeR off to
  · exact half_yes A1 A2 n1 c1 n2 c2 off to w h1 h2 hcap hs
  · rw [decide_eq_false fun h => hs h.1]
    exact half_no A1 A2 n1 c1 n2 c2 off to w h1 h2 hm1 hm2 hs
end Go.Proofs.YtpdnipabaimofaaGreat

namespace Go.Proofs.YtpdnipabaimofaaGreat
open Go.RowKit Go.Lib

set_option maxHeartbeats 4000000 in
set_option maxRecDepth 1000000 in
theorem binSearch_some (b off n c : Nat) (zs : List Int) (x : Int) (w : World) (hz : n ≤ zs.length) (hbig : n < 4611686018427387904) (hc : ∀ j, j < zs.length → w.cell? ⟨b, off + j, none⟩ = some (.int .i64 (zs.getD j 0))) (hs : (zs.take n).Pairwise (· ≤ ·)) :
    Calls Tryz.prog 42 #[.slice (some ⟨b, off, none⟩) n c, .int .i64 x] w fun e w' => e = .returned (.tuple #[.int .i64 ((zs.take n).countP (· < x) : Nat), .bool ((zs.take n).contains x)]) ∧ ∃ q, w' = w.drewN q := by
  have S : Aside (∀ a b, a ≤ b → b < n → zs.getD a 0 ≤ zs.getD b 0) := Lib.sorted_at zs n hz hs
  clear hs
  go_enter Tryz.func42, Tryz.ntmps42
  go_wp2
  go_loopg [7, 8] n (fun g s7 s8 wr => ∃ lo hi q : Nat, s7 = .int .i64 lo ∧ s8 = .int .i64 hi ∧ lo ≤ hi ∧ hi ≤ n ∧ hi - lo ≤ g ∧ wr = w.drewN q ∧ (∀ t, t < lo → zs.getD t 0 < x) ∧ (∀ t, hi ≤ t → t < n → x ≤ zs.getD t 0))
  case atStart => exact ⟨0, n, 0, rfl, rfl, Nat.zero_le _, Nat.le_refl _, by omega, rfl, fun t ht => absurd ht (Nat.not_lt_zero _), fun t h1 h2 => by omega⟩
  case round =>
    obtain ⟨lo, hi, q, rfl, rfl, hlh, hin, hg, rfl, h1, h2⟩ := hrel
    have I : Aside ((∀ t, t < lo → zs.getD t 0 < x) ∧ (∀ t, hi ≤ t → t < n → x ≤ zs.getD t 0)) := ⟨h1, h2⟩
    clear h1 h2
    by_cases hlt : lo < hi
    · have cm : w.cell? ⟨b, off + (lo + hi) / 2, none⟩ = some (.int .i64 (zs.getD ((lo + hi) / 2) 0)) := hc _ (by omega)
      clear hc
      generalize hy : zs.getD ((lo + hi) / 2) 0 = y at cm
      have Y : Aside (zs.getD ((lo + hi) / 2) 0 = y) := hy
      clear hy
      by_cases hyx : y < x
      · go_wp2_with (first | (go_at_call 79; refine (less_c _ _ _).mono ?_; rintro e w' ⟨rfl, rfl⟩) | (go_at_call 80; refine (isNaNs_c _ _).mono ?_; rintro e w' ⟨rfl, rfl⟩))
        go_roundg (hi - ((lo + hi) / 2 + 1))
        case measure => omega
        case rel =>
          refine ⟨(lo + hi) / 2 + 1, hi, _, by rw [show ((lo : Int) + (hi : Int)) / 2 + 1 = (((lo + hi) / 2 + 1 : Nat) : Int) by omega], rfl, by omega, hin, Nat.le_refl _, rfl, fun t ht => ?_, I.out.2⟩
          have := S.out t ((lo + hi) / 2) (by omega) (by omega)
          rw [Y.out] at this
          omega
      · go_wp2_with (first | (go_at_call 79; refine (less_c _ _ _).mono ?_; rintro e w' ⟨rfl, rfl⟩) | (go_at_call 80; refine (isNaNs_c _ _).mono ?_; rintro e w' ⟨rfl, rfl⟩))
        go_roundg ((lo + hi) / 2 - lo)
        case measure => omega
        case rel =>
          refine ⟨lo, (lo + hi) / 2, _, rfl, by rw [show ((lo : Int) + (hi : Int)) / 2 = (((lo + hi) / 2 : Nat) : Int) by omega], by omega, by omega, Nat.le_refl _, rfl, I.out.1, fun t ht htn => ?_⟩
          have := S.out ((lo + hi) / 2) t ht htn
          rw [Y.out] at this
          omega
    · have : hi = lo := by omega
      subst this
      obtain ⟨e1, e2⟩ := Lib.search_end zs n hi x hz hin I.out.1 I.out.2 S.out
      have E : Aside ((zs.take n).countP (· < x) = hi ∧ (zs.take n).contains x = decide (hi < n ∧ zs.getD hi 0 = x)) := ⟨e1, e2⟩
      clear e1 e2
      by_cases hn : hi < n
      · have cl : w.cell? ⟨b, off + hi, none⟩ = some (.int .i64 (zs.getD hi 0)) := hc _ (by omega)
        clear hc
        generalize hy : zs.getD hi 0 = y at cl
        have Y : Aside (zs.getD hi 0 = y) := hy
        clear hy
        by_cases hyx : y = x
        · go_wp2_with (first | (go_at_call 79; refine (less_c _ _ _).mono ?_; rintro e w' ⟨rfl, rfl⟩) | (go_at_call 80; refine (isNaNs_c _ _).mono ?_; rintro e w' ⟨rfl, rfl⟩))
          go_ret2
          refine ⟨?_, _, rfl⟩
          rw [E.out.1, E.out.2, Y.out, decide_eq_true (show hi < n ∧ y = x from ⟨hn, hyx⟩)]
          first | rfl | simp [*]
        · go_wp2_with (first | (go_at_call 79; refine (less_c _ _ _).mono ?_; rintro e w' ⟨rfl, rfl⟩) | (go_at_call 80; refine (isNaNs_c _ _).mono ?_; rintro e w' ⟨rfl, rfl⟩))
          go_ret2
          refine ⟨?_, _, rfl⟩
          rw [E.out.1, E.out.2, Y.out, decide_eq_false (show ¬ (hi < n ∧ y = x) from fun h => hyx h.2)]
          first | rfl | simp [*]
      · clear hc
        go_wp2_with (first | (go_at_call 79; refine (less_c _ _ _).mono ?_; rintro e w' ⟨rfl, rfl⟩) | (go_at_call 80; refine (isNaNs_c _ _).mono ?_; rintro e w' ⟨rfl, rfl⟩))
        go_ret2
        refine ⟨?_, _, rfl⟩
        rw [E.out.1, E.out.2, decide_eq_false (show ¬ (hi < n ∧ zs.getD hi 0 = x) from fun h => hn h.1)]
        first | rfl | simp [*]
end Go.Proofs.YtpdnipabaimofaaGreat

namespace Go.Proofs.YtpdnipabaimofaaGreat
open Go.RowKit Go.Lib

set_option maxHeartbeats 4000000 in
set_option maxRecDepth 1000000 in
theorem binSearch_nil (A : Option Addr) (c : Nat) (x : Int) (w : World) :
    Calls Tryz.prog 42 #[.slice A 0 c, .int .i64 x] w fun e w' => e = .returned (.tuple #[.int .i64 0, .bool false]) ∧ ∃ q, w' = w.drewN q := by
  go_enter Tryz.func42, Tryz.ntmps42
  go_wp2
  go_loopg [7, 8] 0 (fun g s7 s8 wr => s7 = .int .i64 0 ∧ s8 = .int .i64 0 ∧ ∃ q, wr = w.drewN q)
  case atStart => exact ⟨rfl, rfl, 0, rfl⟩
  case round =>
    obtain ⟨rfl, rfl, q, rfl⟩ := hrel
    go_wp2_with (fail)
    go_ret2
    exact ⟨rfl, _, rfl⟩

theorem binSearch_c (A : Option Addr) (n c : Nat) (zs : List Int) (x : Int) (w : World) (h : Reads w w.heap.size 1 A n (iv zs)) (hbig : n < 4611686018427387904) (hs : incr zs) :
    Calls Tryz.prog 42 #[.slice A n c, .int .i64 x] w fun e w' => e = .returned (.tuple #[.int .i64 (zs.countP (· < x) : Nat), .bool (decide (x ∈ zs))]) ∧ ∃ q, w' = w.drewN q := by
  have hl := h.int_len
  by_cases h0 : n = 0
  · subst h0
    obtain rfl : zs = [] := List.eq_nil_of_length_eq_zero hl
    simpa using binSearch_nil A c x w
  · obtain ⟨b, o, y, rfl, _, _⟩ := h.int_at (k := 0) (by omega)
    have hc : ∀ j, j < zs.length → w.cell? ⟨b, o + j, none⟩ = some (.int .i64 (zs.getD j 0)) := fun j hj => by
      obtain ⟨b', o', z, he, hz, d⟩ := h.int_at (k := j) (by omega)
      cases he
      have : zs.getD j 0 = z := nth_is hz.out
      rw [this]; exact d
    refine (binSearch_some b o n c zs x w (by omega) hbig hc ?_).mono ?_
    · rw [List.take_of_length_le (by omega)]
      exact (incr_lt hs).imp fun h => Int.le_of_lt h
    · rintro e w' ⟨rfl, hw⟩
      rw [List.take_of_length_le (by omega)]
      refine ⟨?_, hw⟩
      congr 3
      simp
end Go.Proofs.YtpdnipabaimofaaGreat

namespace Go.Proofs.YtpdnipabaimofaaGreat
open Go Go.RowKit

/-- No operation is a defer statement. -/
def noDefer (l : List Oper) : Bool := l.all fun o => match o.op with | .defer _ => false | _ => true
theorem noDefer_spec {l : List Oper} (h : noDefer l = true) {i : Nat} {o : Oper} (ho : l.toArray[i]? = some o) : ∀ c, o.op ≠ .defer c := by
  intro c e
  have hm : o ∈ l := by
    rw [List.getElem?_toArray] at ho
    exact List.mem_of_getElem? ho
  have := (List.all_eq_true.1 h) o hm
  rw [e] at this
  cases this

section
variable {F : Fence} {n : Nat} {P : Program} {ops : Array Oper} {Q : Exit → Act → World → Prop}
theorem wpOpIn_round (lp : Nat) (hro : F.round = none) {i : Nat} {K : Act → World → Prop} {a : Act} {w : World} (hnd : ∀ o, ops[i]? = some o → ∀ c, o.op ≠ .defer c) (h : wpOpIn F n P ops Q i K a w) : wpOpIn (F.inRound lp) n P ops Q i K a w := by
  unfold wpOpIn at *
  split
  · rename_i ho
    simp only [ho] at h
    exact h
  · rename_i o ho
    simp only [ho] at h
    split
    · rename_i hw
      simp only [hw, if_true] at h
      unfold Oper.wpIn at *
      refine ⟨h.1, ?_⟩
      have h2 := h.2
      rw [hro, Oper.semAt_none] at h2
      rw [Fence.inRound_round, Oper.semAt_eq _ _ _ (hnd o ho)]
      exact h2
    · rename_i hw
      simp only [hw] at h
      exact h

theorem wpAnyIn_round (lp : Nat) (hro : F.round = none) {md : Region.Mode} (hnd : ∀ (i : Nat) o, ops[i]? = some o → ∀ c, o.op ≠ .defer c) : ∀ (fuel : Nat) (listed : Array Bool) (a : Act) (w : World),
    wpAnyIn F n P md ops Q fuel listed a w → wpAnyIn (F.inRound lp) n P md ops Q fuel listed a w
  | 0, _, _, _, h => h
  | fuel + 1, _, _, _, h => ⟨h.1, fun i hi => wpOpIn_mono (fun a w => wpAnyIn_round lp hro hnd fuel _ a w) (wpOpIn_round lp hro (hnd i) (h.2 i hi))⟩

theorem wpIn_region_quiet_round (lp : Nat) {id : Nat} {a : Act} {w : World} {l : List Oper} (hro : F.round = none) (hm : P.follows .mixedOrders = true) (hB : Region.lexB .any l.toArray = true) (hd : noDefer l = true)
    (h : wpQuietIn F n P l.toArray (fun w' => ∃ n, w' = w.drewN n) (fun a' => ∀ w', (∃ n, w' = w.drewN n) → Q .normal a' w') l a) : (Code.region id l.toArray true).wpIn (F.inRound lp) n P Q a w := by
  simp only [Region.lexB, Bool.and_eq_true] at hB
  refine wpIn_region_any hm (wpAnyIn_round lp hro (fun i o ho => noDefer_spec hd ho) _ _ _ _ ?_)
  refine wpAnyIn_of_quiet (C := fun w' => ∃ n, w' = w.drewN n) (Q := fun a' => ∀ w', (∃ n, w' = w.drewN n) → Q .normal a' w') hro (fun _ w' hw' h => h w' hw') _ _ _ _ ⟨1, rfl⟩ ?_
  have := wpAnyQIn_lex (F := F) (n := n) (C := fun w' => ∃ n, w' = w.drewN n) (md := .any) hB.1 l 0 (Array.replicate l.toArray.size false) a (by simp) (by simpa using hB.2) h
  simpa using this
end
end Go.Proofs.YtpdnipabaimofaaGreat
