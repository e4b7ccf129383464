/-
  slices.BinarySearch on a row that rises: whether it is there.
  A region that draws its order, in a round of a range over a function: one walk in the order of the text.
  rows.Check: the walk.
  rows.Out and rows.In where rows are right: the walks.
  Small walks of chapter 19: the order of keys and of states, may, the copy of states.
  What the arguments of the laws hold: slices of things of several cells each.
-/
import Derived.Test.YtichoidkemeibaaGreatJ03
import Derived.Test.YtichoidkemeibaaGreatJ01
import Derived.Test.YtichoidkemeibaaGreatProg
import Derived.Test.YtichoidkemeibaaGreatJ02
import Derived.Sort.QuietTacIn
import Derived.RangeFuncCalls
import Derived.Lib.SliceRun
import Derived.StillTailTactics
import Derived.Deep.Slices
import Derived.ProofKit
namespace Go.Proofs.YtichoidkemeibaaGreat
open Go.RowKit Go.Lib

set_option maxHeartbeats 4000000 in
set_option maxRecDepth 1000000 in
theorem binSearch_nil (A : Option Addr) (c : Nat) (x : Int) (w : World) :
    Calls Tryz.prog 33 #[.slice A 0 c, .int .i64 x] w fun e w' => e = .returned (.tuple #[.int .i64 0, .bool false]) ∧ ∃ q, w' = w.drewN q := by
  go_enter Tryz.func33, Tryz.ntmps33
  go_wp2
  go_loopg [7, 8] 0 (fun g s7 s8 wr => s7 = .int .i64 0 ∧ s8 = .int .i64 0 ∧ ∃ q, wr = w.drewN q)
  case atStart => exact ⟨rfl, rfl, 0, rfl⟩
  case round =>
    obtain ⟨rfl, rfl, q, rfl⟩ := hrel
    go_wp2_with (fail)
    go_ret2
    exact ⟨rfl, _, rfl⟩

theorem binSearch_c (A : Option Addr) (n c : Nat) (zs : List Int) (x : Int) (w : World) (h : Reads w w.heap.size 1 A n (iv zs)) (hbig : n < 4611686018427387904) (hs : incr zs) :
    Calls Tryz.prog 33 #[.slice A n c, .int .i64 x] w fun e w' => e = .returned (.tuple #[.int .i64 (zs.countP (· < x) : Nat), .bool (decide (x ∈ zs))]) ∧ ∃ q, w' = w.drewN q := by
  have hl := h.int_len
  by_cases h0 : n = 0
  · subst h0
    obtain rfl : zs = [] := List.eq_nil_of_length_eq_zero hl
    simpa using binSearch_nil A c x w
  · obtain ⟨b, o, y, rfl, _, _⟩ := h.int_at (k := 0) (by omega)
    have hc : ∀ j, j < zs.length → w.cell? ⟨b, o + j, none⟩ = some (.int .i64 (zs.getD j 0)) := fun j hj => by
      obtain ⟨b', o', z, he, hz, d⟩ := h.int_at (k := j) (by omega)
      cases he
      have : zs.getD j 0 = z := nth_is hz.out
      rw [this]; exact d
    refine (binSearch_some b o n c zs x w (by omega) hbig hc ?_).mono ?_
    · rw [List.take_of_length_le (by omega)]
      exact (incr_lt hs).imp fun h => Int.le_of_lt h
    · rintro e w' ⟨rfl, hw⟩
      rw [List.take_of_length_le (by omega)]
      refine ⟨?_, hw⟩
      congr 3
      simp
end Go.Proofs.YtichoidkemeibaaGreat

namespace Go.Proofs.YtichoidkemeibaaGreat
open Go Go.RowKit

/-- No operation is a defer statement. -/
def noDefer (l : List Oper) : Bool := l.all fun o => match o.op with | .defer _ => false | _ => true
theorem noDefer_spec {l : List Oper} (h : noDefer l = true) {i : Nat} {o : Oper} (ho : l.toArray[i]? = some o) : ∀ c, o.op ≠ .defer c := by
  intro c e
  have hm : o ∈ l := by
    rw [List.getElem?_toArray] at ho
    exact List.mem_of_getElem? ho
  have := (List.all_eq_true.1 h) o hm
  rw [e] at this
  cases this

section
variable {F : Fence} {n : Nat} {P : Program} {ops : Array Oper} {Q : Exit → Act → World → Prop}
theorem wpOpIn_round (lp : Nat) (hro : F.round = none) {i : Nat} {K : Act → World → Prop} {a : Act} {w : World} (hnd : ∀ o, ops[i]? = some o → ∀ c, o.op ≠ .defer c) (h : wpOpIn F n P ops Q i K a w) : wpOpIn (F.inRound lp) n P ops Q i K a w := by
  unfold wpOpIn at *
  split
  · rename_i ho
    simp only [ho] at h
    exact h
  · rename_i o ho
    simp only [ho] at h
    split
    · rename_i hw
      simp only [hw, if_true] at h
      unfold Oper.wpIn at *
      refine ⟨h.1, ?_⟩
      have h2 := h.2
      rw [hro, Oper.semAt_none] at h2
      rw [Fence.inRound_round, Oper.semAt_eq _ _ _ (hnd o ho)]
      exact h2
    · rename_i hw
      simp only [hw] at h
      exact h

theorem wpAnyIn_round (lp : Nat) (hro : F.round = none) {md : Region.Mode} (hnd : ∀ (i : Nat) o, ops[i]? = some o → ∀ c, o.op ≠ .defer c) : ∀ (fuel : Nat) (listed : Array Bool) (a : Act) (w : World),
    wpAnyIn F n P md ops Q fuel listed a w → wpAnyIn (F.inRound lp) n P md ops Q fuel listed a w
  | 0, _, _, _, h => h
  | fuel + 1, _, _, _, h => ⟨h.1, fun i hi => wpOpIn_mono (fun a w => wpAnyIn_round lp hro hnd fuel _ a w) (wpOpIn_round lp hro (hnd i) (h.2 i hi))⟩

theorem wpIn_region_quiet_round (lp : Nat) {id : Nat} {a : Act} {w : World} {l : List Oper} (hro : F.round = none) (hm : P.follows .mixedOrders = true) (hB : Region.lexB .any l.toArray = true) (hd : noDefer l = true)
    (h : wpQuietIn F n P l.toArray (fun w' => ∃ n, w' = w.drewN n) (fun a' => ∀ w', (∃ n, w' = w.drewN n) → Q .normal a' w') l a) : (Code.region id l.toArray true).wpIn (F.inRound lp) n P Q a w := by
  simp only [Region.lexB, Bool.and_eq_true] at hB
  refine wpIn_region_any hm (wpAnyIn_round lp hro (fun i o ho => noDefer_spec hd ho) _ _ _ _ ?_)
  refine wpAnyIn_of_quiet (C := fun w' => ∃ n, w' = w.drewN n) (Q := fun a' => ∀ w', (∃ n, w' = w.drewN n) → Q .normal a' w') hro (fun _ w' hw' h => h w' hw') _ _ _ _ ⟨1, rfl⟩ ?_
  have := wpAnyQIn_lex (F := F) (n := n) (C := fun w' => ∃ n, w' = w.drewN n) (md := .any) hB.1 l 0 (Array.replicate l.toArray.size false) a (by simp) (by simpa using hB.2) h
  simpa using this
end
end Go.Proofs.YtichoidkemeibaaGreat

namespace Go.Proofs.YtichoidkemeibaaGreat
open Go.RowKit Go.Shelf

attribute [local go_sem] Oper.semAt_some

theorem check_end {a : Act} {W w : World} {b : Nat} {v : Bool} (ht : a.tmps.getD 2 undef = .pointer (some ⟨b, 0, none⟩)) (hd : a.defers = []) (hc : W.cell? ⟨b, 0, none⟩ = some (.bool v)) (hB : Below w.heap.size w W) :
    bodyPost Tryz.prog Tryz.f11 (fun e w' => e = .returned (.bool v) ∧ Below w.heap.size w w') Exit.ret a W := by
  refine bodyPost_ret (v := .bool v) ?_ hd ⟨rfl, hB⟩
  rw [Array.getD_eq_getD_getElem?] at ht
  simp [results, Tryz.results11, ht, hc, go_sem]

theorem rwAt_own {α : Type} (b : Nat) (a : RwA) : Own (fun (_ : α) W => RwAt W b a) := fun _ A B row hs hg hr =>
  (hg.block b (Array.getElem?_eq_some_iff.1 hs).1 (fun e => by
    obtain ⟨o, ho, hc⟩ := hr b e.symm
    rw [show A.heap[b]? = _ from hs] at ho
    cases ho
    cases hc)).trans hs

/-- What the second half asks of a pair. -/
def backR (roff rev : List Int) (l : List (Nat × Int)) : Prop := ∀ p ∈ l, (p.1 : Int) ∈ rowR roff rev p.2.toNat
theorem chkR_back {r : Rws} : chkR r ↔ r.off.length = r.roff.length ∧ r.to.length = r.rev.length ∧ halfR r.off r.to ∧ halfR r.roff r.rev ∧ backR r.roff r.rev (flatR r.off r.to (r.off.length - 1)) := by
  unfold chkR backR
  refine and_congr_right fun _ => and_congr_right fun _ => and_congr_right fun _ => and_congr_right fun _ => ?_
  constructor
  · intro h p hp
    obtain ⟨h1, h2⟩ := mem_flatR.1 hp
    exact h p.1 (List.mem_range.2 h1) p.2 h2
  · intro h v hv w hw
    exact h (v, w) (mem_flatR.2 ⟨List.mem_range.1 hv, hw⟩)

set_option maxRecDepth 100000 in
set_option maxHeartbeats 4000000 in
/-- Where rows are not right by themselves. -/
theorem rowsCheck_no (a : RwA) (w : World) (h : RwIn w w.heap.size a) (hn : ¬ (a.r.off.length = a.r.roff.length ∧ a.r.to.length = a.r.rev.length ∧ halfR a.r.off a.r.to ∧ halfR a.r.roff a.r.rev)) :
    Calls Tryz.prog 11 #[rwVal a] w fun e w' => e = .returned (.bool false) ∧ Below w.heap.size w w' := by
  show Calls Tryz.prog 11 #[.agg #[.slice a.A1 a.n1 a.c1, .slice a.A2 a.n2 a.c2, .slice a.A3 a.n3 a.c3, .slice a.A4 a.n4 a.c4]] w _
  have hl1 := h.off.int_len
  have hl2 := h.to.int_len
  have hl3 := h.roff.int_len
  have hl4 := h.rev.int_len
  have hx := (rboxed_new h).step (below_one _ (.cells #[.bool false] 4))
  have br := Boxed.new (w.alloc (.cells #[.slice a.A1 a.n1 a.c1, .slice a.A2 a.n2 a.c2, .slice a.A3 a.n3 a.c3, .slice a.A4 a.n4 a.c4] 27)) 4 (.bool false)
  rw [World.size_alloc] at br
  obtain ⟨d0, d1, d2, d3⟩ := hx.box.cells
  have HX := Lib.hid hx
  have BR := Lib.hid br
  clear hx h br
  by_cases p1 : (a.n1 : Int) = (a.n3 : Int)
  rotate_left
  · have p1' : ((a.n1 : Int) != (a.n3 : Int)) = true := by simpa using p1
    go_enter Tryz.func11, Tryz.ntmps11
    go_wp2_with (fail)
    exact check_end rfl rfl BR.out.cell HX.out.bel
  have p1' : ((a.n1 : Int) != (a.n3 : Int)) = false := by simpa using p1
  by_cases p2 : (a.n2 : Int) = (a.n4 : Int)
  rotate_left
  · have p2' : ((a.n2 : Int) != (a.n4 : Int)) = true := by simpa using p2
    go_enter Tryz.func11, Tryz.ntmps11
    go_wp2_with (fail)
    exact check_end rfl rfl BR.out.cell HX.out.bel
  have p2' : ((a.n2 : Int) != (a.n4 : Int)) = false := by simpa using p2
  have HN := Lib.hid hn
  clear hn
  go_enter Tryz.func11, Tryz.ntmps11
  go_wp2_with (fail)
  refine (half_c a.A1 a.A2 a.n1 a.c1 a.n2 a.c2 a.r.off a.r.to _ HX.out.in_.off HX.out.in_.to HX.out.in_.m1 HX.out.in_.m2 HX.out.in_.k2).mono ?_
  rintro e w1 ⟨rfl, hB1⟩
  have hx1 := HX.out.step hB1
  have BR1 := Lib.hid ((hB1.block _ BR.out.lt).trans BR.out)
  clear d0 d1 d2 d3
  obtain ⟨d0, d1, d2, d3⟩ := hx1.box.cells
  have HX1 := Lib.hid hx1
  clear hB1 HX hx1 BR
  by_cases q1 : halfR a.r.off a.r.to
  rotate_left
  · rw [decide_eq_false q1]
    clear q1
    have c1 := Boxed.cell BR1.out
    have f1 := Boxed.frozen BR1.out
    go_wp2_with (fail)
    exact check_end rfl rfl (World.cell?_setCell_same' _ _ _ (by rw [c1]; rfl)) (HX1.out.bel.setCell (p := ⟨w.heap.size + 1, 0, none⟩) (by simp) _)
  rw [decide_eq_true q1]
  have Q1 := Lib.hid q1
  clear q1
  go_wp2_with (fail)
  refine (half_c a.A3 a.A4 a.n3 a.c3 a.n4 a.c4 a.r.roff a.r.rev _ HX1.out.in_.roff HX1.out.in_.rev HX1.out.in_.m3 HX1.out.in_.m4 HX1.out.in_.k4).mono ?_
  rintro e w2 ⟨rfl, hB2⟩
  have hx2 := HX1.out.step hB2
  have BR2 := Lib.hid ((hB2.block _ (Boxed.lt BR1.out)).trans BR1.out)
  clear d0 d1 d2 d3
  have hq2 : decide (halfR a.r.roff a.r.rev) = false := decide_eq_false fun q => HN.out ⟨by omega, by omega, Q1.out, q⟩
  rw [hq2]
  have c1 := Boxed.cell BR2.out
  have f1 := Boxed.frozen BR2.out
  have HX2 := Lib.hid hx2
  clear hx2 hB2 HX1 hq2
  go_wp2_with (fail)
  exact check_end rfl rfl (World.cell?_setCell_same' _ _ _ (by rw [c1]; rfl)) (HX2.out.bel.setCell (p := ⟨w.heap.size + 1, 0, none⟩) (by simp) _)

set_option maxRecDepth 100000 in
set_option maxHeartbeats 4000000 in
/-- Where they are. -/
theorem rowsCheck_yes (a : RwA) (w : World) (h : RwIn w w.heap.size a) (e1 : a.r.off.length = a.r.roff.length) (e2 : a.r.to.length = a.r.rev.length) (q1 : halfR a.r.off a.r.to) (q2 : halfR a.r.roff a.r.rev) :
    Calls Tryz.prog 11 #[rwVal a] w fun e w' => e = .returned (.bool (decide (chkR a.r))) ∧ Below w.heap.size w w' := by
  show Calls Tryz.prog 11 #[.agg #[.slice a.A1 a.n1 a.c1, .slice a.A2 a.n2 a.c2, .slice a.A3 a.n3 a.c3, .slice a.A4 a.n4 a.c4]] w _
  have hl1 := h.off.int_len
  have hl2 := h.to.int_len
  have hl3 := h.roff.int_len
  have hl4 := h.rev.int_len
  have HE1 := Lib.hid e1
  have HE2 := Lib.hid e2
  have p1' : ((a.n1 : Int) != (a.n3 : Int)) = false := by simp; omega
  have p2' : ((a.n2 : Int) != (a.n4 : Int)) = false := by simp; omega
  have hx := (rboxed_new h).step (below_one _ (.cells #[.bool false] 4))
  have br := Boxed.new (w.alloc (.cells #[.slice a.A1 a.n1 a.c1, .slice a.A2 a.n2 a.c2, .slice a.A3 a.n3 a.c3, .slice a.A4 a.n4 a.c4] 27)) 4 (.bool false)
  rw [World.size_alloc] at br
  obtain ⟨d0, d1, d2, d3⟩ := hx.box.cells
  have HX := Lib.hid hx
  have BR := Lib.hid br
  have Q1 := Lib.hid q1
  have Q2 := Lib.hid q2
  have HL1 := Lib.hid hl1
  have HL2 := Lib.hid hl2
  have HL3 := Lib.hid hl3
  have HL4 := Lib.hid hl4
  have h0rw := h
  have H0 := Lib.hid h0rw
  clear hx h h0rw br q1 q2 e1 e2 hl1 hl2 hl3 hl4
  rw [← callsIn_wide (n := 10)]
  refine callsIn_of_wp_marks Tryz.func11 rfl trivial ?_ rfl
  simp only [Tryz.ntmps11, List.size_toArray, List.length_cons, List.length_nil, Nat.reduceAdd, Nat.reduceSub, Array.replicate_succ, Array.replicate_zero, List.push_toArray, List.append_toArray, List.nil_append, List.cons_append]
  gi_wp2_with (fail)
  refine ⟨trivial, (callsIn_wide.2 (half_c a.A1 a.A2 a.n1 a.c1 a.n2 a.c2 a.r.off a.r.to _ HX.out.in_.off HX.out.in_.to HX.out.in_.m1 HX.out.in_.m2 HX.out.in_.k2)).mono ?_⟩
  rintro e w1 ⟨rfl, hB1⟩
  rw [decide_eq_true Q1.out]
  have hx1 := HX.out.step hB1
  have BR1 := Lib.hid ((hB1.block _ BR.out.lt).trans BR.out)
  clear d0 d1 d2 d3
  obtain ⟨d0, d1, d2, d3⟩ := hx1.box.cells
  have HX1 := Lib.hid hx1
  clear hB1 HX hx1 BR
  gi_wp2_with (fail)
  refine ⟨trivial, (callsIn_wide.2 (half_c a.A3 a.A4 a.n3 a.c3 a.n4 a.c4 a.r.roff a.r.rev _ HX1.out.in_.roff HX1.out.in_.rev HX1.out.in_.m3 HX1.out.in_.m4 HX1.out.in_.k4)).mono ?_⟩
  rintro e w2 ⟨rfl, hB2⟩
  rw [decide_eq_true Q2.out]
  have hx2 := HX1.out.step hB2
  have BR2 := Lib.hid ((hB2.block _ (Boxed.lt BR1.out)).trans BR1.out)
  clear d0 d1 d2 d3
  obtain ⟨d0, d1, d2, d3⟩ := hx2.box.cells
  have HX2 := Lib.hid hx2
  clear hB2 HX1 hx2 BR1
  gi_wp2_with (fail)
  refine ⟨trivial, (callsIn_wide.2 (all_c _ _ _ _ _ _ _)).mono ?_⟩
  rintro e w' ⟨rfl, rfl⟩
  gi_wp2_with (fail)
  have bO := (Boxed.new w2 25 (.slice a.A1 a.n1 a.c1)).alloc (.cells #[.slice a.A2 a.n2 a.c2] 25)
  have bT := Boxed.new (w2.alloc (.cells #[.slice a.A1 a.n1 a.c1] 25)) 25 (.slice a.A2 a.n2 a.c2)
  have bR := (Boxed.alloc BR2.out (.cells #[.slice a.A1 a.n1 a.c1] 25)).alloc (.cells #[.slice a.A2 a.n2 a.c2] 25)
  have hW0 : ((w2.alloc (.cells #[.slice a.A1 a.n1 a.c1] 25)).alloc (.cells #[.slice a.A2 a.n2 a.c2] 25)).heap.size = w2.heap.size + 2 := by simp
  have hB2 : Below w2.heap.size w2 ((w2.alloc (.cells #[.slice a.A1 a.n1 a.c1] 25)).alloc (.cells #[.slice a.A2 a.n2 a.c2] 25)) := ((Below.refl _ w2).alloc (by omega) _).alloc (by simp) _
  have hx0 := HX2.out.step hB2
  simp only [World.size_alloc] at bT
  have hws : w.heap.size + 2 ≤ w2.heap.size := by have := Boxed.lt BR2.out; omega
  generalize hW : (w2.alloc (.cells #[.slice a.A1 a.n1 a.c1] 25)).alloc (.cells #[.slice a.A2 a.n2 a.c2] 25) = W0 at *
  clear hW BR2 HX2 hB2 d0 d1 d2 d3
  generalize hsv : w2.heap.size = sv at *
  clear hsv
  have HX0 := Lib.hid hx0
  clear hx0
  refine wpIn_rangeFunc_ownG rfl (by omega) (gf := 73) (lb := #[.pointer (some ⟨sv, 0, none⟩), .pointer (some ⟨sv + 1, 0, none⟩)]) rfl trivial (enters_of Tryz.func73 (by kernel_rfl) rfl)
    (all_stops _ _ trivial rfl (by omega) sv (sv + 1) w.heap.size _ _ a.n1 a.c1 a.n2 a.c2 a.r.off a.r.to W0 Q1.out.1 bO bT HX0.out.rw_.off HX0.out.rw_.to HX0.out.rw_.k2 (by omega)) KpR.trans (KpR.putObj (by omega) (by omega) (by omega)) (Below.refl _ _) (fun _ => rfl)
    (fun pre W => ((backR a.r.roff a.r.rev (pre.map Subtype.val) ∧ Boxed W (w.heap.size + 1) 4 (.bool false)) ∧ RwAt W w.heap.size a) ∧ (Below w.heap.size w W ∧ sv + 2 ≤ W.heap.size))
    (fun c pre W => ((c = .ret ∧ ¬ backR a.r.roff a.r.rev (pre.map Subtype.val)) ∧ Boxed W (w.heap.size + 1) 4 (.bool false)) ∧ Below w.heap.size w W)
    (OwnFrom.and (OwnFrom.and (OwnFrom.and (ownFrom_pure _ _) (Own.from (boxed_own _ _ _) _)) (Own.from (rwAt_own _ _) _)) (OwnFrom.and (ownFrom_below (Nat.le_refl _) (by omega)) (fun _ _ _ _ h hg _ => Nat.le_trans h hg.size)))
    (fun c => OwnFrom.and (OwnFrom.and (ownFrom_pure _ _) (Own.from (boxed_own _ _ _) _)) (ownFrom_below (Nat.le_refl _) (by omega)))
    ⟨⟨⟨fun p hp => by simp at hp, bR⟩, HX0.out.box⟩, HX0.out.bel, by omega⟩
    (fun x => { tmps := #[Value.agg
            #[Value.slice a.A1 a.n1 a.c1, Value.slice a.A2 a.n2 a.c2, Value.slice a.A3 a.n3 a.c3,
              Value.slice a.A4 a.n4 a.c4],
          Value.pointer (some { block := w.heap.size, off := 0 }),
          Value.pointer (some { block := w.heap.size + 1, off := 0 }), .int .i64 (x.1.1 : Nat), .int .i64 x.1.2, undef, undef,
          Value.pointer (some { block := w.heap.size, off := 0 }), Value.slice a.A1 a.n1 a.c1,
          Value.int IntKind.i64 ↑a.n1, Value.pointer (some { block := w.heap.size, off := 2 }),
          Value.slice a.A3 a.n3 a.c3, Value.int IntKind.i64 ↑a.n3, Value.bool false, Value.bool false,
          Value.pointer (some { block := w.heap.size, off := 1 }), Value.slice a.A2 a.n2 a.c2,
          Value.int IntKind.i64 ↑a.n2, Value.pointer (some { block := w.heap.size, off := 3 }),
          Value.slice a.A4 a.n4 a.c4, Value.int IntKind.i64 ↑a.n4, Value.bool false, Value.bool false, Value.bool false,
          Value.pointer (some { block := w.heap.size, off := 0 }), Value.slice a.A1 a.n1 a.c1,
          Value.pointer (some { block := w.heap.size, off := 1 }), Value.slice a.A2 a.n2 a.c2, Value.bool true,
          Value.bool false, Value.bool false, Value.bool false, Value.pointer (some { block := w.heap.size, off := 2 }),
          Value.slice a.A3 a.n3 a.c3, Value.pointer (some { block := w.heap.size, off := 3 }),
          Value.slice a.A4 a.n4 a.c4, Value.bool true, Value.bool false, Value.bool false,
          Value.pointer (some { block := w.heap.size, off := 0 }), Value.slice a.A1 a.n1 a.c1,
          Value.pointer (some { block := w.heap.size, off := 1 }), Value.slice a.A2 a.n2 a.c2,
          Value.func (Fn.func 73) #[]
            #[Value.pointer (some { block := sv, off := 0 }),
              Value.pointer (some { block := sv + 1, off := 0 })],
          .int .i64 (x.1.1 : Nat), .int .i64 x.1.2, undef, undef, undef, undef, undef, undef, undef, undef, undef, undef, undef, undef, undef,
          undef, undef, undef, undef, undef, undef, undef, undef], defers := [] }) ?assign ?body ?done ?stop
  case assign =>
    intro l x W K hK
    gi_wp2_with (fail)
    exact hK
  case body =>
    rintro l pre x W ⟨⟨⟨hp, bR⟩, bA⟩, hB, hZ⟩ hlt
    have hmap : Hid ((pre ++ [x]).map Subtype.val = pre.map Subtype.val ++ [x.1]) := by show _ = _; simp
    have hmx := mem_flatR.1 x.2
    have hgx := (Q1.out.2 _ (List.mem_range.2 hmx.1)).1 _ hmx.2
    obtain ⟨u, hu⟩ : ∃ u : Nat, x.1.2 = (u : Int) := ⟨x.1.2.toNat, by omega⟩
    obtain ⟨v, hv⟩ : ∃ v : Nat, x.1.1 = v := ⟨_, rfl⟩
    rw [hu, hv]
    have HU := Lib.hid hu
    have HV := Lib.hid hv
    have hun : u + 1 < a.n3 := by have := HE1.out; have := HL1.out; have := HL3.out; omega
    have hrw : RwIn W w.heap.size a := H0.out.below hB
    have hur : u < a.r.roff.length - 1 := by have := HL3.out; omega
    have hgood := Q2.out.2 u (List.mem_range.2 hur)
    obtain ⟨b, o, x0, e3, hx0, d0⟩ := hrw.roff.int_at (k := u) (by omega)
    obtain ⟨b', o', y0, e3', hy0, d1⟩ := hrw.roff.int_at (k := u + 1) hun
    rw [e3] at e3'
    cases e3'
    have hb := row_bounds Q2.out.1 hur
    rw [nth_is hx0.out, nth_is hy0.out] at hb
    have er : Hid (cutI a.r.rev x0 y0 = rowR a.r.roff a.r.rev u) := by show _ = _; unfold rowR; rw [nth_is hx0.out, nth_is hy0.out]
    obtain ⟨hb1, hb2, hb3⟩ := hb
    obtain ⟨c0, c1, c2, c3⟩ := bA.cells
    rw [e3] at c2
    have hrv : Reads W w.heap.size 1 (if a.c4 = x0.toNat then a.A4 else a.A4.map fun p => p.add x0.toNat) (y0.toNat - x0.toNat) (iv (rowR a.r.roff a.r.rev u)) := by
      rw [← er.out]
      exact reads_part hrw.rev hb1 hb2 (by have := HL4.out; omega) hrw.k4
    have hk4 := hrw.k4
    have hlen4 : y0 ≤ (a.n4 : Int) := by have := HL4.out; omega
    have hsz4 : a.n4 ≤ 2000 := by have := HL4.out; have := Q2.out.1.2.1; omega
    have HBS : Hid (∀ k, Calls Tryz.prog 33 #[.slice (if a.c4 = x0.toNat then a.A4 else a.A4.map fun p => p.add x0.toNat) (y0.toNat - x0.toNat) (a.c4 - x0.toNat), .int .i64 v] (W.drewN k) fun e w' =>
        e = .returned (.tuple #[.int .i64 ((rowR a.r.roff a.r.rev u).countP (· < (v : Int)) : Nat), .bool (decide ((v : Int) ∈ rowR a.r.roff a.r.rev u))]) ∧ ∃ m, w' = (W.drewN k).drewN m) := fun k =>
      binSearch_c _ _ _ _ _ _ ((hrv.more hB.size).below (below_drewN (Below.refl _ _) k)) (by omega) hgood.2
    have hres : Hid (backR a.r.roff a.r.rev ((pre ++ [x]).map Subtype.val) ↔ (v : Int) ∈ rowR a.r.roff a.r.rev u) := by
      show _ ↔ _
      rw [hmap.out]
      constructor
      · intro h
        have := h x.1 (by simp)
        rw [HV.out, HU.out] at this
        exact this
      · intro h p hp'
        rcases List.mem_append.1 hp' with hp' | hp'
        · exact hp p hp'
        · rw [List.mem_singleton.1 hp', HV.out, HU.out]
          exact h
    have HBB := Lib.hid hB
    have HA := Lib.hid bA
    have HRR := Lib.hid bR
    have f1 : (0 : Int) ≤ (u : Int) := by omega
    have f2 : (u : Int) < (a.n3 : Int) := by omega
    have f3 : (0 : Int) ≤ (u : Int) + 1 := by omega
    have f4 : (u : Int) + 1 < (a.n3 : Int) := by omega
    have hm3 := hrw.m3
    unfold maxLen at hm3
    have f5 : IntKind.i64.wrap ((u : Int) + 1) = (u : Int) + 1 := IntWalk.i64_in _ (by omega)
    have f6 : ((u : Int) + 1).toNat = u + 1 := by omega
    have f7 : y0 ≤ (a.c4 : Int) := by omega
    have cR := bR.cell
    have fR := bR.frozen
    clear hrw hgood hx0 hy0 hb3 er hrv hk4 hlen4 hsz4 hm3 hmx hgx hu hv hp hmap bA bR hur e3
    gi_wp2_with (fail)
    refine wpIn_region_quiet_round (F := Fence.wide) l rfl (by kernel_rfl) (by kernel_rfl) (by kernel_rfl) ?_
    repeat
      refine wpQuietIn_step (fun _ _ _ _ => trivial) (fun K hK => ?_)
      go_simp
      first
        | (refine hK _ ?_; clear hK K)
        | (refine ⟨_, fun _ => CallsIn.quiet_of (callsIn_wide.2 (HBS.out _)), hK _ ?_⟩; clear hK K)
    refine wpQuietIn_nil ?_
    intro _ hw'
    obtain ⟨nq, hw''⟩ := hw'
    subst hw''
    have cR3 : (W.drewN nq).cell? ⟨w.heap.size + 1, 0, none⟩ = some (.bool false) := cR
    have fR3 : (W.drewN nq).frozen? ⟨w.heap.size + 1, 0, none⟩ = false := fR
    have hB3 : Below W.heap.size W (W.drewN nq) := below_drewN (Below.refl _ _) nq
    have HB3 := Lib.hid hB3
    have HRR3 : Hid (Boxed (W.drewN nq) (w.heap.size + 1) 4 (.bool false)) := HRR.out
    have HA3 : Hid (RwAt (W.drewN nq) w.heap.size a) := HA.out
    have HBW : Hid (Below w.heap.size w (W.drewN nq)) := below_drewN HBB.out nq
    generalize W.drewN nq = w3 at *
    clear hB3 cR fR
    by_cases hm : (v : Int) ∈ rowR a.r.roff a.r.rev u
    · have hyes := Lib.hid (hres.out.2 hm)
      rw [decide_eq_true hm]
      have hsW := HBB.out.size
      gi_wp2_with (fail)
      all_goals exact ⟨keepsFrom_below HB3.out, KpR.of_below HB3.out hsW (by omega) (by omega), ⟨⟨hyes.out, HRR3.out⟩, HA3.out⟩, HBW.out, Nat.le_trans hZ HB3.out.size⟩
    · have hno : Hid (¬ backR a.r.roff a.r.rev ((pre ++ [x]).map Subtype.val)) := fun h => hm (hres.out.1 h)
      rw [decide_eq_false hm]
      gi_wp2_with (fail)
      all_goals exact ⟨(keepsFrom_below HB3.out).trans ((KeepsOthers.setCell _ _ _).from _), ⟨⟨rfl, hno.out⟩, Boxed.set _ HRR3.out⟩, HBW.out.setCell (p := ⟨w.heap.size + 1, 0, none⟩) (by simp) _⟩
  case done =>
    rintro D ys W hD hS ⟨⟨⟨hp, bR⟩, bA⟩, hB, hZ⟩ hK
    have cR := bR.cell
    have fR := bR.frozen
    have hok : Hid (chkR a.r) := chkR_back.2 ⟨HE1.out, HE2.out, Q1.out, Q2.out, by rw [← hS]; exact hp⟩
    have hK' := (KeepsOthers.setCell W ⟨w.heap.size + 1, 0, none⟩ (.bool true)).same D _ hK rfl
    have hc5 := cell_kept (bR.set (.bool true)).cell (grownBy_putObj' _ D (.deferred none)) (fun r e => by cases e; exact ⟨_, hK', rfl⟩)
    have hfin : Hid (Below w.heap.size w ((W.setCell ⟨w.heap.size + 1, 0, none⟩ (.bool true)).putObj D (.deferred none))) := (hB.setCell (p := ⟨w.heap.size + 1, 0, none⟩) (by simp) _).trans (belowK_b (w := w) (Nat.le_refl _) _ D _ _ (by omega) hK' rfl rfl)
    clear bA hp
    gi_wp2_with (fail)
    refine ⟨by simp, .inl ⟨_, _, rfl, run_takeDeferred hK', ?_⟩⟩
    refine ⟨.bool true, ?_, by rw [decide_eq_true hok.out], hfin.out⟩
    simp [results, Tryz.results11, go_sem, hc5]
  case stop =>
    rintro D c pre W hD hS ⟨⟨⟨rfl, hp⟩, bR⟩, hB⟩ hK
    have hno : Hid (¬ chkR a.r) := fun h => hp fun p hp' => (chkR_back.1 h).2.2.2.2 p (hS.subset hp')
    have hc5 := cell_kept bR.cell (grownBy_putObj' _ D (.deferred none)) (fun r e => by cases e; exact ⟨_, hK, rfl⟩)
    have hfin : Hid (Below w.heap.size w (W.putObj D (.deferred none))) := hB.trans (belowK_b (w := w) (Nat.le_refl _) _ D _ _ (by omega) hK rfl rfl)
    clear hp
    gi_wp2_with (fail)
    refine ⟨by simp, .inl ⟨_, _, rfl, run_takeDeferred hK, ?_⟩⟩
    refine ⟨.bool false, ?_, by rw [decide_eq_false hno.out], hfin.out⟩
    simp [results, Tryz.results11, go_sem, hc5]

theorem rowsCheck_c (a : RwA) (w : World) (h : RwIn w w.heap.size a) :
    Calls Tryz.prog 11 #[rwVal a] w fun e w' => e = .returned (.bool (decide (chkR a.r))) ∧ Below w.heap.size w w' := by
  by_cases q : a.r.off.length = a.r.roff.length ∧ a.r.to.length = a.r.rev.length ∧ halfR a.r.off a.r.to ∧ halfR a.r.roff a.r.rev
  · exact rowsCheck_yes a w h q.1 q.2.1 q.2.2.1 q.2.2.2
  · rw [decide_eq_false fun k => q ⟨k.1, k.2.1, k.2.2.1, k.2.2.2.1⟩]
    exact rowsCheck_no a w h q
end Go.Proofs.YtichoidkemeibaaGreat

namespace Go.Proofs.YtichoidkemeibaaGreat
open Go.RowKit

theorem own_empty (w : World) (e : TypeId) (sz : Nat) : (w.alloc (.cells #[] e)).ownsRow w.heap.size e sz (.slice (some ⟨w.heap.size, 0, none⟩) 0 0) 0 [] := by
  refine ⟨by simp, .inr ⟨w.heap.size, 0, #[], rfl, Nat.le_refl _, Array.getElem?_push_size, Nat.le_refl _, by simp [maxLen], by simp, by simp⟩⟩

set_option maxRecDepth 100000 in
theorem cloneI_c (A : Option Addr) (n c : Nat) (l : List Int) (w : World) (h : Reads w w.heap.size 1 A n (iv l)) (hn : n ≤ 1000000) :
    Calls Tryz.prog 167 #[.slice A n c] w fun e w' => ∃ A' c', e = .returned (.slice A' n c') ∧ w'.ownsRow w.heap.size 3 1 (.slice A' n c') n (iv l) ∧ Below w.heap.size w w' := by
  rcases A with _ | a
  · have h0 : n = 0 := by
      rcases Nat.eq_zero_or_pos n with h0 | h0
      · exact h0
      · obtain ⟨_, _, e, _⟩ := h.2 h0
        cases e
    subst h0
    have hl : iv l = [] := List.eq_nil_of_length_eq_zero (by have := h.1; omega)
    rw [hl]
    clear h hl
    have hrun := fun w => Lib.run_eql_slice_nil (P := Tryz.prog) w 25 3 none 0 c 0 0 Tryz.underlying25
    go_enter Tryz.func167, Tryz.ntmps167
    go_wp2_with (fail)
    go_ret
    exact ⟨none, 0, rfl, own_nil, Below.refl _ _⟩
  · have HR := Lib.hid h
    clear h
    have HE := Lib.hid (own_empty w 3 1)
    have HB := Lib.hid (below_one w (.cells #[] 3))
    have hrun := fun w => Lib.run_eql_slice_nil (P := Tryz.prog) w 25 3 (some a) n c 0 0 Tryz.underlying25
    go_enter Tryz.func167, Tryz.ntmps167
    go_wp2_with (at_builtin; refine wpList_cat elInt rfl _ _ rfl HE.out rfl ((HR.out.below HB.out).more HB.out.size) rfl (iv_one _) (by unfold maxLen; omega) (by omega) (by simp) ?_; intro A1 c1 w1 hown p1)
    go_ret
    refine ⟨A1, c1, rfl, by simpa using hown, HB.out.trans (p1.below HE.out (Below.refl _ _) (Nat.le_refl _) HB.out.size)⟩

set_option maxRecDepth 100000 in
set_option maxHeartbeats 2000000 in
theorem row_c (a : RwA) (A1 A2 : Option Addr) (n1 c1 n2 c2 : Nat) (off to : List Int) (v : Nat) (w : World) (h : RwIn w w.heap.size a) (hc : chkR a.r) (h1 : Reads w w.heap.size 1 A1 n1 (iv off)) (h2 : Reads w w.heap.size 1 A2 n2 (iv to)) (hs : shapeR off to) (hcap : n2 ≤ c2) (hv : v + 1 < n1) :
    Calls Tryz.prog 146 #[rwVal a, .slice A1 n1 c1, .slice A2 n2 c2, .int .i64 v] w fun e w' => ∃ A' k c', e = .returned (.tuple #[.slice A' k c', .bool true]) ∧ k = (rowR off to v).length ∧ w'.ownsRow w.heap.size 3 1 (.slice A' k c') k (iv (rowR off to v)) ∧ Below w.heap.size w w' := by
  show Calls Tryz.prog 146 #[.agg #[.slice a.A1 a.n1 a.c1, .slice a.A2 a.n2 a.c2, .slice a.A3 a.n3 a.c3, .slice a.A4 a.n4 a.c4], .slice A1 n1 c1, .slice A2 n2 c2, .int .i64 v] w _
  have hl1 := h1.int_len
  have hl2 := h2.int_len
  have k1 : n1 ≤ 201 := by have := hs.1.2; omega
  have k2 : n2 ≤ 2000 := by have := hs.2.1; omega
  have hb := row_bounds hs (v := v) (by omega)
  have hx := rboxed_new h
  obtain ⟨d0, d1, d2, d3⟩ := hx.box.cells
  have HX := Lib.hid hx
  have HR1 := Lib.hid h1
  have HR2 := Lib.hid h2
  have HL1 := Lib.hid hl1
  have HL2 := Lib.hid hl2
  have HC := Lib.hid hc
  have HBD := Lib.hid hb
  clear hx h h1 h2 hs hl1 hl2 hc hb
  go_enter Tryz.func146, Tryz.ntmps146
  go_wp2_with (fail)
  refine (rowsCheck_c a _ HX.out.in_).mono ?_
  rintro e w1 ⟨rfl, hB1⟩
  rw [decide_eq_true HC.out]
  have HB1 := Lib.hid (HX.out.bel.trans (hB1.mono (Nat.le_of_lt HX.out.box.lt)))
  clear hB1 d0 d1 d2 d3
  go_wp2_with (fail)
  refine (within_c ((n1 : Int) - 2) _ 1 1 [(v : Int)] _ (by rw [World.size_alloc]; exact reads_lit w1 [(v : Int)] 3) (by unfold maxLen; omega)).mono ?_
  rintro e w2 ⟨rfl, hB2⟩
  rw [decide_eq_true (show ∀ y ∈ [(v : Int)], 0 ≤ y ∧ y ≤ (n1 : Int) - 2 from fun y hy => by rw [List.mem_singleton.1 hy]; omega)]
  have HB2 := Lib.hid (HB1.out.trans (((below_one w1 _).trans (hB2.mono (by simp))).mono HB1.out.size))
  clear hB2 HB1
  obtain ⟨b, o, x, e1, hx, d0⟩ := (HR1.out.below HB2.out).int_at (k := v) (by omega)
  obtain ⟨b', o', y, he, hy, d1⟩ := (HR1.out.below HB2.out).int_at (k := v + 1) hv
  rw [e1] at he
  cases he
  subst e1
  have ex := nth_is hx.out
  have ey := nth_is hy.out
  have hbd := HBD.out
  rw [ex, ey] at hbd
  obtain ⟨ha, hab, hb⟩ := hbd
  have HXX := Lib.hid ex
  have HYY := Lib.hid ey
  have f1 : (0 : Int) ≤ (v : Int) := by omega
  have f2 : (v : Int) < (n1 : Int) := by omega
  have f3 : (0 : Int) ≤ (v : Int) + 1 := by omega
  have f4 : (v : Int) + 1 < (n1 : Int) := by omega
  have f5 : IntKind.i64.wrap ((v : Int) + 1) = (v : Int) + 1 := IntWalk.i64_in _ (by omega)
  have f6 : ((v : Int) + 1).toNat = v + 1 := by omega
  have g1 : (y : Int) ≤ (c2 : Int) := by have := HL2.out; omega
  clear ex ey hx hy
  go_wp2_with (fail)
  refine wp_region_still_tail 11 (by kernel_rfl) (by kernel_rfl) ?_
  simp only [List.take_succ_cons, List.take_zero, List.drop_succ_cons, List.drop_zero]
  obtain ⟨w3, hw3⟩ : ∃ w3, w3 = w2.drew := ⟨_, rfl⟩
  change w2.drew.cell? _ = _ at d0 d1
  rw [← hw3] at d0 d1
  change wpStill _ _ w2.drew (fun a' => wpList _ _ _ _ a' w2.drew) _ _
  rw [← hw3]
  have HB3 : Hid (Below w.heap.size w w3) := by rw [hw3]; exact HB2.out.drew
  clear hw3
  have hr3 : Reads w3 w3.heap.size 1 (if c2 = x.toNat then A2 else A2.map fun p => p.add x.toNat) (y.toNat - x.toNat) (iv (cutI to x y)) :=
    (reads_part (HR2.out.below HB3.out) ha hab (by have := HL2.out; omega) hcap).more HB3.out.size
  have HR3 := Lib.hid hr3
  clear hr3
  repeat still_step
  have er : rowR off to v = cutI to x y := by unfold rowR; rw [HXX.out, HYY.out]
  have el : y.toNat - x.toNat = (rowR off to v).length := by
    rw [er]
    have := cutI_len ha hab hb
    omega
  have hk8 : (rowR off to v).length ≤ n2 := by rw [← HL2.out]; exact row_len_le off to v
  have HE := Lib.hid el
  have HER := Lib.hid er
  generalize (if c2 = x.toNat then A2 else Option.map (fun x_1 => x_1.add x.toNat) A2) = A3 at HR3 ⊢
  generalize y.toNat - x.toNat = k3 at HR3 HE ⊢
  generalize c2 - x.toNat = c3
  have hk3 : k3 ≤ 1000000 := by rw [HE.out]; omega
  clear er el hk8 hb
  refine wpStill_nil ?_
  go_wp2_with (fail)
  refine (cloneI_c _ _ _ (cutI to x y) _ HR3.out (by omega)).mono ?_
  rintro e w4 ⟨A5, c5, rfl, ho, hB4⟩
  have ho5 := own_more (base := w.heap.size) ho HB3.out.size
  have hB5 := HB3.out.trans (hB4.mono HB3.out.size)
  rw [← HER.out] at ho5
  have HO := Lib.hid ho5
  have HB := Lib.hid hB5
  clear ho hB4 ho5 hB5 d0 d1 f1 f2 f3 f4 f5 f6 g1
  go_wp2_with (fail)
  go_ret2
  exact ⟨_, _, _, rfl, HE.out, HO.out, HB.out⟩

/-- A place's row in the one direction or the other. -/
def rowD (r : Rws) (dir : Int) (v : Nat) : List Int := if dir = 1 then rowR r.roff r.rev v else rowR r.off r.to v

set_option maxRecDepth 100000 in
set_option maxHeartbeats 2000000 in
theorem out_c (a : RwA) (v : Nat) (w : World) (h : RwIn w w.heap.size a) (hc : chkR a.r) (hv : v < a.r.n) :
    Calls Tryz.prog 123 #[rwVal a, .int .i64 v] w fun e w' => ∃ A' k c', e = .returned (.tuple #[.slice A' k c', .bool true]) ∧ k = (rowR a.r.off a.r.to v).length ∧ w'.ownsRow w.heap.size 3 1 (.slice A' k c') k (iv (rowR a.r.off a.r.to v)) ∧ Below w.heap.size w w' := by
  show Calls Tryz.prog 123 #[.agg #[.slice a.A1 a.n1 a.c1, .slice a.A2 a.n2 a.c2, .slice a.A3 a.n3 a.c3, .slice a.A4 a.n4 a.c4], .int .i64 v] w _
  have hl1 := Lib.hid h.off.int_len
  have hx := rboxed_new h
  obtain ⟨d0, d1, d2, d3⟩ := hx.box.cells
  have HX := Lib.hid hx
  have HC := Lib.hid hc
  unfold Rws.n at hv
  clear hx h hc
  go_enter Tryz.func123, Tryz.ntmps123
  go_wp2_with (fail)
  refine (row_c a a.A1 a.A2 a.n1 a.c1 a.n2 a.c2 a.r.off a.r.to v _ HX.out.in_ HC.out HX.out.in_.off HX.out.in_.to HC.out.2.2.1.1 HX.out.in_.k2 (by have := hl1.out; omega)).mono ?_
  rintro e w1 ⟨A', k, c', rfl, hk, ho, hB1⟩
  have HO := Lib.hid (own_more (base := w.heap.size) ho HX.out.bel.size)
  have HB := Lib.hid (HX.out.bel.trans (hB1.mono HX.out.bel.size))
  have HK := Lib.hid hk
  clear d0 d1 d2 d3 ho hB1 hk
  go_wp2_with (fail)
  go_ret2
  exact ⟨_, _, _, rfl, HK.out, HO.out, HB.out⟩

set_option maxRecDepth 100000 in
set_option maxHeartbeats 2000000 in
theorem inR_c (a : RwA) (v : Nat) (w : World) (h : RwIn w w.heap.size a) (hc : chkR a.r) (hv : v < a.r.n) :
    Calls Tryz.prog 124 #[rwVal a, .int .i64 v] w fun e w' => ∃ A' k c', e = .returned (.tuple #[.slice A' k c', .bool true]) ∧ k = (rowR a.r.roff a.r.rev v).length ∧ w'.ownsRow w.heap.size 3 1 (.slice A' k c') k (iv (rowR a.r.roff a.r.rev v)) ∧ Below w.heap.size w w' := by
  show Calls Tryz.prog 124 #[.agg #[.slice a.A1 a.n1 a.c1, .slice a.A2 a.n2 a.c2, .slice a.A3 a.n3 a.c3, .slice a.A4 a.n4 a.c4], .int .i64 v] w _
  have hl1 := Lib.hid h.off.int_len
  have hl3 := Lib.hid h.roff.int_len
  have hx := rboxed_new h
  obtain ⟨d0, d1, d2, d3⟩ := hx.box.cells
  have HX := Lib.hid hx
  have HC := Lib.hid hc
  unfold Rws.n at hv
  clear hx h hc
  go_enter Tryz.func124, Tryz.ntmps124
  go_wp2_with (fail)
  refine (row_c a a.A3 a.A4 a.n3 a.c3 a.n4 a.c4 a.r.roff a.r.rev v _ HX.out.in_ HC.out HX.out.in_.roff HX.out.in_.rev HC.out.2.2.2.1.1 HX.out.in_.k4 (by have := hl1.out; have := hl3.out; have := HC.out.1; omega)).mono ?_
  rintro e w1 ⟨A', k, c', rfl, hk, ho, hB1⟩
  have HO := Lib.hid (own_more (base := w.heap.size) ho HX.out.bel.size)
  have HB := Lib.hid (HX.out.bel.trans (hB1.mono HX.out.bel.size))
  have HK := Lib.hid hk
  clear d0 d1 d2 d3 ho hB1 hk
  go_wp2_with (fail)
  go_ret2
  exact ⟨_, _, _, rfl, HK.out, HO.out, HB.out⟩
end Go.Proofs.YtichoidkemeibaaGreat

namespace Go.Proofs.YtichoidkemeibaaGreat
open Go.RowKit Go.Shelf Go.Lib Go.Sort

theorem elState : Elem Tryz.prog 33 43 4 32 := Elem.mk_ Tryz.underlying33 (z := .agg #[.int .i64 0, .int .i64 0, .int .i64 0, .int .i64 0]) (by kernel_rfl) rfl (by decide)

theorem key_boxes (W : World) (o1 o2 : Obj) : ((W.alloc o1).alloc o2).heap[W.heap.size]? = some o1 ∧ ((W.alloc o1).alloc o2).heap[W.heap.size + 1]? = some o2 ∧ ((W.alloc o1).alloc o2) = grow (W.drewN 0) (#[o1] ++ #[o2]) := by
  have s1 : (W.alloc o1).heap.size = W.heap.size + 1 := World.size_alloc _ _
  refine ⟨?_, ?_, ?_⟩
  · rw [Below.heap_alloc _ _ _ (by omega)]
    exact Array.getElem?_push_size
  · rw [← s1]
    exact Array.getElem?_push_size
  · simp only [grow, World.alloc, World.drewN]
    have e : (W.heap.push o1).push o2 = W.heap ++ (#[o1] ++ #[o2]) := by
      apply Array.ext'
      simp
    rw [e]
    rfl

set_option maxRecDepth 100000 in
set_option maxHeartbeats 2000000 in
theorem compared_c (x y : Msg) (W : World) : Calls Tryz.prog 53 #[.agg #[.int .i64 x.slot, .int .i64 x.dir, .int .i64 x.v], .agg #[.int .i64 y.slot, .int .i64 y.dir, .int .i64 y.v]] W fun e w' => e = .returned (.int .i64 (cmpM x y)) ∧ ∃ q os', w' = grow (W.drewN q) os' := by
  go_enter Tryz.func53, Tryz.ntmps53
  go_wp2_with (fail)
  obtain ⟨h1, h2, h3⟩ := key_boxes W (.cells #[.int .i64 x.slot, .int .i64 x.dir, .int .i64 x.v] 41) (.cells #[.int .i64 y.slot, .int .i64 y.dir, .int .i64 y.v] 41)
  generalize (W.alloc (.cells #[.int .i64 x.slot, .int .i64 x.dir, .int .i64 x.v] 41)).alloc (.cells #[.int .i64 y.slot, .int .i64 y.dir, .int .i64 y.v] 41) = w2 at h1 h2 h3 ⊢
  have a0 : w2.cell? ⟨W.heap.size, 0, none⟩ = some (.int .i64 x.slot) := by rw [Lib.cell_of_heap h1]; rfl
  have a1 : w2.cell? ⟨W.heap.size, 1, none⟩ = some (.int .i64 x.dir) := by rw [Lib.cell_of_heap h1]; rfl
  have a2 : w2.cell? ⟨W.heap.size, 2, none⟩ = some (.int .i64 x.v) := by rw [Lib.cell_of_heap h1]; rfl
  have b0 : w2.cell? ⟨W.heap.size + 1, 0, none⟩ = some (.int .i64 y.slot) := by rw [Lib.cell_of_heap h2]; rfl
  have b1 : w2.cell? ⟨W.heap.size + 1, 1, none⟩ = some (.int .i64 y.dir) := by rw [Lib.cell_of_heap h2]; rfl
  have b2 : w2.cell? ⟨W.heap.size + 1, 2, none⟩ = some (.int .i64 y.v) := by rw [Lib.cell_of_heap h2]; rfl
  have H3 : Hid (w2.drew = grow (W.drewN 1) _) := show w2.drew = _ from by rw [h3]; rfl
  clear h1 h2 h3
  refine wp_region_still_tail 15 (by kernel_rfl) (by kernel_rfl) ?_
  simp only [List.take_succ_cons, List.take_zero, List.drop_succ_cons, List.drop_zero]
  obtain ⟨w3, hw3⟩ : ∃ w3, w3 = w2.drew := ⟨_, rfl⟩
  change w2.drew.cell? _ = _ at a0 a1 a2 b0 b1 b2
  rw [← hw3] at a0 a1 a2 b0 b1 b2 H3
  change wpStill _ _ w2.drew _ _ _
  change wpStill _ _ w2.drew (fun a' => wpList _ _ _ _ a' w2.drew) _ _
  rw [← hw3]
  clear hw3
  repeat still_step
  still_call (compare_c _ _ _)
  repeat still_step
  still_call (compare_c _ _ _)
  repeat still_step
  still_call (compare_c _ _ _)
  refine wpStill_nil ?_
  go_wp2_with (fail)
  have hn : (w3.alloc (.cells #[.int .i64 (compareInt x.slot y.slot), .int .i64 (compareInt x.dir y.dir), .int .i64 (compareInt x.v y.v)] 3)).heap[w3.heap.size]? = some (.cells #[.int .i64 (compareInt x.slot y.slot), .int .i64 (compareInt x.dir y.dir), .int .i64 (compareInt x.v y.v)] 3) := Array.getElem?_push_size
  refine (or_c _ _ _ _ _ (by rw [Lib.cell_of_heap hn]; rfl) (by rw [Lib.cell_of_heap hn]; rfl) (by rw [Lib.cell_of_heap hn]; rfl)).mono ?_
  rintro e w4 ⟨rfl, rfl⟩
  go_wp2_with (fail)
  go_ret
  obtain ⟨os3, H4⟩ : ∃ os, w3 = grow (W.drewN 1) os := ⟨_, H3.out⟩
  clear H3 a0 a1 a2 b0 b1 b2 hn
  subst H4
  exact ⟨rfl, 1, _, (alloc_eq_grow _ _).trans (grow_grow _ _ _)⟩

set_option maxRecDepth 100000 in
set_option maxHeartbeats 2000000 in
theorem orderSt_c (x y : Msg) (W : World) : Calls Tryz.prog 52 #[.agg (mc x).toArray, .agg (mc y).toArray] W fun e w' => e = .returned (.int .i64 (cmpM x y)) ∧ ∃ q os', w' = grow (W.drewN q) os' := by
  unfold mc
  go_enter Tryz.func52, Tryz.ntmps52
  go_wp2_with (fail)
  obtain ⟨h1, h2, h3⟩ := key_boxes W (.cells #[.int .i64 x.slot, .int .i64 x.dir, .int .i64 x.v, .int .i64 x.d] 43) (.cells #[.int .i64 y.slot, .int .i64 y.dir, .int .i64 y.v, .int .i64 y.d] 43)
  generalize (W.alloc (.cells #[.int .i64 x.slot, .int .i64 x.dir, .int .i64 x.v, .int .i64 x.d] 43)).alloc (.cells #[.int .i64 y.slot, .int .i64 y.dir, .int .i64 y.v, .int .i64 y.d] 43) = w2 at h1 h2 h3 ⊢
  refine (compared_c x y w2).mono ?_
  rintro e w3 ⟨rfl, q, os, rfl⟩
  go_wp2_with (fail)
  go_ret
  subst h3
  exact ⟨rfl, q, _, grow_grow (W.drewN q) _ os⟩

theorem sortSt_c {w : World} {base n c : Nat} {A : Option Addr} {d : List Msg} (ho : w.ownsRow base 43 4 (.slice A n c) n (mv d)) (hlim : n ≤ 1000000000) :
    Calls Tryz.prog 51 #[.slice A n c, .func (.func 52) #[] #[]] w fun e w' => e = .returned (.tuple #[]) ∧
      ∃ d', d'.Perm d ∧ d'.Pairwise (fun a b => ¬ kless b a) ∧ w'.ownsRow base 43 4 (.slice A n c) n (mv d') ∧ w.grownBy w' (A.map (·.block)) := by
  have hl : d.length = n := by have := ho.1; rw [mv_len] at this; omega
  rcases Nat.eq_zero_or_pos n with rfl | hn
  · refine (AnyF.slices_SortFunc_none sortSt A c _ w).mono ?_
    rintro e w' ⟨rfl, rfl⟩
    have : d = [] := List.eq_nil_of_length_eq_zero hl
    subst this
    exact ⟨rfl, [], List.Perm.refl _, List.Pairwise.nil, ho, only_refl _ _⟩
  · obtain ⟨h0, ⟨hv, hz⟩ | ⟨g, cap, cur, hv, hbase, hb, h1, h2, h3, h4⟩⟩ := id ho
    · omega
    injection hv with e1 e2 e3
    subst e1
    subst e3
    have hH : HoldsK mc 4 w g 0 d.toArray := holdsK_block hb hl h4
    have hg : g < w.heap.size := (Array.getElem?_eq_some_iff.1 hb).1
    have eg : ∀ args w, (callFunc 52 args).run Tryz.prog w = .ok (.enter 52 args) w := enters_of Tryz.func52 (by kernel_rfl) rfl
    have hcmp : CmpLays Tryz.prog 52 #[] mc 4 cmpM g 0 d.toArray.size w := fun _ _ _ _ x y => orderSt_c x y _
    have hcon := AnyQ.slices_SortFunc sortSt 4 Tryz.isAgg43 Tryz.sizeOf43 mc (fun _ => rfl) mc_one cmpM swo_cmpM 52 #[] g 0 c d.toArray w eg hcmp hH hg (by simp [hl]; omega)
    rw [show d.toArray.size = n by simpa using hl] at hcon
    refine hcon.mono ?_
    rintro e w' ⟨rfl, d', m, os, hp, hs, rfl⟩
    obtain ⟨p1, p2, p3⟩ := hp
    have hsz : d'.size = n := by rw [p1]; simpa using hl
    refine ⟨rfl, d'.toList, ?_, ?_, ?_, grownBy_sortedK _⟩
    · have e1 : d'.extract 0 n = d' := by rw [← hsz]; simp
      have e2 : d.toArray.extract 0 n = d.toArray := by rw [← hl]; simp
      rw [e1, e2] at p3
      simpa using p3
    · rw [List.pairwise_iff_getElem]
      intro i j hi hj hij
      have hi' : i < d'.size := by simpa using hi
      have hj' : j < d'.size := by simpa using hj
      have := hs i j (Nat.zero_le _) hij (by omega)
      rw [lt_cmpM] at this
      simp only [decide_eq_false_iff_not] at this
      rw [getElem!_pos d' i hi', getElem!_pos d' j hj'] at this
      simpa using this
    · have hF := flat_list d'.toList
      rw [Array.toArray_toList] at hF
      have hFs : (flatK mc 4 d').size = n * 4 := by rw [size_flatK, hsz]
      refine ⟨by rw [mv_len]; simp [hsz], .inr ⟨g, c, _, rfl, hbase, heap_sortedK d' hb, h1, h2, by simp [putCells, h3], ?_⟩⟩
      rw [← hFs, take_putCellsK _ _ (by rw [hFs, h3]; exact Nat.mul_le_mul_right _ h1), hF]

set_option maxRecDepth 100000 in
theorem cloneSt_c (A : Option Addr) (n c : Nat) (l : List Msg) (w : World) (h : Reads w w.heap.size 4 A n (mv l)) (hn : n ≤ 1000000) :
    Calls Tryz.prog 48 #[.slice A n c] w fun e w' => ∃ A' c', e = .returned (.slice A' n c') ∧ w'.ownsRow w.heap.size 43 4 (.slice A' n c') n (mv l) ∧ Below w.heap.size w w' := by
  rcases A with _ | a
  · have h0 : n = 0 := by
      rcases Nat.eq_zero_or_pos n with h0 | h0
      · exact h0
      · obtain ⟨_, _, e, _⟩ := h.2 h0
        cases e
    subst h0
    have hl : mv l = [] := List.eq_nil_of_length_eq_zero (by have := h.1; omega)
    rw [hl]
    clear h hl
    have hrun := fun w => Lib.run_eql_slice_nil (P := Tryz.prog) w 33 43 none 0 c 0 0 Tryz.underlying33
    go_enter Tryz.func48, Tryz.ntmps48
    go_wp2_with (fail)
    go_ret
    exact ⟨none, 0, rfl, own_nil, Below.refl _ _⟩
  · have HR := Lib.hid h
    clear h
    have HE := Lib.hid (own_empty w 43 4)
    have HB := Lib.hid (below_one w (.cells #[] 43))
    have hrun := fun w => Lib.run_eql_slice_nil (P := Tryz.prog) w 33 43 (some a) n c 0 0 Tryz.underlying33
    go_enter Tryz.func48, Tryz.ntmps48
    go_wp2_with (at_builtin; refine wpList_cat elState rfl _ _ rfl HE.out rfl ((HR.out.below HB.out).more HB.out.size) rfl (mv_one _) (by unfold maxLen; omega) (by omega) (by simp) ?_; intro A1 c1 w1 hown p1)
    go_ret
    refine ⟨A1, c1, rfl, by simpa using hown, HB.out.trans (p1.below HE.out (Below.refl _ _) (Nat.le_refl _) HB.out.size)⟩

/-- A message as a row of one. -/
theorem reads_one (w : World) (x : Msg) : Reads (w.alloc (.cells #[.int .i64 x.slot, .int .i64 x.dir, .int .i64 x.v, .int .i64 x.d] 44)) (w.heap.size + 1) 4 (some ⟨w.heap.size, 0, none⟩) 1 (mv [x]) := by
  have hb : (w.alloc (.cells #[.int .i64 x.slot, .int .i64 x.dir, .int .i64 x.v, .int .i64 x.d] 44)).heap[w.heap.size]? = some (.cells #[.int .i64 x.slot, .int .i64 x.dir, .int .i64 x.v, .int .i64 x.d] 44) := w.alloc_heap_new _
  refine ⟨rfl, fun _ => ⟨w.heap.size, 0, rfl, by omega, fun j u hj => ?_⟩⟩
  rw [Lib.cell_of_heap hb]
  simp [mv, mc] at hj
  rw [Nat.zero_add]
  simpa using hj

set_option maxRecDepth 100000 in
theorem roundMay_c (x : Msg) (w : World) : Calls Tryz.prog 62 #[.agg #[.int .i64 x.slot, .int .i64 x.dir, .int .i64 x.v, .int .i64 x.d]] w fun e w' => e = .returned (.bool (decide (mayM x))) ∧ Below w.heap.size w w' := by
  go_enter Tryz.func62, Tryz.ntmps62
  go_wp2_with (fail)
  refine (check_c _ 1 1 [x] _ (by have h := reads_one (w.alloc (.cells #[.int .i64 x.slot, .int .i64 x.dir, .int .i64 x.v, .int .i64 x.d] 43)) x; simp only [World.size_alloc] at h ⊢; exact h) (by unfold maxLen; omega)).mono ?_
  rintro e w1 ⟨rfl, hB1⟩
  have hB := Lib.hid ((below_two w _ _).trans (hB1.mono (below_two w _ _).size))
  clear hB1
  have hd : decide (allMay [x]) = decide (mayM x) := by rw [decide_eq_decide]; exact ⟨fun h => h x (by simp), fun h m hm => by rw [List.mem_singleton.1 hm]; exact h⟩
  rw [hd]
  clear hd
  go_wp2_with (fail)
  go_ret
  exact ⟨rfl, hB.out⟩
end Go.Proofs.YtichoidkemeibaaGreat

namespace Go.Proofs.YtichoidkemeibaaGreat
open Go.RowKit Go.Deep Go.ChangeShapes Go.WideShapes

section
variable {H : Type} {enc : TypeId × Value → H} {P : Program} {w : World} {base : Nat} {spare : Nat → Bool} {held : Bool}

theorem exists_list {α : Type} {p : Nat → α → Prop} : ∀ (n : Nat), (∀ i, i < n → ∃ a, p i a) → ∃ l : List α, l.length = n ∧ ∀ i a, l[i]? = some a → p i a
  | 0, _ => ⟨[], rfl, fun i a h => by simp at h⟩
  | n + 1, h => by
    obtain ⟨l, hl, hp⟩ := exists_list n (fun i hi => h i (by omega))
    obtain ⟨a, ha⟩ := h n (by omega)
    refine ⟨l ++ [a], by simp [hl], fun i b hb => ?_⟩
    rcases Nat.lt_or_ge i l.length with h1 | h1
    · rw [List.getElem?_append_left h1] at hb
      exact hp i b hb
    · rw [List.getElem?_append_right h1] at hb
      obtain ⟨h2, _⟩ := List.getElem?_eq_some_iff.1 hb
      have e : i = n := by simp at h2; omega
      subst e
      rw [← hl, Nat.sub_self] at hb
      simp at hb
      subst hb
      exact ha

/-- A slice argument reads as the cells of some things, each of which has a property that its reading gives. -/
theorem open_list {α : Type} (f : α → List Value) (z : Nat) (hf : ∀ a, (f a).length = z) (hz : 0 < z) (Q : α → Prop) {t e : TypeId} (ht : P.underlying t = some (.slice e)) (hc : P.cellsOf e = z)
    (hE : ∀ (n : Nat) (cs : List Value) (y : DataW H × List MemPlace), DataW.trod enc P w base spare held n e cs = some y → ∃ a : α, cs = f a ∧ Q a)
    {A : Option Addr} {len cap : Nat} {d : DataW H} {p : List MemPlace} (h : DataW.Trod enc P w base spare held t (.slice A len cap) d p) :
    ∃ l : List α, l.length = len ∧ Reads w w.heap.size z A len (l.flatMap f) ∧ len ≤ maxLen ∧ ∀ a ∈ l, Q a := by
  obtain ⟨fuel, hfu⟩ := h
  rcases open_slice ht hfu with ⟨hcs, _⟩ | ⟨x, l, c, m, n, D, Pl, hcs, _, hl, hm, hmm, _, hi⟩
  · simp [Value.cells] at hcs
    obtain ⟨rfl, rfl, rfl⟩ := hcs
    exact ⟨[], rfl, Reads.none_, by simp [maxLen], fun a ha => by simp at ha⟩
  · simp [Value.cells] at hcs
    obtain ⟨rfl, rfl, rfl⟩ := hcs
    have hlm : len ≤ m := by rw [hmm]; split <;> omega
    obtain ⟨xs, hxl, hx⟩ := exists_list (p := fun i (a : α) => w.cells? base (x.add (i * P.cellsOf e)) (P.cellsOf e) = some (f a) ∧ Q a) len (fun i hi' => by
      obtain ⟨cs', h1, h2⟩ := hi i (by omega)
      obtain ⟨a, rfl, hq⟩ := hE _ _ _ h2
      exact ⟨a, h1, hq⟩)
    refine ⟨xs, hxl, ⟨by rw [flat_len f z hf, hxl], fun hn => ?_⟩, by omega, fun a ha => ?_⟩
    · have h0 : xs[0]? = some (xs[0]'(by omega)) := List.getElem?_eq_getElem (by omega)
      obtain ⟨_, _, hcell⟩ := World.cells?_some (hx 0 _ h0).1
      have hc0 := hcell 0 (by omega)
      rw [Nat.zero_mul, show x.add 0 = x by simp [Addr.add], show x.add 0 = x by simp [Addr.add]] at hc0
      have hf0 : (f (xs[0]'(by omega)))[0]? = some ((f (xs[0]'(by omega)))[0]'(by rw [hf]; exact hz)) := List.getElem?_eq_getElem (by rw [hf]; exact hz)
      rw [hf0] at hc0
      obtain ⟨b, o, rfl⟩ := addr_of_cell hc0
      refine ⟨b, o, rfl, World.block_lt_of_cell? w _ hc0, fun j u hu => ?_⟩
      have hjl : j < len * z := by have := (List.getElem?_eq_some_iff.1 hu).1; rw [flat_len f z hf, hxl] at this; exact this
      have hq : j / z < len := Nat.div_lt_of_lt_mul (by rw [Nat.mul_comm]; exact hjl)
      have hr := Nat.mod_lt j hz
      have hj : j / z * z + j % z = j := by rw [Nat.mul_comm]; exact Nat.div_add_mod j z
      have hxq : xs[j / z]? = some (xs[j / z]'(by omega)) := List.getElem?_eq_getElem (by omega)
      have hg := flat_get f z hf xs (j / z) (j % z) _ hxq hr
      rw [hj, hu] at hg
      obtain ⟨_, _, hcell2⟩ := World.cells?_some (hx _ _ hxq).1
      have hc2 := hcell2 (j % z) (by omega)
      rw [hc, Addr.add_lit, Addr.add_lit, Nat.add_assoc, hj, ← hg] at hc2
      exact hc2
    · obtain ⟨i, hi'⟩ := List.getElem?_of_mem ha
      exact (hx i a hi').2
end
end Go.Proofs.YtichoidkemeibaaGreat
