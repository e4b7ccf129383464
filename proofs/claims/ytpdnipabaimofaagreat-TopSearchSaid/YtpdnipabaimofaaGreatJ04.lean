/-
  rows.Check: the walk.
  rows.Out and rows.In where rows are right: the walks.
  Small walks of chapter 19: the order of keys and of states, may, the copy of states.
  What the arguments of the laws hold: slices of things of several cells each.
  A slice of messages that came in.
  A message's key as a map's key, a message as a map's element.
  A map of messages, as it is read: plain laws.
  mail.Combine: the walk.
-/
import Derived.Test.YtpdnipabaimofaaGreatJ03
import Derived.Test.YtpdnipabaimofaaGreatJ02
import Derived.Test.YtpdnipabaimofaaGreatJ01
import Derived.Test.YtpdnipabaimofaaGreatProg
import Derived.Lib.SliceRun
import Derived.StillTailTactics
import Derived.Deep.Slices
import Derived.ProofKit
import Derived.Maps.RangeWalk
import Derived.Maps.OwnSet
import Derived.Maps.Views
import Derived.DeepKeys4
namespace Go.Proofs.YtpdnipabaimofaaGreat
open Go.RowKit Go.Shelf

attribute [local go_sem] Oper.semAt_some

theorem check_end {a : Act} {W w : World} {b : Nat} {v : Bool} (ht : a.tmps.getD 2 undef = .pointer (some ⟨b, 0, none⟩)) (hd : a.defers = []) (hc : W.cell? ⟨b, 0, none⟩ = some (.bool v)) (hB : Below w.heap.size w W) :
    bodyPost Tryz.prog Tryz.f20 (fun e w' => e = .returned (.bool v) ∧ Below w.heap.size w w') Exit.ret a W := by
  refine bodyPost_ret (v := .bool v) ?_ hd ⟨rfl, hB⟩
  rw [Array.getD_eq_getD_getElem?] at ht
  simp [results, Tryz.results20, ht, hc, go_sem]

theorem rwAt_own {α : Type} (b : Nat) (a : RwA) : Own (fun (_ : α) W => RwAt W b a) := fun _ A B row hs hg hr =>
  (hg.block b (Array.getElem?_eq_some_iff.1 hs).1 (fun e => by
    obtain ⟨o, ho, hc⟩ := hr b e.symm
    rw [show A.heap[b]? = _ from hs] at ho
    cases ho
    cases hc)).trans hs

/-- What the second half asks of a pair. -/
def backR (roff rev : List Int) (l : List (Nat × Int)) : Prop := ∀ p ∈ l, (p.1 : Int) ∈ rowR roff rev p.2.toNat
theorem chkR_back {r : Rws} : chkR r ↔ r.off.length = r.roff.length ∧ r.to.length = r.rev.length ∧ halfR r.off r.to ∧ halfR r.roff r.rev ∧ backR r.roff r.rev (flatR r.off r.to (r.off.length - 1)) := by
  unfold chkR backR
  refine and_congr_right fun _ => and_congr_right fun _ => and_congr_right fun _ => and_congr_right fun _ => ?_
  constructor
  · intro h p hp
    obtain ⟨h1, h2⟩ := mem_flatR.1 hp
    exact h p.1 (List.mem_range.2 h1) p.2 h2
  · intro h v hv w hw
    exact h (v, w) (mem_flatR.2 ⟨List.mem_range.1 hv, hw⟩)

set_option maxRecDepth 100000 in
set_option maxHeartbeats 4000000 in
/-- Where rows are not right by themselves. -/
theorem rowsCheck_no (a : RwA) (w : World) (h : RwIn w w.heap.size a) (hn : ¬ (a.r.off.length = a.r.roff.length ∧ a.r.to.length = a.r.rev.length ∧ halfR a.r.off a.r.to ∧ halfR a.r.roff a.r.rev)) :
    Calls Tryz.prog 20 #[rwVal a] w fun e w' => e = .returned (.bool false) ∧ Below w.heap.size w w' := by
  show Calls Tryz.prog 20 #[.agg #[.slice a.A1 a.n1 a.c1, .slice a.A2 a.n2 a.c2, .slice a.A3 a.n3 a.c3, .slice a.A4 a.n4 a.c4]] w _
  have hl1 := h.off.int_len
  have hl2 := h.to.int_len
  have hl3 := h.roff.int_len
  have hl4 := h.rev.int_len
  have hx := (rboxed_new h).step (below_one _ (.cells #[.bool false] 4))
  have br := Boxed.new (w.alloc (.cells #[.slice a.A1 a.n1 a.c1, .slice a.A2 a.n2 a.c2, .slice a.A3 a.n3 a.c3, .slice a.A4 a.n4 a.c4] 27)) 4 (.bool false)
  rw [World.size_alloc] at br
  obtain ⟨d0, d1, d2, d3⟩ := hx.box.cells
  have HX := Lib.hid hx
  have BR := Lib.hid br
  clear hx h br
  by_cases p1 : (a.n1 : Int) = (a.n3 : Int)
  rotate_left
  · have p1' : ((a.n1 : Int) != (a.n3 : Int)) = true := by simpa using p1
    go_enter Tryz.func20, Tryz.ntmps20
    go_wp2_with (fail)
    exact check_end rfl rfl BR.out.cell HX.out.bel
  have p1' : ((a.n1 : Int) != (a.n3 : Int)) = false := by simpa using p1
  by_cases p2 : (a.n2 : Int) = (a.n4 : Int)
  rotate_left
  · have p2' : ((a.n2 : Int) != (a.n4 : Int)) = true := by simpa using p2
    go_enter Tryz.func20, Tryz.ntmps20
    go_wp2_with (fail)
    exact check_end rfl rfl BR.out.cell HX.out.bel
  have p2' : ((a.n2 : Int) != (a.n4 : Int)) = false := by simpa using p2
  have HN := Lib.hid hn
  clear hn
  go_enter Tryz.func20, Tryz.ntmps20
  go_wp2_with (fail)
  refine (half_c a.A1 a.A2 a.n1 a.c1 a.n2 a.c2 a.r.off a.r.to _ HX.out.in_.off HX.out.in_.to HX.out.in_.m1 HX.out.in_.m2 HX.out.in_.k2).mono ?_
  rintro e w1 ⟨rfl, hB1⟩
  have hx1 := HX.out.step hB1
  have BR1 := Lib.hid ((hB1.block _ BR.out.lt).trans BR.out)
  clear d0 d1 d2 d3
  obtain ⟨d0, d1, d2, d3⟩ := hx1.box.cells
  have HX1 := Lib.hid hx1
  clear hB1 HX hx1 BR
  by_cases q1 : halfR a.r.off a.r.to
  rotate_left
  · rw [decide_eq_false q1]
    clear q1
    have c1 := Boxed.cell BR1.out
    have f1 := Boxed.frozen BR1.out
    go_wp2_with (fail)
    exact check_end rfl rfl (World.cell?_setCell_same' _ _ _ (by rw [c1]; rfl)) (HX1.out.bel.setCell (p := ⟨w.heap.size + 1, 0, none⟩) (by simp) _)
  rw [decide_eq_true q1]
  have Q1 := Lib.hid q1
  clear q1
  go_wp2_with (fail)
  refine (half_c a.A3 a.A4 a.n3 a.c3 a.n4 a.c4 a.r.roff a.r.rev _ HX1.out.in_.roff HX1.out.in_.rev HX1.out.in_.m3 HX1.out.in_.m4 HX1.out.in_.k4).mono ?_
  rintro e w2 ⟨rfl, hB2⟩
  have hx2 := HX1.out.step hB2
  have BR2 := Lib.hid ((hB2.block _ (Boxed.lt BR1.out)).trans BR1.out)
  clear d0 d1 d2 d3
  have hq2 : decide (halfR a.r.roff a.r.rev) = false := decide_eq_false fun q => HN.out ⟨by omega, by omega, Q1.out, q⟩
  rw [hq2]
  have c1 := Boxed.cell BR2.out
  have f1 := Boxed.frozen BR2.out
  have HX2 := Lib.hid hx2
  clear hx2 hB2 HX1 hq2
  go_wp2_with (fail)
  exact check_end rfl rfl (World.cell?_setCell_same' _ _ _ (by rw [c1]; rfl)) (HX2.out.bel.setCell (p := ⟨w.heap.size + 1, 0, none⟩) (by simp) _)

set_option maxRecDepth 100000 in
set_option maxHeartbeats 4000000 in
/-- Where they are. -/
theorem rowsCheck_yes (a : RwA) (w : World) (h : RwIn w w.heap.size a) (e1 : a.r.off.length = a.r.roff.length) (e2 : a.r.to.length = a.r.rev.length) (q1 : halfR a.r.off a.r.to) (q2 : halfR a.r.roff a.r.rev) :
    Calls Tryz.prog 20 #[rwVal a] w fun e w' => e = .returned (.bool (decide (chkR a.r))) ∧ Below w.heap.size w w' := by
  show Calls Tryz.prog 20 #[.agg #[.slice a.A1 a.n1 a.c1, .slice a.A2 a.n2 a.c2, .slice a.A3 a.n3 a.c3, .slice a.A4 a.n4 a.c4]] w _
  have hl1 := h.off.int_len
  have hl2 := h.to.int_len
  have hl3 := h.roff.int_len
  have hl4 := h.rev.int_len
  have HE1 := Lib.hid e1
  have HE2 := Lib.hid e2
  have p1' : ((a.n1 : Int) != (a.n3 : Int)) = false := by simp; omega
  have p2' : ((a.n2 : Int) != (a.n4 : Int)) = false := by simp; omega
  have hx := (rboxed_new h).step (below_one _ (.cells #[.bool false] 4))
  have br := Boxed.new (w.alloc (.cells #[.slice a.A1 a.n1 a.c1, .slice a.A2 a.n2 a.c2, .slice a.A3 a.n3 a.c3, .slice a.A4 a.n4 a.c4] 27)) 4 (.bool false)
  rw [World.size_alloc] at br
  obtain ⟨d0, d1, d2, d3⟩ := hx.box.cells
  have HX := Lib.hid hx
  have BR := Lib.hid br
  have Q1 := Lib.hid q1
  have Q2 := Lib.hid q2
  have HL1 := Lib.hid hl1
  have HL2 := Lib.hid hl2
  have HL3 := Lib.hid hl3
  have HL4 := Lib.hid hl4
  have h0rw := h
  have H0 := Lib.hid h0rw
  clear hx h h0rw br q1 q2 e1 e2 hl1 hl2 hl3 hl4
  rw [← callsIn_wide (n := 10)]
  refine callsIn_of_wp_marks Tryz.func20 rfl trivial ?_ rfl
  simp only [Tryz.ntmps20, List.size_toArray, List.length_cons, List.length_nil, Nat.reduceAdd, Nat.reduceSub, Array.replicate_succ, Array.replicate_zero, List.push_toArray, List.append_toArray, List.nil_append, List.cons_append]
  gi_wp2_with (fail)
  refine ⟨trivial, (callsIn_wide.2 (half_c a.A1 a.A2 a.n1 a.c1 a.n2 a.c2 a.r.off a.r.to _ HX.out.in_.off HX.out.in_.to HX.out.in_.m1 HX.out.in_.m2 HX.out.in_.k2)).mono ?_⟩
  rintro e w1 ⟨rfl, hB1⟩
  rw [decide_eq_true Q1.out]
  have hx1 := HX.out.step hB1
  have BR1 := Lib.hid ((hB1.block _ BR.out.lt).trans BR.out)
  clear d0 d1 d2 d3
  obtain ⟨d0, d1, d2, d3⟩ := hx1.box.cells
  have HX1 := Lib.hid hx1
  clear hB1 HX hx1 BR
  gi_wp2_with (fail)
  refine ⟨trivial, (callsIn_wide.2 (half_c a.A3 a.A4 a.n3 a.c3 a.n4 a.c4 a.r.roff a.r.rev _ HX1.out.in_.roff HX1.out.in_.rev HX1.out.in_.m3 HX1.out.in_.m4 HX1.out.in_.k4)).mono ?_⟩
  rintro e w2 ⟨rfl, hB2⟩
  rw [decide_eq_true Q2.out]
  have hx2 := HX1.out.step hB2
  have BR2 := Lib.hid ((hB2.block _ (Boxed.lt BR1.out)).trans BR1.out)
  clear d0 d1 d2 d3
  obtain ⟨d0, d1, d2, d3⟩ := hx2.box.cells
  have HX2 := Lib.hid hx2
  clear hB2 HX1 hx2 BR1
  gi_wp2_with (fail)
  refine ⟨trivial, (callsIn_wide.2 (all_c _ _ _ _ _ _ _)).mono ?_⟩
  rintro e w' ⟨rfl, rfl⟩
  gi_wp2_with (fail)
  have bO := (Boxed.new w2 25 (.slice a.A1 a.n1 a.c1)).alloc (.cells #[.slice a.A2 a.n2 a.c2] 25)
  have bT := Boxed.new (w2.alloc (.cells #[.slice a.A1 a.n1 a.c1] 25)) 25 (.slice a.A2 a.n2 a.c2)
  have bR := (Boxed.alloc BR2.out (.cells #[.slice a.A1 a.n1 a.c1] 25)).alloc (.cells #[.slice a.A2 a.n2 a.c2] 25)
  have hW0 : ((w2.alloc (.cells #[.slice a.A1 a.n1 a.c1] 25)).alloc (.cells #[.slice a.A2 a.n2 a.c2] 25)).heap.size = w2.heap.size + 2 := by simp
  have hB2 : Below w2.heap.size w2 ((w2.alloc (.cells #[.slice a.A1 a.n1 a.c1] 25)).alloc (.cells #[.slice a.A2 a.n2 a.c2] 25)) := ((Below.refl _ w2).alloc (by omega) _).alloc (by simp) _
  have hx0 := HX2.out.step hB2
  simp only [World.size_alloc] at bT
  have hws : w.heap.size + 2 ≤ w2.heap.size := by have := Boxed.lt BR2.out; omega
  generalize hW : (w2.alloc (.cells #[.slice a.A1 a.n1 a.c1] 25)).alloc (.cells #[.slice a.A2 a.n2 a.c2] 25) = W0 at *
  clear hW BR2 HX2 hB2 d0 d1 d2 d3
  generalize hsv : w2.heap.size = sv at *
  clear hsv
  have HX0 := Lib.hid hx0
  clear hx0
  refine wpIn_rangeFunc_ownG rfl (by omega) (gf := 78) (lb := #[.pointer (some ⟨sv, 0, none⟩), .pointer (some ⟨sv + 1, 0, none⟩)]) rfl trivial (enters_of Tryz.func78 (by kernel_rfl) rfl)
    (all_stops _ _ trivial rfl (by omega) sv (sv + 1) w.heap.size _ _ a.n1 a.c1 a.n2 a.c2 a.r.off a.r.to W0 Q1.out.1 bO bT HX0.out.rw_.off HX0.out.rw_.to HX0.out.rw_.k2 (by omega)) KpR.trans (KpR.putObj (by omega) (by omega) (by omega)) (Below.refl _ _) (fun _ => rfl)
    (fun pre W => ((backR a.r.roff a.r.rev (pre.map Subtype.val) ∧ Boxed W (w.heap.size + 1) 4 (.bool false)) ∧ RwAt W w.heap.size a) ∧ (Below w.heap.size w W ∧ sv + 2 ≤ W.heap.size))
    (fun c pre W => ((c = .ret ∧ ¬ backR a.r.roff a.r.rev (pre.map Subtype.val)) ∧ Boxed W (w.heap.size + 1) 4 (.bool false)) ∧ Below w.heap.size w W)
    (OwnFrom.and (OwnFrom.and (OwnFrom.and (ownFrom_pure _ _) (Own.from (boxed_own _ _ _) _)) (Own.from (rwAt_own _ _) _)) (OwnFrom.and (ownFrom_below (Nat.le_refl _) (by omega)) (fun _ _ _ _ h hg _ => Nat.le_trans h hg.size)))
    (fun c => OwnFrom.and (OwnFrom.and (ownFrom_pure _ _) (Own.from (boxed_own _ _ _) _)) (ownFrom_below (Nat.le_refl _) (by omega)))
    ⟨⟨⟨fun p hp => by simp at hp, bR⟩, HX0.out.box⟩, HX0.out.bel, by omega⟩
    (fun x => { tmps := #[Value.agg
            #[Value.slice a.A1 a.n1 a.c1, Value.slice a.A2 a.n2 a.c2, Value.slice a.A3 a.n3 a.c3,
              Value.slice a.A4 a.n4 a.c4],
          Value.pointer (some { block := w.heap.size, off := 0 }),
          Value.pointer (some { block := w.heap.size + 1, off := 0 }), .int .i64 (x.1.1 : Nat), .int .i64 x.1.2, undef, undef,
          Value.pointer (some { block := w.heap.size, off := 0 }), Value.slice a.A1 a.n1 a.c1,
          Value.int IntKind.i64 ↑a.n1, Value.pointer (some { block := w.heap.size, off := 2 }),
          Value.slice a.A3 a.n3 a.c3, Value.int IntKind.i64 ↑a.n3, Value.bool false, Value.bool false,
          Value.pointer (some { block := w.heap.size, off := 1 }), Value.slice a.A2 a.n2 a.c2,
          Value.int IntKind.i64 ↑a.n2, Value.pointer (some { block := w.heap.size, off := 3 }),
          Value.slice a.A4 a.n4 a.c4, Value.int IntKind.i64 ↑a.n4, Value.bool false, Value.bool false, Value.bool false,
          Value.pointer (some { block := w.heap.size, off := 0 }), Value.slice a.A1 a.n1 a.c1,
          Value.pointer (some { block := w.heap.size, off := 1 }), Value.slice a.A2 a.n2 a.c2, Value.bool true,
          Value.bool false, Value.bool false, Value.bool false, Value.pointer (some { block := w.heap.size, off := 2 }),
          Value.slice a.A3 a.n3 a.c3, Value.pointer (some { block := w.heap.size, off := 3 }),
          Value.slice a.A4 a.n4 a.c4, Value.bool true, Value.bool false, Value.bool false,
          Value.pointer (some { block := w.heap.size, off := 0 }), Value.slice a.A1 a.n1 a.c1,
          Value.pointer (some { block := w.heap.size, off := 1 }), Value.slice a.A2 a.n2 a.c2,
          Value.func (Fn.func 78) #[]
            #[Value.pointer (some { block := sv, off := 0 }),
              Value.pointer (some { block := sv + 1, off := 0 })],
          .int .i64 (x.1.1 : Nat), .int .i64 x.1.2, undef, undef, undef, undef, undef, undef, undef, undef, undef, undef, undef, undef, undef,
          undef, undef, undef, undef, undef, undef, undef, undef], defers := [] }) ?assign ?body ?done ?stop
  case assign =>
    intro l x W K hK
    gi_wp2_with (fail)
    exact hK
  case body =>
    rintro l pre x W ⟨⟨⟨hp, bR⟩, bA⟩, hB, hZ⟩ hlt
    have hmap : Hid ((pre ++ [x]).map Subtype.val = pre.map Subtype.val ++ [x.1]) := by show _ = _; simp
    have hmx := mem_flatR.1 x.2
    have hgx := (Q1.out.2 _ (List.mem_range.2 hmx.1)).1 _ hmx.2
    obtain ⟨u, hu⟩ : ∃ u : Nat, x.1.2 = (u : Int) := ⟨x.1.2.toNat, by omega⟩
    obtain ⟨v, hv⟩ : ∃ v : Nat, x.1.1 = v := ⟨_, rfl⟩
    rw [hu, hv]
    have HU := Lib.hid hu
    have HV := Lib.hid hv
    have hun : u + 1 < a.n3 := by have := HE1.out; have := HL1.out; have := HL3.out; omega
    have hrw : RwIn W w.heap.size a := H0.out.below hB
    have hur : u < a.r.roff.length - 1 := by have := HL3.out; omega
    have hgood := Q2.out.2 u (List.mem_range.2 hur)
    obtain ⟨b, o, x0, e3, hx0, d0⟩ := hrw.roff.int_at (k := u) (by omega)
    obtain ⟨b', o', y0, e3', hy0, d1⟩ := hrw.roff.int_at (k := u + 1) hun
    rw [e3] at e3'
    cases e3'
    have hb := row_bounds Q2.out.1 hur
    rw [nth_is hx0.out, nth_is hy0.out] at hb
    have er : Hid (cutI a.r.rev x0 y0 = rowR a.r.roff a.r.rev u) := by show _ = _; unfold rowR; rw [nth_is hx0.out, nth_is hy0.out]
    obtain ⟨hb1, hb2, hb3⟩ := hb
    obtain ⟨c0, c1, c2, c3⟩ := bA.cells
    rw [e3] at c2
    have hrv : Reads W w.heap.size 1 (if a.c4 = x0.toNat then a.A4 else a.A4.map fun p => p.add x0.toNat) (y0.toNat - x0.toNat) (iv (rowR a.r.roff a.r.rev u)) := by
      rw [← er.out]
      exact reads_part hrw.rev hb1 hb2 (by have := HL4.out; omega) hrw.k4
    have hk4 := hrw.k4
    have hlen4 : y0 ≤ (a.n4 : Int) := by have := HL4.out; omega
    have hsz4 : a.n4 ≤ 2000 := by have := HL4.out; have := Q2.out.1.2.1; omega
    have HBS : Hid (∀ k, Calls Tryz.prog 42 #[.slice (if a.c4 = x0.toNat then a.A4 else a.A4.map fun p => p.add x0.toNat) (y0.toNat - x0.toNat) (a.c4 - x0.toNat), .int .i64 v] (W.drewN k) fun e w' =>
        e = .returned (.tuple #[.int .i64 ((rowR a.r.roff a.r.rev u).countP (· < (v : Int)) : Nat), .bool (decide ((v : Int) ∈ rowR a.r.roff a.r.rev u))]) ∧ ∃ m, w' = (W.drewN k).drewN m) := fun k =>
      binSearch_c _ _ _ _ _ _ ((hrv.more hB.size).below (below_drewN (Below.refl _ _) k)) (by omega) hgood.2
    have hres : Hid (backR a.r.roff a.r.rev ((pre ++ [x]).map Subtype.val) ↔ (v : Int) ∈ rowR a.r.roff a.r.rev u) := by
      show _ ↔ _
      rw [hmap.out]
      constructor
      · intro h
        have := h x.1 (by simp)
        rw [HV.out, HU.out] at this
        exact this
      · intro h p hp'
        rcases List.mem_append.1 hp' with hp' | hp'
        · exact hp p hp'
        · rw [List.mem_singleton.1 hp', HV.out, HU.out]
          exact h
    have HBB := Lib.hid hB
    have HA := Lib.hid bA
    have HRR := Lib.hid bR
    have f1 : (0 : Int) ≤ (u : Int) := by omega
    have f2 : (u : Int) < (a.n3 : Int) := by omega
    have f3 : (0 : Int) ≤ (u : Int) + 1 := by omega
    have f4 : (u : Int) + 1 < (a.n3 : Int) := by omega
    have hm3 := hrw.m3
    unfold maxLen at hm3
    have f5 : IntKind.i64.wrap ((u : Int) + 1) = (u : Int) + 1 := IntWalk.i64_in _ (by omega)
    have f6 : ((u : Int) + 1).toNat = u + 1 := by omega
    have f7 : y0 ≤ (a.c4 : Int) := by omega
    have cR := bR.cell
    have fR := bR.frozen
    clear hrw hgood hx0 hy0 hb3 er hrv hk4 hlen4 hsz4 hm3 hmx hgx hu hv hp hmap bA bR hur e3
    gi_wp2_with (fail)
    refine wpIn_region_quiet_round (F := Fence.wide) l rfl (by kernel_rfl) (by kernel_rfl) (by kernel_rfl) ?_
    repeat
      refine wpQuietIn_step (fun _ _ _ _ => trivial) (fun K hK => ?_)
      go_simp
      first
        | (refine hK _ ?_; clear hK K)
        | (refine ⟨_, fun _ => CallsIn.quiet_of (callsIn_wide.2 (HBS.out _)), hK _ ?_⟩; clear hK K)
    refine wpQuietIn_nil ?_
    intro _ hw'
    obtain ⟨nq, hw''⟩ := hw'
    subst hw''
    have cR3 : (W.drewN nq).cell? ⟨w.heap.size + 1, 0, none⟩ = some (.bool false) := cR
    have fR3 : (W.drewN nq).frozen? ⟨w.heap.size + 1, 0, none⟩ = false := fR
    have hB3 : Below W.heap.size W (W.drewN nq) := below_drewN (Below.refl _ _) nq
    have HB3 := Lib.hid hB3
    have HRR3 : Hid (Boxed (W.drewN nq) (w.heap.size + 1) 4 (.bool false)) := HRR.out
    have HA3 : Hid (RwAt (W.drewN nq) w.heap.size a) := HA.out
    have HBW : Hid (Below w.heap.size w (W.drewN nq)) := below_drewN HBB.out nq
    generalize W.drewN nq = w3 at *
    clear hB3 cR fR
    by_cases hm : (v : Int) ∈ rowR a.r.roff a.r.rev u
    · have hyes := Lib.hid (hres.out.2 hm)
      rw [decide_eq_true hm]
      have hsW := HBB.out.size
      gi_wp2_with (fail)
      all_goals exact ⟨keepsFrom_below HB3.out, KpR.of_below HB3.out hsW (by omega) (by omega), ⟨⟨hyes.out, HRR3.out⟩, HA3.out⟩, HBW.out, Nat.le_trans hZ HB3.out.size⟩
    · have hno : Hid (¬ backR a.r.roff a.r.rev ((pre ++ [x]).map Subtype.val)) := fun h => hm (hres.out.1 h)
      rw [decide_eq_false hm]
      gi_wp2_with (fail)
      all_goals exact ⟨(keepsFrom_below HB3.out).trans ((KeepsOthers.setCell _ _ _).from _), ⟨⟨rfl, hno.out⟩, Boxed.set _ HRR3.out⟩, HBW.out.setCell (p := ⟨w.heap.size + 1, 0, none⟩) (by simp) _⟩
  case done =>
    rintro D ys W hD hS ⟨⟨⟨hp, bR⟩, bA⟩, hB, hZ⟩ hK
    have cR := bR.cell
    have fR := bR.frozen
    have hok : Hid (chkR a.r) := chkR_back.2 ⟨HE1.out, HE2.out, Q1.out, Q2.out, by rw [← hS]; exact hp⟩
    have hK' := (KeepsOthers.setCell W ⟨w.heap.size + 1, 0, none⟩ (.bool true)).same D _ hK rfl
    have hc5 := cell_kept (bR.set (.bool true)).cell (grownBy_putObj' _ D (.deferred none)) (fun r e => by cases e; exact ⟨_, hK', rfl⟩)
    have hfin : Hid (Below w.heap.size w ((W.setCell ⟨w.heap.size + 1, 0, none⟩ (.bool true)).putObj D (.deferred none))) := (hB.setCell (p := ⟨w.heap.size + 1, 0, none⟩) (by simp) _).trans (belowK_b (w := w) (Nat.le_refl _) _ D _ _ (by omega) hK' rfl rfl)
    clear bA hp
    gi_wp2_with (fail)
    refine ⟨by simp, .inl ⟨_, _, rfl, run_takeDeferred hK', ?_⟩⟩
    refine ⟨.bool true, ?_, by rw [decide_eq_true hok.out], hfin.out⟩
    simp [results, Tryz.results20, go_sem, hc5]
  case stop =>
    rintro D c pre W hD hS ⟨⟨⟨rfl, hp⟩, bR⟩, hB⟩ hK
    have hno : Hid (¬ chkR a.r) := fun h => hp fun p hp' => (chkR_back.1 h).2.2.2.2 p (hS.subset hp')
    have hc5 := cell_kept bR.cell (grownBy_putObj' _ D (.deferred none)) (fun r e => by cases e; exact ⟨_, hK, rfl⟩)
    have hfin : Hid (Below w.heap.size w (W.putObj D (.deferred none))) := hB.trans (belowK_b (w := w) (Nat.le_refl _) _ D _ _ (by omega) hK rfl rfl)
    clear hp
    gi_wp2_with (fail)
    refine ⟨by simp, .inl ⟨_, _, rfl, run_takeDeferred hK, ?_⟩⟩
    refine ⟨.bool false, ?_, by rw [decide_eq_false hno.out], hfin.out⟩
    simp [results, Tryz.results20, go_sem, hc5]

theorem rowsCheck_c (a : RwA) (w : World) (h : RwIn w w.heap.size a) :
    Calls Tryz.prog 20 #[rwVal a] w fun e w' => e = .returned (.bool (decide (chkR a.r))) ∧ Below w.heap.size w w' := by
  by_cases q : a.r.off.length = a.r.roff.length ∧ a.r.to.length = a.r.rev.length ∧ halfR a.r.off a.r.to ∧ halfR a.r.roff a.r.rev
  · exact rowsCheck_yes a w h q.1 q.2.1 q.2.2.1 q.2.2.2
  · rw [decide_eq_false fun k => q ⟨k.1, k.2.1, k.2.2.1, k.2.2.2.1⟩]
    exact rowsCheck_no a w h q
end Go.Proofs.YtpdnipabaimofaaGreat

namespace Go.Proofs.YtpdnipabaimofaaGreat
open Go.RowKit

theorem own_empty (w : World) (e : TypeId) (sz : Nat) : (w.alloc (.cells #[] e)).ownsRow w.heap.size e sz (.slice (some ⟨w.heap.size, 0, none⟩) 0 0) 0 [] := by
  refine ⟨by simp, .inr ⟨w.heap.size, 0, #[], rfl, Nat.le_refl _, Array.getElem?_push_size, Nat.le_refl _, by simp [maxLen], by simp, by simp⟩⟩

set_option maxRecDepth 100000 in
theorem cloneI_c (A : Option Addr) (n c : Nat) (l : List Int) (w : World) (h : Reads w w.heap.size 1 A n (iv l)) (hn : n ≤ 1000000) :
    Calls Tryz.prog 65 #[.slice A n c] w fun e w' => ∃ A' c', e = .returned (.slice A' n c') ∧ w'.ownsRow w.heap.size 3 1 (.slice A' n c') n (iv l) ∧ Below w.heap.size w w' := by
  rcases A with _ | a
  · have h0 : n = 0 := by
      rcases Nat.eq_zero_or_pos n with h0 | h0
      · exact h0
      · obtain ⟨_, _, e, _⟩ := h.2 h0
        cases e
    subst h0
    have hl : iv l = [] := List.eq_nil_of_length_eq_zero (by have := h.1; omega)
    rw [hl]
    clear h hl
    have hrun := fun w => Lib.run_eql_slice_nil (P := Tryz.prog) w 25 3 none 0 c 0 0 Tryz.underlying25
    go_enter Tryz.func65, Tryz.ntmps65
    go_wp2_with (fail)
    go_ret
    exact ⟨none, 0, rfl, own_nil, Below.refl _ _⟩
  · have HR := Lib.hid h
    clear h
    have HE := Lib.hid (own_empty w 3 1)
    have HB := Lib.hid (below_one w (.cells #[] 3))
    have hrun := fun w => Lib.run_eql_slice_nil (P := Tryz.prog) w 25 3 (some a) n c 0 0 Tryz.underlying25
    go_enter Tryz.func65, Tryz.ntmps65
    go_wp2_with (at_builtin; refine wpList_cat elInt rfl _ _ rfl HE.out rfl ((HR.out.below HB.out).more HB.out.size) rfl (iv_one _) (by unfold maxLen; omega) (by omega) (by simp) ?_; intro A1 c1 w1 hown p1)
    go_ret
    refine ⟨A1, c1, rfl, by simpa using hown, HB.out.trans (p1.below HE.out (Below.refl _ _) (Nat.le_refl _) HB.out.size)⟩

set_option maxRecDepth 100000 in
set_option maxHeartbeats 2000000 in
theorem row_c (a : RwA) (A1 A2 : Option Addr) (n1 c1 n2 c2 : Nat) (off to : List Int) (v : Nat) (w : World) (h : RwIn w w.heap.size a) (hc : chkR a.r) (h1 : Reads w w.heap.size 1 A1 n1 (iv off)) (h2 : Reads w w.heap.size 1 A2 n2 (iv to)) (hs : shapeR off to) (hcap : n2 ≤ c2) (hv : v + 1 < n1) :
    Calls Tryz.prog 137 #[rwVal a, .slice A1 n1 c1, .slice A2 n2 c2, .int .i64 v] w fun e w' => ∃ A' k c', e = .returned (.tuple #[.slice A' k c', .bool true]) ∧ k = (rowR off to v).length ∧ w'.ownsRow w.heap.size 3 1 (.slice A' k c') k (iv (rowR off to v)) ∧ Below w.heap.size w w' := by
  show Calls Tryz.prog 137 #[.agg #[.slice a.A1 a.n1 a.c1, .slice a.A2 a.n2 a.c2, .slice a.A3 a.n3 a.c3, .slice a.A4 a.n4 a.c4], .slice A1 n1 c1, .slice A2 n2 c2, .int .i64 v] w _
  have hl1 := h1.int_len
  have hl2 := h2.int_len
  have k1 : n1 ≤ 201 := by have := hs.1.2; omega
  have k2 : n2 ≤ 2000 := by have := hs.2.1; omega
  have hb := row_bounds hs (v := v) (by omega)
  have hx := rboxed_new h
  obtain ⟨d0, d1, d2, d3⟩ := hx.box.cells
  have HX := Lib.hid hx
  have HR1 := Lib.hid h1
  have HR2 := Lib.hid h2
  have HL1 := Lib.hid hl1
  have HL2 := Lib.hid hl2
  have HC := Lib.hid hc
  have HBD := Lib.hid hb
  clear hx h h1 h2 hs hl1 hl2 hc hb
  go_enter Tryz.func137, Tryz.ntmps137
  go_wp2_with (fail)
  refine (rowsCheck_c a _ HX.out.in_).mono ?_
  rintro e w1 ⟨rfl, hB1⟩
  rw [decide_eq_true HC.out]
  have HB1 := Lib.hid (HX.out.bel.trans (hB1.mono (Nat.le_of_lt HX.out.box.lt)))
  clear hB1 d0 d1 d2 d3
  go_wp2_with (fail)
  refine (within_c ((n1 : Int) - 2) _ 1 1 [(v : Int)] _ (by rw [World.size_alloc]; exact reads_lit w1 [(v : Int)] 3) (by unfold maxLen; omega)).mono ?_
  rintro e w2 ⟨rfl, hB2⟩
  rw [decide_eq_true (show ∀ y ∈ [(v : Int)], 0 ≤ y ∧ y ≤ (n1 : Int) - 2 from fun y hy => by rw [List.mem_singleton.1 hy]; omega)]
  have HB2 := Lib.hid (HB1.out.trans (((below_one w1 _).trans (hB2.mono (by simp))).mono HB1.out.size))
  clear hB2 HB1
  obtain ⟨b, o, x, e1, hx, d0⟩ := (HR1.out.below HB2.out).int_at (k := v) (by omega)
  obtain ⟨b', o', y, he, hy, d1⟩ := (HR1.out.below HB2.out).int_at (k := v + 1) hv
  rw [e1] at he
  cases he
  subst e1
  have ex := nth_is hx.out
  have ey := nth_is hy.out
  have hbd := HBD.out
  rw [ex, ey] at hbd
  obtain ⟨ha, hab, hb⟩ := hbd
  have HXX := Lib.hid ex
  have HYY := Lib.hid ey
  have f1 : (0 : Int) ≤ (v : Int) := by omega
  have f2 : (v : Int) < (n1 : Int) := by omega
  have f3 : (0 : Int) ≤ (v : Int) + 1 := by omega
  have f4 : (v : Int) + 1 < (n1 : Int) := by omega
  have f5 : IntKind.i64.wrap ((v : Int) + 1) = (v : Int) + 1 := IntWalk.i64_in _ (by omega)
  have f6 : ((v : Int) + 1).toNat = v + 1 := by omega
  have g1 : (y : Int) ≤ (c2 : Int) := by have := HL2.out; omega
  clear ex ey hx hy
  go_wp2_with (fail)
  refine wp_region_still_tail 11 (by kernel_rfl) (by kernel_rfl) ?_
  simp only [List.take_succ_cons, List.take_zero, List.drop_succ_cons, List.drop_zero]
  obtain ⟨w3, hw3⟩ : ∃ w3, w3 = w2.drew := ⟨_, rfl⟩
  change w2.drew.cell? _ = _ at d0 d1
  rw [← hw3] at d0 d1
  change wpStill _ _ w2.drew (fun a' => wpList _ _ _ _ a' w2.drew) _ _
  rw [← hw3]
  have HB3 : Hid (Below w.heap.size w w3) := by rw [hw3]; exact HB2.out.drew
  clear hw3
  have hr3 : Reads w3 w3.heap.size 1 (if c2 = x.toNat then A2 else A2.map fun p => p.add x.toNat) (y.toNat - x.toNat) (iv (cutI to x y)) :=
    (reads_part (HR2.out.below HB3.out) ha hab (by have := HL2.out; omega) hcap).more HB3.out.size
  have HR3 := Lib.hid hr3
  clear hr3
  repeat still_step
  have er : rowR off to v = cutI to x y := by unfold rowR; rw [HXX.out, HYY.out]
  have el : y.toNat - x.toNat = (rowR off to v).length := by
    rw [er]
    have := cutI_len ha hab hb
    omega
  have hk8 : (rowR off to v).length ≤ n2 := by rw [← HL2.out]; exact row_len_le off to v
  have HE := Lib.hid el
  have HER := Lib.hid er
  generalize (if c2 = x.toNat then A2 else Option.map (fun x_1 => x_1.add x.toNat) A2) = A3 at HR3 ⊢
  generalize y.toNat - x.toNat = k3 at HR3 HE ⊢
  generalize c2 - x.toNat = c3
  have hk3 : k3 ≤ 1000000 := by rw [HE.out]; omega
  clear er el hk8 hb
  refine wpStill_nil ?_
  go_wp2_with (fail)
  refine (cloneI_c _ _ _ (cutI to x y) _ HR3.out (by omega)).mono ?_
  rintro e w4 ⟨A5, c5, rfl, ho, hB4⟩
  have ho5 := own_more (base := w.heap.size) ho HB3.out.size
  have hB5 := HB3.out.trans (hB4.mono HB3.out.size)
  rw [← HER.out] at ho5
  have HO := Lib.hid ho5
  have HB := Lib.hid hB5
  clear ho hB4 ho5 hB5 d0 d1 f1 f2 f3 f4 f5 f6 g1
  go_wp2_with (fail)
  go_ret2
  exact ⟨_, _, _, rfl, HE.out, HO.out, HB.out⟩

/-- A place's row in the one direction or the other. -/
def rowD (r : Rws) (dir : Int) (v : Nat) : List Int := if dir = 1 then rowR r.roff r.rev v else rowR r.off r.to v

set_option maxRecDepth 100000 in
set_option maxHeartbeats 2000000 in
theorem out_c (a : RwA) (v : Nat) (w : World) (h : RwIn w w.heap.size a) (hc : chkR a.r) (hv : v < a.r.n) :
    Calls Tryz.prog 110 #[rwVal a, .int .i64 v] w fun e w' => ∃ A' k c', e = .returned (.tuple #[.slice A' k c', .bool true]) ∧ k = (rowR a.r.off a.r.to v).length ∧ w'.ownsRow w.heap.size 3 1 (.slice A' k c') k (iv (rowR a.r.off a.r.to v)) ∧ Below w.heap.size w w' := by
  show Calls Tryz.prog 110 #[.agg #[.slice a.A1 a.n1 a.c1, .slice a.A2 a.n2 a.c2, .slice a.A3 a.n3 a.c3, .slice a.A4 a.n4 a.c4], .int .i64 v] w _
  have hl1 := Lib.hid h.off.int_len
  have hx := rboxed_new h
  obtain ⟨d0, d1, d2, d3⟩ := hx.box.cells
  have HX := Lib.hid hx
  have HC := Lib.hid hc
  unfold Rws.n at hv
  clear hx h hc
  go_enter Tryz.func110, Tryz.ntmps110
  go_wp2_with (fail)
  refine (row_c a a.A1 a.A2 a.n1 a.c1 a.n2 a.c2 a.r.off a.r.to v _ HX.out.in_ HC.out HX.out.in_.off HX.out.in_.to HC.out.2.2.1.1 HX.out.in_.k2 (by have := hl1.out; omega)).mono ?_
  rintro e w1 ⟨A', k, c', rfl, hk, ho, hB1⟩
  have HO := Lib.hid (own_more (base := w.heap.size) ho HX.out.bel.size)
  have HB := Lib.hid (HX.out.bel.trans (hB1.mono HX.out.bel.size))
  have HK := Lib.hid hk
  clear d0 d1 d2 d3 ho hB1 hk
  go_wp2_with (fail)
  go_ret2
  exact ⟨_, _, _, rfl, HK.out, HO.out, HB.out⟩

set_option maxRecDepth 100000 in
set_option maxHeartbeats 2000000 in
theorem inR_c (a : RwA) (v : Nat) (w : World) (h : RwIn w w.heap.size a) (hc : chkR a.r) (hv : v < a.r.n) :
    Calls Tryz.prog 111 #[rwVal a, .int .i64 v] w fun e w' => ∃ A' k c', e = .returned (.tuple #[.slice A' k c', .bool true]) ∧ k = (rowR a.r.roff a.r.rev v).length ∧ w'.ownsRow w.heap.size 3 1 (.slice A' k c') k (iv (rowR a.r.roff a.r.rev v)) ∧ Below w.heap.size w w' := by
  show Calls Tryz.prog 111 #[.agg #[.slice a.A1 a.n1 a.c1, .slice a.A2 a.n2 a.c2, .slice a.A3 a.n3 a.c3, .slice a.A4 a.n4 a.c4], .int .i64 v] w _
  have hl1 := Lib.hid h.off.int_len
  have hl3 := Lib.hid h.roff.int_len
  have hx := rboxed_new h
  obtain ⟨d0, d1, d2, d3⟩ := hx.box.cells
  have HX := Lib.hid hx
  have HC := Lib.hid hc
  unfold Rws.n at hv
  clear hx h hc
  go_enter Tryz.func111, Tryz.ntmps111
  go_wp2_with (fail)
  refine (row_c a a.A3 a.A4 a.n3 a.c3 a.n4 a.c4 a.r.roff a.r.rev v _ HX.out.in_ HC.out HX.out.in_.roff HX.out.in_.rev HC.out.2.2.2.1.1 HX.out.in_.k4 (by have := hl1.out; have := hl3.out; have := HC.out.1; omega)).mono ?_
  rintro e w1 ⟨A', k, c', rfl, hk, ho, hB1⟩
  have HO := Lib.hid (own_more (base := w.heap.size) ho HX.out.bel.size)
  have HB := Lib.hid (HX.out.bel.trans (hB1.mono HX.out.bel.size))
  have HK := Lib.hid hk
  clear d0 d1 d2 d3 ho hB1 hk
  go_wp2_with (fail)
  go_ret2
  exact ⟨_, _, _, rfl, HK.out, HO.out, HB.out⟩
end Go.Proofs.YtpdnipabaimofaaGreat

namespace Go.Proofs.YtpdnipabaimofaaGreat
open Go.RowKit Go.Shelf Go.Lib Go.Sort

theorem elState : Elem Tryz.prog 59 121 4 32 := Elem.mk_ Tryz.underlying59 (z := .agg #[.int .i64 0, .int .i64 0, .int .i64 0, .int .i64 0]) (by kernel_rfl) rfl (by decide)

theorem key_boxes (W : World) (o1 o2 : Obj) : ((W.alloc o1).alloc o2).heap[W.heap.size]? = some o1 ∧ ((W.alloc o1).alloc o2).heap[W.heap.size + 1]? = some o2 ∧ ((W.alloc o1).alloc o2) = grow (W.drewN 0) (#[o1] ++ #[o2]) := by
  have s1 : (W.alloc o1).heap.size = W.heap.size + 1 := World.size_alloc _ _
  refine ⟨?_, ?_, ?_⟩
  · rw [Below.heap_alloc _ _ _ (by omega)]
    exact Array.getElem?_push_size
  · rw [← s1]
    exact Array.getElem?_push_size
  · simp only [grow, World.alloc, World.drewN]
    have e : (W.heap.push o1).push o2 = W.heap ++ (#[o1] ++ #[o2]) := by
      apply Array.ext'
      simp
    rw [e]
    rfl

set_option maxRecDepth 100000 in
set_option maxHeartbeats 2000000 in
theorem compared_c (x y : Msg) (W : World) : Calls Tryz.prog 59 #[.agg #[.int .i64 x.slot, .int .i64 x.dir, .int .i64 x.v], .agg #[.int .i64 y.slot, .int .i64 y.dir, .int .i64 y.v]] W fun e w' => e = .returned (.int .i64 (cmpM x y)) ∧ ∃ q os', w' = grow (W.drewN q) os' := by
  go_enter Tryz.func59, Tryz.ntmps59
  go_wp2_with (fail)
  obtain ⟨h1, h2, h3⟩ := key_boxes W (.cells #[.int .i64 x.slot, .int .i64 x.dir, .int .i64 x.v] 77) (.cells #[.int .i64 y.slot, .int .i64 y.dir, .int .i64 y.v] 77)
  generalize (W.alloc (.cells #[.int .i64 x.slot, .int .i64 x.dir, .int .i64 x.v] 77)).alloc (.cells #[.int .i64 y.slot, .int .i64 y.dir, .int .i64 y.v] 77) = w2 at h1 h2 h3 ⊢
  have a0 : w2.cell? ⟨W.heap.size, 0, none⟩ = some (.int .i64 x.slot) := by rw [Lib.cell_of_heap h1]; rfl
  have a1 : w2.cell? ⟨W.heap.size, 1, none⟩ = some (.int .i64 x.dir) := by rw [Lib.cell_of_heap h1]; rfl
  have a2 : w2.cell? ⟨W.heap.size, 2, none⟩ = some (.int .i64 x.v) := by rw [Lib.cell_of_heap h1]; rfl
  have b0 : w2.cell? ⟨W.heap.size + 1, 0, none⟩ = some (.int .i64 y.slot) := by rw [Lib.cell_of_heap h2]; rfl
  have b1 : w2.cell? ⟨W.heap.size + 1, 1, none⟩ = some (.int .i64 y.dir) := by rw [Lib.cell_of_heap h2]; rfl
  have b2 : w2.cell? ⟨W.heap.size + 1, 2, none⟩ = some (.int .i64 y.v) := by rw [Lib.cell_of_heap h2]; rfl
  have H3 : Hid (w2.drew = grow (W.drewN 1) _) := show w2.drew = _ from by rw [h3]; rfl
  clear h1 h2 h3
  refine wp_region_still_tail 15 (by kernel_rfl) (by kernel_rfl) ?_
  simp only [List.take_succ_cons, List.take_zero, List.drop_succ_cons, List.drop_zero]
  obtain ⟨w3, hw3⟩ : ∃ w3, w3 = w2.drew := ⟨_, rfl⟩
  change w2.drew.cell? _ = _ at a0 a1 a2 b0 b1 b2
  rw [← hw3] at a0 a1 a2 b0 b1 b2 H3
  change wpStill _ _ w2.drew _ _ _
  change wpStill _ _ w2.drew (fun a' => wpList _ _ _ _ a' w2.drew) _ _
  rw [← hw3]
  clear hw3
  repeat still_step
  still_call (compare_c _ _ _)
  repeat still_step
  still_call (compare_c _ _ _)
  repeat still_step
  still_call (compare_c _ _ _)
  refine wpStill_nil ?_
  go_wp2_with (fail)
  have hn : (w3.alloc (.cells #[.int .i64 (compareInt x.slot y.slot), .int .i64 (compareInt x.dir y.dir), .int .i64 (compareInt x.v y.v)] 3)).heap[w3.heap.size]? = some (.cells #[.int .i64 (compareInt x.slot y.slot), .int .i64 (compareInt x.dir y.dir), .int .i64 (compareInt x.v y.v)] 3) := Array.getElem?_push_size
  refine (or_c _ _ _ _ _ (by rw [Lib.cell_of_heap hn]; rfl) (by rw [Lib.cell_of_heap hn]; rfl) (by rw [Lib.cell_of_heap hn]; rfl)).mono ?_
  rintro e w4 ⟨rfl, rfl⟩
  go_wp2_with (fail)
  go_ret
  obtain ⟨os3, H4⟩ : ∃ os, w3 = grow (W.drewN 1) os := ⟨_, H3.out⟩
  clear H3 a0 a1 a2 b0 b1 b2 hn
  subst H4
  exact ⟨rfl, 1, _, (alloc_eq_grow _ _).trans (grow_grow _ _ _)⟩

set_option maxRecDepth 100000 in
set_option maxHeartbeats 2000000 in
theorem orderSt_c (x y : Msg) (W : World) : Calls Tryz.prog 58 #[.agg (mc x).toArray, .agg (mc y).toArray] W fun e w' => e = .returned (.int .i64 (cmpM x y)) ∧ ∃ q os', w' = grow (W.drewN q) os' := by
  unfold mc
  go_enter Tryz.func58, Tryz.ntmps58
  go_wp2_with (fail)
  obtain ⟨h1, h2, h3⟩ := key_boxes W (.cells #[.int .i64 x.slot, .int .i64 x.dir, .int .i64 x.v, .int .i64 x.d] 121) (.cells #[.int .i64 y.slot, .int .i64 y.dir, .int .i64 y.v, .int .i64 y.d] 121)
  generalize (W.alloc (.cells #[.int .i64 x.slot, .int .i64 x.dir, .int .i64 x.v, .int .i64 x.d] 121)).alloc (.cells #[.int .i64 y.slot, .int .i64 y.dir, .int .i64 y.v, .int .i64 y.d] 121) = w2 at h1 h2 h3 ⊢
  refine (compared_c x y w2).mono ?_
  rintro e w3 ⟨rfl, q, os, rfl⟩
  go_wp2_with (fail)
  go_ret
  subst h3
  exact ⟨rfl, q, _, grow_grow (W.drewN q) _ os⟩

theorem sortSt_c {w : World} {base n c : Nat} {A : Option Addr} {d : List Msg} (ho : w.ownsRow base 121 4 (.slice A n c) n (mv d)) (hlim : n ≤ 1000000000) :
    Calls Tryz.prog 57 #[.slice A n c, .func (.func 58) #[] #[]] w fun e w' => e = .returned (.tuple #[]) ∧
      ∃ d', d'.Perm d ∧ d'.Pairwise (fun a b => ¬ kless b a) ∧ w'.ownsRow base 121 4 (.slice A n c) n (mv d') ∧ w.grownBy w' (A.map (·.block)) := by
  have hl : d.length = n := by have := ho.1; rw [mv_len] at this; omega
  rcases Nat.eq_zero_or_pos n with rfl | hn
  · refine (AnyF.slices_SortFunc_none sortSt A c _ w).mono ?_
    rintro e w' ⟨rfl, rfl⟩
    have : d = [] := List.eq_nil_of_length_eq_zero hl
    subst this
    exact ⟨rfl, [], List.Perm.refl _, List.Pairwise.nil, ho, only_refl _ _⟩
  · obtain ⟨h0, ⟨hv, hz⟩ | ⟨g, cap, cur, hv, hbase, hb, h1, h2, h3, h4⟩⟩ := id ho
    · omega
    injection hv with e1 e2 e3
    subst e1
    subst e3
    have hH : HoldsK mc 4 w g 0 d.toArray := holdsK_block hb hl h4
    have hg : g < w.heap.size := (Array.getElem?_eq_some_iff.1 hb).1
    have eg : ∀ args w, (callFunc 58 args).run Tryz.prog w = .ok (.enter 58 args) w := enters_of Tryz.func58 (by kernel_rfl) rfl
    have hcmp : CmpLays Tryz.prog 58 #[] mc 4 cmpM g 0 d.toArray.size w := fun _ _ _ _ x y => orderSt_c x y _
    have hcon := AnyQ.slices_SortFunc sortSt 4 Tryz.isAgg121 Tryz.sizeOf121 mc (fun _ => rfl) mc_one cmpM swo_cmpM 58 #[] g 0 c d.toArray w eg hcmp hH hg (by simp [hl]; omega)
    rw [show d.toArray.size = n by simpa using hl] at hcon
    refine hcon.mono ?_
    rintro e w' ⟨rfl, d', m, os, hp, hs, rfl⟩
    obtain ⟨p1, p2, p3⟩ := hp
    have hsz : d'.size = n := by rw [p1]; simpa using hl
    refine ⟨rfl, d'.toList, ?_, ?_, ?_, grownBy_sortedK _⟩
    · have e1 : d'.extract 0 n = d' := by rw [← hsz]; simp
      have e2 : d.toArray.extract 0 n = d.toArray := by rw [← hl]; simp
      rw [e1, e2] at p3
      simpa using p3
    · rw [List.pairwise_iff_getElem]
      intro i j hi hj hij
      have hi' : i < d'.size := by simpa using hi
      have hj' : j < d'.size := by simpa using hj
      have := hs i j (Nat.zero_le _) hij (by omega)
      rw [lt_cmpM] at this
      simp only [decide_eq_false_iff_not] at this
      rw [getElem!_pos d' i hi', getElem!_pos d' j hj'] at this
      simpa using this
    · have hF := flat_list d'.toList
      rw [Array.toArray_toList] at hF
      have hFs : (flatK mc 4 d').size = n * 4 := by rw [size_flatK, hsz]
      refine ⟨by rw [mv_len]; simp [hsz], .inr ⟨g, c, _, rfl, hbase, heap_sortedK d' hb, h1, h2, by simp [putCells, h3], ?_⟩⟩
      rw [← hFs, take_putCellsK _ _ (by rw [hFs, h3]; exact Nat.mul_le_mul_right _ h1), hF]

set_option maxRecDepth 100000 in
theorem cloneSt_c (A : Option Addr) (n c : Nat) (l : List Msg) (w : World) (h : Reads w w.heap.size 4 A n (mv l)) (hn : n ≤ 1000000) :
    Calls Tryz.prog 54 #[.slice A n c] w fun e w' => ∃ A' c', e = .returned (.slice A' n c') ∧ w'.ownsRow w.heap.size 121 4 (.slice A' n c') n (mv l) ∧ Below w.heap.size w w' := by
  rcases A with _ | a
  · have h0 : n = 0 := by
      rcases Nat.eq_zero_or_pos n with h0 | h0
      · exact h0
      · obtain ⟨_, _, e, _⟩ := h.2 h0
        cases e
    subst h0
    have hl : mv l = [] := List.eq_nil_of_length_eq_zero (by have := h.1; omega)
    rw [hl]
    clear h hl
    have hrun := fun w => Lib.run_eql_slice_nil (P := Tryz.prog) w 59 121 none 0 c 0 0 Tryz.underlying59
    go_enter Tryz.func54, Tryz.ntmps54
    go_wp2_with (fail)
    go_ret
    exact ⟨none, 0, rfl, own_nil, Below.refl _ _⟩
  · have HR := Lib.hid h
    clear h
    have HE := Lib.hid (own_empty w 121 4)
    have HB := Lib.hid (below_one w (.cells #[] 121))
    have hrun := fun w => Lib.run_eql_slice_nil (P := Tryz.prog) w 59 121 (some a) n c 0 0 Tryz.underlying59
    go_enter Tryz.func54, Tryz.ntmps54
    go_wp2_with (at_builtin; refine wpList_cat elState rfl _ _ rfl HE.out rfl ((HR.out.below HB.out).more HB.out.size) rfl (mv_one _) (by unfold maxLen; omega) (by omega) (by simp) ?_; intro A1 c1 w1 hown p1)
    go_ret
    refine ⟨A1, c1, rfl, by simpa using hown, HB.out.trans (p1.below HE.out (Below.refl _ _) (Nat.le_refl _) HB.out.size)⟩

/-- A message as a row of one. -/
theorem reads_one (w : World) (x : Msg) : Reads (w.alloc (.cells #[.int .i64 x.slot, .int .i64 x.dir, .int .i64 x.v, .int .i64 x.d] 79)) (w.heap.size + 1) 4 (some ⟨w.heap.size, 0, none⟩) 1 (mv [x]) := by
  have hb : (w.alloc (.cells #[.int .i64 x.slot, .int .i64 x.dir, .int .i64 x.v, .int .i64 x.d] 79)).heap[w.heap.size]? = some (.cells #[.int .i64 x.slot, .int .i64 x.dir, .int .i64 x.v, .int .i64 x.d] 79) := w.alloc_heap_new _
  refine ⟨rfl, fun _ => ⟨w.heap.size, 0, rfl, by omega, fun j u hj => ?_⟩⟩
  rw [Lib.cell_of_heap hb]
  simp [mv, mc] at hj
  rw [Nat.zero_add]
  simpa using hj

set_option maxRecDepth 100000 in
theorem roundMay_c (x : Msg) (w : World) : Calls Tryz.prog 87 #[.agg #[.int .i64 x.slot, .int .i64 x.dir, .int .i64 x.v, .int .i64 x.d]] w fun e w' => e = .returned (.bool (decide (mayM x))) ∧ Below w.heap.size w w' := by
  go_enter Tryz.func87, Tryz.ntmps87
  go_wp2_with (fail)
  refine (check_c _ 1 1 [x] _ (by have h := reads_one (w.alloc (.cells #[.int .i64 x.slot, .int .i64 x.dir, .int .i64 x.v, .int .i64 x.d] 121)) x; simp only [World.size_alloc] at h ⊢; exact h) (by unfold maxLen; omega)).mono ?_
  rintro e w1 ⟨rfl, hB1⟩
  have hB := Lib.hid ((below_two w _ _).trans (hB1.mono (below_two w _ _).size))
  clear hB1
  have hd : decide (allMay [x]) = decide (mayM x) := by rw [decide_eq_decide]; exact ⟨fun h => h x (by simp), fun h m hm => by rw [List.mem_singleton.1 hm]; exact h⟩
  rw [hd]
  clear hd
  go_wp2_with (fail)
  go_ret
  exact ⟨rfl, hB.out⟩
end Go.Proofs.YtpdnipabaimofaaGreat

namespace Go.Proofs.YtpdnipabaimofaaGreat
open Go.RowKit Go.Deep Go.ChangeShapes Go.WideShapes

section
variable {H : Type} {enc : TypeId × Value → H} {P : Program} {w : World} {base : Nat} {spare : Nat → Bool} {held : Bool}

theorem exists_list {α : Type} {p : Nat → α → Prop} : ∀ (n : Nat), (∀ i, i < n → ∃ a, p i a) → ∃ l : List α, l.length = n ∧ ∀ i a, l[i]? = some a → p i a
  | 0, _ => ⟨[], rfl, fun i a h => by simp at h⟩
  | n + 1, h => by
    obtain ⟨l, hl, hp⟩ := exists_list n (fun i hi => h i (by omega))
    obtain ⟨a, ha⟩ := h n (by omega)
    refine ⟨l ++ [a], by simp [hl], fun i b hb => ?_⟩
    rcases Nat.lt_or_ge i l.length with h1 | h1
    · rw [List.getElem?_append_left h1] at hb
      exact hp i b hb
    · rw [List.getElem?_append_right h1] at hb
      obtain ⟨h2, _⟩ := List.getElem?_eq_some_iff.1 hb
      have e : i = n := by simp at h2; omega
      subst e
      rw [← hl, Nat.sub_self] at hb
      simp at hb
      subst hb
      exact ha

/-- A slice argument reads as the cells of some things, each of which has a property that its reading gives. -/
theorem open_list {α : Type} (f : α → List Value) (z : Nat) (hf : ∀ a, (f a).length = z) (hz : 0 < z) (Q : α → Prop) {t e : TypeId} (ht : P.underlying t = some (.slice e)) (hc : P.cellsOf e = z)
    (hE : ∀ (n : Nat) (cs : List Value) (y : DataW H × List MemPlace), DataW.trod enc P w base spare held n e cs = some y → ∃ a : α, cs = f a ∧ Q a)
    {A : Option Addr} {len cap : Nat} {d : DataW H} {p : List MemPlace} (h : DataW.Trod enc P w base spare held t (.slice A len cap) d p) :
    ∃ l : List α, l.length = len ∧ Reads w w.heap.size z A len (l.flatMap f) ∧ len ≤ maxLen ∧ ∀ a ∈ l, Q a := by
  obtain ⟨fuel, hfu⟩ := h
  rcases open_slice ht hfu with ⟨hcs, _⟩ | ⟨x, l, c, m, n, D, Pl, hcs, _, hl, hm, hmm, _, hi⟩
  · simp [Value.cells] at hcs
    obtain ⟨rfl, rfl, rfl⟩ := hcs
    exact ⟨[], rfl, Reads.none_, by simp [maxLen], fun a ha => by simp at ha⟩
  · simp [Value.cells] at hcs
    obtain ⟨rfl, rfl, rfl⟩ := hcs
    have hlm : len ≤ m := by rw [hmm]; split <;> omega
    obtain ⟨xs, hxl, hx⟩ := exists_list (p := fun i (a : α) => w.cells? base (x.add (i * P.cellsOf e)) (P.cellsOf e) = some (f a) ∧ Q a) len (fun i hi' => by
      obtain ⟨cs', h1, h2⟩ := hi i (by omega)
      obtain ⟨a, rfl, hq⟩ := hE _ _ _ h2
      exact ⟨a, h1, hq⟩)
    refine ⟨xs, hxl, ⟨by rw [flat_len f z hf, hxl], fun hn => ?_⟩, by omega, fun a ha => ?_⟩
    · have h0 : xs[0]? = some (xs[0]'(by omega)) := List.getElem?_eq_getElem (by omega)
      obtain ⟨_, _, hcell⟩ := World.cells?_some (hx 0 _ h0).1
      have hc0 := hcell 0 (by omega)
      rw [Nat.zero_mul, show x.add 0 = x by simp [Addr.add], show x.add 0 = x by simp [Addr.add]] at hc0
      have hf0 : (f (xs[0]'(by omega)))[0]? = some ((f (xs[0]'(by omega)))[0]'(by rw [hf]; exact hz)) := List.getElem?_eq_getElem (by rw [hf]; exact hz)
      rw [hf0] at hc0
      obtain ⟨b, o, rfl⟩ := addr_of_cell hc0
      refine ⟨b, o, rfl, World.block_lt_of_cell? w _ hc0, fun j u hu => ?_⟩
      have hjl : j < len * z := by have := (List.getElem?_eq_some_iff.1 hu).1; rw [flat_len f z hf, hxl] at this; exact this
      have hq : j / z < len := Nat.div_lt_of_lt_mul (by rw [Nat.mul_comm]; exact hjl)
      have hr := Nat.mod_lt j hz
      have hj : j / z * z + j % z = j := by rw [Nat.mul_comm]; exact Nat.div_add_mod j z
      have hxq : xs[j / z]? = some (xs[j / z]'(by omega)) := List.getElem?_eq_getElem (by omega)
      have hg := flat_get f z hf xs (j / z) (j % z) _ hxq hr
      rw [hj, hu] at hg
      obtain ⟨_, _, hcell2⟩ := World.cells?_some (hx _ _ hxq).1
      have hc2 := hcell2 (j % z) (by omega)
      rw [hc, Addr.add_lit, Addr.add_lit, Nat.add_assoc, hj, ← hg] at hc2
      exact hc2
    · obtain ⟨i, hi'⟩ := List.getElem?_of_mem ha
      exact (hx i a hi').2
end
end Go.Proofs.YtpdnipabaimofaaGreat

namespace Go.Proofs.YtpdnipabaimofaaGreat
open Go.RowKit Go.Deep Go.ChangeShapes Go.WideShapes

section
variable {H : Type} {enc : TypeId × Value → H} {w : World} {base : Nat} {spare : Nat → Bool} {held : Bool}

/-- Each of the four numbers fits. -/
def Msg.fits (m : Msg) : Prop := (Lit.int .i64 m.slot).wf = true ∧ (Lit.int .i64 m.dir).wf = true ∧ (Lit.int .i64 m.v).wf = true ∧ (Lit.int .i64 m.d).wf = true

theorem cells_int : Tryz.prog.cellsOf 3 = 1 := by kernel_rfl
theorem cells_key : Tryz.prog.cellsOf 77 = 3 := by kernel_rfl
theorem cells_mail : Tryz.prog.cellsOf 79 = 4 := by kernel_rfl

set_option maxRecDepth 100000 in
theorem trod_key {n : Nat} {cs : List Value} {y : DataW H × List MemPlace} (h : DataW.trod enc Tryz.prog w base spare held n 77 cs = some y) :
    ∃ a b c : Int, cs = [.int .i64 a, .int .i64 b, .int .i64 c] ∧ (Lit.int .i64 a).wf = true ∧ (Lit.int .i64 b).wf = true ∧ (Lit.int .i64 c).wf = true := by
  obtain ⟨xs, m, _, _, hl, hxl, hf⟩ := DataW.trod_struct Tryz.underlying77 h
  rw [cells_key] at hl
  match cs, hl with
  | [c0, c1, c2], _ =>
    match xs, hxl with
    | [x0, x1, x2], _ =>
      have h0 : DataW.trod enc Tryz.prog w base spare held m 3 (([c0, c1, c2].drop 0).take (Tryz.prog.cellsOf 3)) = some x0 := hf 0 _ rfl
      have h1 : DataW.trod enc Tryz.prog w base spare held m 3 (([c0, c1, c2].drop 1).take (Tryz.prog.cellsOf 3)) = some x1 := hf 1 _ rfl
      have h2 : DataW.trod enc Tryz.prog w base spare held m 3 (([c0, c1, c2].drop 2).take (Tryz.prog.cellsOf 3)) = some x2 := hf 2 _ rfl
      rw [cells_int] at h0 h1 h2
      obtain ⟨a, e0, _, w0⟩ := DataW.trod_int Tryz.underlying3 h0
      obtain ⟨b, e1, _, w1⟩ := DataW.trod_int Tryz.underlying3 h1
      obtain ⟨c, e2, _, w2⟩ := DataW.trod_int Tryz.underlying3 h2
      simp at e0 e1 e2
      subst e0 e1 e2
      exact ⟨a, b, c, rfl, w0, w1, w2⟩

set_option maxRecDepth 100000 in
theorem trod_mail {n : Nat} {cs : List Value} {y : DataW H × List MemPlace} (h : DataW.trod enc Tryz.prog w base spare held n 79 cs = some y) : ∃ m : Msg, cs = mc m ∧ m.fits := by
  obtain ⟨xs, m, _, _, hl, hxl, hf⟩ := DataW.trod_struct Tryz.underlying79 h
  rw [cells_mail] at hl
  match cs, hl with
  | [c0, c1, c2, c3], _ =>
    match xs, hxl with
    | [x0, x1], _ =>
      have h0 : DataW.trod enc Tryz.prog w base spare held m 77 (([c0, c1, c2, c3].drop 0).take (Tryz.prog.cellsOf 77)) = some x0 := hf 0 _ rfl
      have h1 : DataW.trod enc Tryz.prog w base spare held m 3 (([c0, c1, c2, c3].drop 3).take (Tryz.prog.cellsOf 3)) = some x1 := hf 1 _ rfl
      rw [cells_key] at h0
      rw [cells_int] at h1
      obtain ⟨a, b, c, e0, w0, w1, w2⟩ := trod_key h0
      obtain ⟨d, e1, _, w3⟩ := DataW.trod_int Tryz.underlying3 h1
      simp at e0 e1
      obtain ⟨rfl, rfl, rfl⟩ := e0
      subst e1
      exact ⟨⟨a, b, c, d⟩, rfl, w0, w1, w2, w3⟩

theorem open_mails {A : Option Addr} {len cap : Nat} {d : DataW H} {p : List MemPlace} (h : DataW.Trod enc Tryz.prog w base spare held 57 (.slice A len cap) d p) :
    ∃ l : List Msg, l.length = len ∧ Reads w w.heap.size 4 A len (mv l) ∧ len ≤ maxLen ∧ ∀ m ∈ l, m.fits :=
  open_list mc 4 mc_len (by decide) Msg.fits Tryz.underlying57 cells_mail (fun _ _ _ h => trod_mail h) h

theorem open_cap {t e : TypeId} (ht : Tryz.prog.underlying t = some (.slice e)) {A : Option Addr} {len cap : Nat} {d : DataW H} {p : List MemPlace} (h : DataW.Trod enc Tryz.prog w base spare held t (.slice A len cap) d p) : len ≤ cap := by
  obtain ⟨fuel, hfu⟩ := h
  rcases open_slice ht hfu with ⟨hcs, _⟩ | ⟨x, l, c, m, n, D, Pl, hcs, _, hl, hm, hmm, _, hi⟩
  · simp [Value.cells] at hcs
    obtain ⟨rfl, rfl, rfl⟩ := hcs
    exact Nat.le_refl _
  · simp [Value.cells] at hcs
    obtain ⟨rfl, rfl, rfl⟩ := hcs
    exact hl
theorem open_mailsC {A : Option Addr} {len cap : Nat} {d : DataW H} {p : List MemPlace} (h : DataW.Trod enc Tryz.prog w base spare held 57 (.slice A len cap) d p) :
    ∃ l : List Msg, l.length = len ∧ Reads w w.heap.size 4 A len (mv l) ∧ len ≤ maxLen ∧ len ≤ cap ∧ ∀ m ∈ l, m.fits := by
  obtain ⟨l, a, b, c, d⟩ := open_mails h
  exact ⟨l, a, b, c, open_cap Tryz.underlying57 h, d⟩
end
end Go.Proofs.YtpdnipabaimofaaGreat

namespace Go.Proofs.YtpdnipabaimofaaGreat
open Go.RowKit Go.WideMaps
open Go.Maps (Keyed IsMap)

/-- A key's cells. -/
def kc (m : Msg) : Array Value := #[.int .i64 m.slot, .int .i64 m.dir, .int .i64 m.v]

theorem laidOutM : laidOutB Tryz.prog = true := by kernel_rfl
theorem rowKey : (77 : TypeId) < Tryz.prog.types.size := of_decide_eq_true (by kernel_rfl)
set_option maxRecDepth 100000 in
theorem wideKey : (match Tryz.prog.underlying 77 with | some (.array _ _) | some (.struct _) => true | _ => false) = true := by rw [Tryz.underlying77]
set_option maxRecDepth 100000 in
theorem keyLaw : KeyLaw Tryz.prog 77 := deep_law_laid laidOutM (m := 2) (by omega) rowKey (by kernel_rfl) wideKey
theorem keyed : Keyed Tryz.prog 77 := Keyed.of_law keyLaw
theorem isKeyType : Tryz.prog.keyType 77 = true := by kernel_rfl

set_option maxRecDepth 100000 in
theorem key_formed (m : Msg) : (Value.agg (kc m)).formed Tryz.prog 77 = true := by simp [Value.formed, Tryz.underlying77, cells_key, kc]

set_option maxRecDepth 100000 in
theorem key_reads (m : Msg) (h : m.fits) : ∃ l, keyOf Tryz.prog 77 (.agg (kc m)) = some l := by
  obtain ⟨h1, h2, h3, h4⟩ := h
  obtain ⟨s, hs⟩ : ∃ s, Tryz.prog.types.size = s + 1 := ⟨Tryz.prog.types.size - 1, (Nat.sub_add_cancel (Nat.lt_of_le_of_lt (Nat.zero_le _) rowKey)).symm⟩
  have hl : Tryz.prog.keyLits (Tryz.prog.types.size + 1) 77 (kc m).toList = some [.int .i64 m.slot, .int .i64 m.dir, .int .i64 m.v] := by
    rw [hs]
    simp [Program.keyLits, Tryz.underlying77, Tryz.underlying3, cells_key, cells_int, kc, h1, h2, h3]
  unfold keyOf
  rw [Tryz.underlying77]
  simp only [isKeyType, key_formed, Bool.and_self, if_true]
  rw [show (Value.agg (kc m)).cells.toList = (kc m).toList from rfl, hl]
  exact ⟨_, rfl⟩

theorem lits_int {m : Nat} {c : Value} {x : List Lit} (h : Tryz.prog.keyLits m 3 [c] = some x) : ∃ a, c = .int .i64 a := by
  cases m with
  | zero => simp [Program.keyLits] at h
  | succ m =>
    cases c with
    | int q a =>
      simp [Program.keyLits, Tryz.underlying3] at h
      obtain ⟨⟨rfl, -⟩, -⟩ := h
      exact ⟨a, rfl⟩
    | _ => simp [Program.keyLits, Tryz.underlying3] at h

set_option maxRecDepth 100000 in
theorem key_inv {v : Value} {l : Lit} (h : keyOf Tryz.prog 77 v = some l) : ∃ m : Msg, v = .agg (kc m) := by
  unfold keyOf at h
  rw [Tryz.underlying77] at h
  simp only [] at h
  split at h
  · rename_i hc
    simp only [Bool.and_eq_true] at hc
    obtain ⟨-, hf⟩ := hc
    cases v with
    | agg cs =>
      simp only [Value.formed, Tryz.underlying77, cells_key, beq_iff_eq] at hf
      obtain ⟨cl⟩ := cs
      match cl, hf with
      | [c0, c1, c2], _ =>
        rw [show (Value.agg #[c0, c1, c2]).cells.toList = [c0, c1, c2] from rfl] at h
        obtain ⟨N, hN⟩ : ∃ N, Tryz.prog.types.size = N := ⟨_, rfl⟩
        rw [hN] at h
        clear hN
        cases h3 : Tryz.prog.keyLits (N + 1) 77 [c0, c1, c2] with
        | none => rw [h3] at h; cases h
        | some ls =>
          simp [Program.keyLits, Tryz.underlying77, cells_key, cells_int] at h3
          cases h4 : Tryz.prog.keyLits N 3 [c0] with
          | none => rw [h4] at h3; cases h3
          | some x0 =>
            cases h5 : Tryz.prog.keyLits N 3 [c1] with
            | none => rw [h4, h5] at h3; cases h3
            | some x1 =>
              cases h6 : Tryz.prog.keyLits N 3 [c2] with
              | none => rw [h4, h5, h6] at h3; cases h3
              | some x2 =>
                obtain ⟨a, rfl⟩ := lits_int h4
                obtain ⟨b, rfl⟩ := lits_int h5
                obtain ⟨c, rfl⟩ := lits_int h6
                exact ⟨⟨a, b, c, 0⟩, rfl⟩
    | tuple _ => simp [Value.formed] at hf
    | _ => simp [Value.formed, Tryz.underlying77] at hf
  · cases h

/-- A message, as it is read of a map's element. -/
def mR : Value → Option (DataW Msg × List MemPlace)
  | .agg ⟨[.int .i64 a, .int .i64 b, .int .i64 c, .int .i64 d]⟩ => some (.held ⟨a, b, c, d⟩, [])
  | _ => none

theorem mR_mk (m : Msg) : mR (.agg (mc m).toArray) = some (.held m, []) := rfl
theorem mR_inv {v : Value} {z : DataW Msg × List MemPlace} (h : mR v = some z) : ∃ m, v = .agg (mc m).toArray ∧ z = (.held m, []) := by
  unfold mR at h
  split at h
  · cases h; exact ⟨⟨_, _, _, _⟩, rfl, rfl⟩
  · cases h
end Go.Proofs.YtpdnipabaimofaaGreat

namespace Go.Proofs.YtpdnipabaimofaaGreat
open Go.RowKit
open Go.Maps (Keyed IsMap)

theorem kc_eq {a b : Msg} : Value.agg (kc a) = .agg (kc b) ↔ kEq a b := by
  unfold kc kEq
  constructor
  · intro h
    injection h with h
    injection h with h
    simp at h
    exact h
  · rintro ⟨h1, h2, h3⟩
    rw [h1, h2, h3]

theorem key_same {a b : Msg} {l l' : Lit} (ha : keyOf Tryz.prog 77 (.agg (kc a)) = some l) (hb : keyOf Tryz.prog 77 (.agg (kc b)) = some l') : l = l' ↔ kEq a b := by
  constructor
  · rintro rfl
    exact kc_eq.1 (keyed.inj ha hb)
  · intro h
    rw [kc_eq.2 h, hb] at ha
    exact (Option.some.inj ha).symm

/-- The map reads as just the messages M. -/
def MapHas (D : DataW Msg) (M : List Msg) : Prop :=
  IsMap D ∧ ∀ (m : Msg) (l : Lit), keyOf Tryz.prog 77 (.agg (kc m)) = some l → (Maps.has D l = true ↔ ∃ y ∈ M, kEq y m) ∧ ∀ y ∈ M, kEq y m → ∀ z, D.atKey l z = .held y

theorem MapHas.nil : MapHas (.map []) [] := ⟨Maps.isMap_empty, fun m l _ => ⟨by simp [Maps.has], fun y hy => by simp at hy⟩⟩

variable {D : DataW Msg} {M M' : List Msg} {x y : Msg} {l : Lit}

theorem MapHas.same (h : MapHas D M) (hs : ∀ y, y ∈ M ↔ y ∈ M') : MapHas D M' :=
  ⟨h.1, fun m l hl => ⟨(h.2 m l hl).1.trans ⟨fun ⟨y, a, b⟩ => ⟨y, (hs y).1 a, b⟩, fun ⟨y, a, b⟩ => ⟨y, (hs y).2 a, b⟩⟩, fun y hy => (h.2 m l hl).2 y ((hs y).2 hy)⟩⟩

theorem rise_one : ∀ {o : List Msg}, o.Pairwise kless → ∀ {a b : Msg}, a ∈ o → b ∈ o → kEq a b → a = b
  | [], _, _, _, ha, _, _ => by simp at ha
  | c :: o, h, a, b, ha, hb, hk => by
    rw [List.pairwise_cons] at h
    rcases List.mem_cons.1 ha with e1 | h1
    · rcases List.mem_cons.1 hb with e2 | h2
      · rw [e1, e2]
      · rw [e1] at hk; exact absurd hk (kless_ne (h.1 b h2))
    · rcases List.mem_cons.1 hb with e2 | h2
      · rw [e2] at hk; exact absurd (kEq_symm hk) (kless_ne (h.1 a h1))
      · exact rise_one h.2 h1 h2 hk

theorem MapHas.put (h : MapHas D M) (hr : M.Pairwise kless) (hl : keyOf Tryz.prog 77 (.agg (kc x)) = some l) (hx : ∀ y ∈ M, kEq y x → x.d ≤ y.d) : MapHas (D.put l (.held x)) (putM M x) := by
  have hin : x ∈ putM M x := by
    rw [putM_mem hr]
    refine .inr ⟨kEq_refl _, ?_⟩
    by_cases hex : ∃ y ∈ M, kEq y x
    · obtain ⟨y, hy, hk⟩ := hex
      have := hx y hy hk
      exact .inl ⟨y, hy, hk, by omega⟩
    · exact .inr ⟨fun y hy hk => hex ⟨y, hy, hk⟩, rfl⟩
  refine ⟨h.1.put _ _, fun m lm hm => ?_⟩
  by_cases hk : kEq x m
  · obtain rfl : l = lm := (key_same hl hm).2 hk
    refine ⟨⟨fun _ => ⟨x, hin, hk⟩, fun _ => Maps.has_put_same h.1 (keyed.key hl) _⟩, fun y hy hym z => ?_⟩
    rw [Maps.atKey_put_same h.1 (keyed.key hl)]
    rw [rise_one (putM_rise hr) hin hy (kEq_trans hk (kEq_symm hym))]
  · have hne : lm ≠ l := fun e => hk ((key_same hl hm).1 e.symm)
    rw [Maps.has_put_other hne, (h.2 m lm hm).1]
    have hmem : ∀ y, kEq y m → (y ∈ putM M x ↔ y ∈ M) := fun y hy => by
      have hyx : ¬ kEq y x := fun e => hk (kEq_trans (kEq_symm e) hy)
      rw [putM_mem hr]
      constructor
      · rintro (h1 | h1)
        · exact h1.1
        · exact absurd h1.1 hyx
      · intro h1; exact .inl ⟨h1, hyx⟩
    refine ⟨⟨fun ⟨y, a, b⟩ => ⟨y, (hmem y b).2 a, b⟩, fun ⟨y, a, b⟩ => ⟨y, (hmem y b).1 a, b⟩⟩, fun y hy hym z => ?_⟩
    rw [Maps.atKey_put_other hne]
    exact (h.2 m lm hm).2 y ((hmem y hym).1 hy) hym z

theorem MapHas.stay (h : MapHas D M) (hr : M.Pairwise kless) (hy : y ∈ M) (hk : kEq y x) (hd : y.d ≤ x.d) : MapHas D (putM M x) := by
  refine h.same fun z => ?_
  rw [putM_mem hr]
  constructor
  · intro hz
    by_cases hzx : kEq z x
    · have : z = y := rise_one hr hz hy (kEq_trans hzx (kEq_symm hk))
      subst this
      exact .inr ⟨hzx, .inl ⟨z, hz, hzx, by omega⟩⟩
    · exact .inl ⟨hz, hzx⟩
  · rintro (h1 | ⟨h1, h2⟩)
    · exact h1.1
    · rcases h2 with ⟨y', hy', hk', hd'⟩ | ⟨h2, -⟩
      · have e1 : y' = y := rise_one hr hy' hy (kEq_trans hk' (kEq_symm hk))
        subst e1
        have : z = y' := kEq_ext (kEq_trans h1 (kEq_symm hk)) (by omega)
        rw [this]; exact hy
      · exact absurd hk (h2 y hy)

/-- What has been met of a range over the map: o; what is left tells the rest. -/
structure Met (M o : List Msg) (left : Lit → Bool) : Prop where
  sub : ∀ y ∈ o, y ∈ M
  nodup : o.Nodup
  rest : ∀ y ∈ M, ∀ l, keyOf Tryz.prog 77 (.agg (kc y)) = some l → (left l = true ↔ y ∉ o)

theorem Met.start (h : MapHas D M) : Met M [] (Maps.has D) :=
  ⟨fun y hy => by simp at hy, List.nodup_nil, fun y hy l hl => by rw [(h.2 y l hl).1]; simp; exact ⟨y, hy, kEq_refl y⟩⟩

theorem Met.step {o : List Msg} {left : Lit → Bool} (h : Met M o left) (hM : MapHas D M) (hr : M.Pairwise kless) {k c : Msg} (hk : keyOf Tryz.prog 77 (.agg (kc k)) = some l) (hl : left l = true)
    (hat : ∀ z, D.atKey l z = .held c) : kEq c k ∧ c ∈ M ∧ Met M (o ++ [c]) (fun z => left z && !z.sameKey l) := by
  have hh : Maps.has D l = true := Maps.has_true_of_atKey hat
  obtain ⟨y, hy, hyk⟩ := ((hM.2 k l hk).1).1 hh
  have e1 := (hM.2 k l hk).2 y hy hyk .nil
  rw [hat] at e1
  injection e1 with e1
  subst e1
  have hc : keyOf Tryz.prog 77 (.agg (kc c)) = some l := by rw [kc_eq.2 hyk]; exact hk
  have hco : c ∉ o := (h.rest c hy l hc).1 hl
  refine ⟨hyk, hy, fun z hz => ?_, ?_, fun z hz lz hlz => ?_⟩
  · rcases List.mem_append.1 hz with hz | hz
    · exact h.sub z hz
    · simp at hz; subst hz; exact hy
  · rw [List.nodup_append]
    refine ⟨h.nodup, by simp, fun a ha b hb e => ?_⟩
    simp at hb
    subst hb
    subst e
    exact hco ha
  · simp only [Bool.and_eq_true, Bool.not_eq_true', List.mem_append, List.mem_cons, List.not_mem_nil, or_false, not_or]
    rw [h.rest z hz lz hlz]
    refine and_congr_right fun _ => ?_
    constructor
    · intro h1 e
      subst e
      have : lz = l := (key_same hlz hc).2 (kEq_refl _)
      subst this
      rw [WideAt.sameKey_self (keyed.key hc)] at h1
      cases h1
    · intro h1
      exact Maps.sameKey_ne fun e => h1 (rise_one hr hz hy ((key_same hlz hc).1 e))

theorem Met.all {o : List Msg} {left : Lit → Bool} (h : Met M o left) (hf : ∀ y ∈ M, y.fits) (hl : ∀ l, left l = false) : ∀ y, y ∈ o ↔ y ∈ M := fun y =>
  ⟨h.sub y, fun hy => by
    obtain ⟨l, hk⟩ := key_reads y (hf y hy)
    rcases Classical.em (y ∈ o) with h1 | h1
    · exact h1
    · have := (h.rest y hy l hk).2 h1
      rw [hl l] at this
      cases this⟩

/-- Sorted, they are the ones that rise. -/
theorem sorted_is {o d : List Msg} (hr : M.Pairwise kless) (ho : ∀ y, y ∈ o ↔ y ∈ M) (hn : o.Nodup) (hp : d.Perm o) (hs : d.Pairwise (fun a b => ¬ kless b a)) : d = M := by
  have hmem : ∀ y, y ∈ d ↔ y ∈ M := fun y => (hp.mem_iff).trans (ho y)
  have hnd : d.Nodup := hp.nodup_iff.2 hn
  refine rise_ext ?_ hr hmem
  have h2 : d.Pairwise (fun a b => ¬ kless b a ∧ a ≠ b) := List.pairwise_and_iff.2 ⟨hs, hnd⟩
  refine h2.imp_of_mem fun {a b} ha hb h => ?_
  rcases kless_tri a b with h1 | h1 | h1
  · exact h1
  · exact absurd (rise_one hr ((hmem a).1 ha) ((hmem b).1 hb) h1) h.2
  · exact absurd h1 h.1
end Go.Proofs.YtpdnipabaimofaaGreat

namespace Go.Proofs.YtpdnipabaimofaaGreat
open Go.RowKit Go.Shelf
open Go.Maps (Keyed IsMap)

theorem zeroMail (w : World) : (zeroValue 79).run Tryz.prog w = .ok (.agg #[.int .i64 0, .int .i64 0, .int .i64 0, .int .i64 0]) w := by kernel_rfl

theorem nearer_c (x y : Msg) (w : World) : Calls Tryz.prog 107 #[.agg (mc x).toArray, .agg (mc y).toArray] w fun e w' => e = .returned (.bool (decide (x.d < y.d))) ∧ Below w.heap.size w w' := by
  unfold mc
  go_enter Tryz.func107, Tryz.ntmps107
  go_wp2
  go_ret
  exact ⟨rfl, ((Below.refl _ _).alloc (Nat.le_refl _) _).alloc (by simp) _⟩

/-- A box that was laid first is kept. -/
theorem box_kept {w w3 : World} {o1 o2 : Obj} (h : Below ((w.alloc o1).alloc o2).heap.size ((w.alloc o1).alloc o2) w3) : w3.heap[w.heap.size]? = some o1 := by
  have s1 : (w.alloc o1).heap.size = w.heap.size + 1 := World.size_alloc _ _
  have s2 : ((w.alloc o1).alloc o2).heap.size = w.heap.size + 1 + 1 := by rw [World.size_alloc, s1]
  rw [h.block _ (by omega), Below.heap_alloc _ _ _ (by omega)]
  exact Array.getElem?_push_size
theorem reads_box2 (w : World) (o1 : Obj) (m : Msg) : Reads ((w.alloc o1).alloc (.cells #[.int .i64 m.slot, .int .i64 m.dir, .int .i64 m.v, .int .i64 m.d] 79)) (w.heap.size + 1 + 1) 4 (some ⟨w.heap.size + 1, 0, none⟩) 1 (mc m) := by
  have h : ((w.alloc o1).alloc (.cells #[.int .i64 m.slot, .int .i64 m.dir, .int .i64 m.v, .int .i64 m.d] 79)).heap[w.heap.size + 1]? = some (.cells #[.int .i64 m.slot, .int .i64 m.dir, .int .i64 m.v, .int .i64 m.d] 79) := by
    have s1 : (w.alloc o1).heap.size = w.heap.size + 1 := World.size_alloc _ _
    rw [← s1]
    exact Array.getElem?_push_size
  refine ⟨rfl, fun _ => ⟨_, _, rfl, by omega, fun j u hu => ?_⟩⟩
  rw [Lib.cell_of_heap h, Nat.zero_add, ← Array.getElem?_toList]
  exact hu
theorem mail_box {w : World} {b : Nat} {x : Msg} (h : w.heap[b]? = some (.cells #[.int .i64 x.slot, .int .i64 x.dir, .int .i64 x.v, .int .i64 x.d] 79)) :
    w.cell? ⟨b, 0, none⟩ = some (.int .i64 x.slot) ∧ w.cell? ⟨b, 1, none⟩ = some (.int .i64 x.dir) ∧ w.cell? ⟨b, 2, none⟩ = some (.int .i64 x.v) ∧ w.cell? ⟨b, 3, none⟩ = some (.int .i64 x.d) := by
  refine ⟨?_, ?_, ?_, ?_⟩ <;> · rw [Lib.cell_of_heap h]; rfl

set_option maxRecDepth 100000 in
/-- The look-up of a message's key: with the value's shape written out. -/
theorem wpList_lookup_mail {w : World} {ops : Array Oper} {rest : List Oper} {o : Oper} {a : Act} {Q : Exit → Act → World → Prop} (hg : o.guard = none) (m x : Operand)
    (hop : o.op = Op.lookup 171 m x true) (b n : Nat) (D : DataW Msg) (hm : a.eval m = .map (some b)) (hown : w.ownsMap Tryz.prog 77 mR b n D)
    (key : Value) (kl : Lit) (hx : a.eval x = key) (hkey : keyOf Tryz.prog 77 key = some kl) (y : Msg) (hy : D.atKey kl (.held ⟨0, 0, 0, 0⟩) = .held y) (bb : Bool) (hb : Maps.has D kl = bb)
    (hK : wpList Tryz.prog ops Q rest (a.put o.dst (.tuple #[.agg #[.int .i64 y.slot, .int .i64 y.dir, .int .i64 y.v, .int .i64 y.d], .bool bb])) w) :
    wpList Tryz.prog ops Q (o :: rest) a w :=
  wpList_lookup_own_ok w hg m x _ hop 77 79 keyed Tryz.underlying171 mR (zeroMail w) (.held ⟨0, 0, 0, 0⟩) [] rfl b n D hm hown key kl hx hkey (fun v ps hv => by
    obtain ⟨m, rfl, h2⟩ := mR_inv hv
    rw [hy] at h2
    have e : m = y := by
      have := congrArg Prod.fst h2
      injection this with this
      exact this.symm
    subst e
    rw [hb]
    exact hK)

set_option maxRecDepth 100000 in
/-- The step of a range over such a map: with the shapes written out. -/
theorem wpList_next_mail {w : World} {ops : Array Oper} {rest : List Oper} {o : Oper} {a : Act} {Q : Exit → Act → World → Prop} (hg : o.guard = none) (it : Operand) (hop : o.op = Op.next it false)
    (b r n : Nat) (D : DataW Msg) (left : Lit → Bool) (cnt : Nat) (hit : a.eval it = .pointer (some ⟨r, 0, none⟩)) (h : w.ranges Tryz.prog 77 mR b r n D left cnt)
    (hDone : (∀ kl, left kl = false) → wpList Tryz.prog ops Q rest (a.put o.dst (.tuple #[.bool false])) w)
    (hMore : ∀ (x c : Msg) (kl : Lit) (w' : World) (cnt' : Nat), Hid (keyOf Tryz.prog 77 (.agg (kc x)) = some kl) → Hid (left kl = true) → Hid (∀ zd, D.atKey kl zd = .held c) → w'.ranges Tryz.prog 77 mR b r n D (fun z => left z && !z.sameKey kl) cnt' → cnt' < cnt →
      w.grownBy w' (some r) → w'.heap.size = w.heap.size → (Instr.entry (.pointer (some ⟨r, 0, none⟩))).run Tryz.prog w' = .ok (.tuple #[.agg #[.int .i64 x.slot, .int .i64 x.dir, .int .i64 x.v], .agg #[.int .i64 c.slot, .int .i64 c.dir, .int .i64 c.v, .int .i64 c.d]]) w' →
      wpList Tryz.prog ops Q rest (a.put o.dst (.tuple #[.bool true, .agg #[.int .i64 x.slot, .int .i64 x.dir, .int .i64 x.v], .agg #[.int .i64 c.slot, .int .i64 c.dir, .int .i64 c.v, .int .i64 c.d]])) w') :
    wpList Tryz.prog ops Q (o :: rest) a w :=
  wpList_next_ranges w hg it hop 77 keyed mR (fun m : Msg => .agg (kc m)) (fun m : Msg => .agg (mc m).toArray) (fun _ _ hk => key_inv hk) (fun _ _ hv => by obtain ⟨m, e, _⟩ := mR_inv hv; exact ⟨m, e⟩) b r n D left cnt hit h (fun _ hl => hDone hl)
    (fun x c kl y w' cnt' hkey hlk hv hat hrg hlt hgr hsz hen => hMore x c kl w' cnt' hkey hlk (fun zd => by
      rw [hat zd]
      have := mR_mk c
      rw [show mR (.agg (mc c).toArray) = some y from hv] at this
      injection this with this
      rw [this]) hrg hlt hgr hsz hen)

set_option maxRecDepth 100000 in
set_option maxHeartbeats 2000000 in
theorem combine_c (A : Option Addr) (n c : Nat) (ms : List Msg) (w : World) (hr : Reads w w.heap.size 4 A n (mv ms)) (hn : n ≤ 1000000) (hf : ∀ m ∈ ms, m.fits) :
    Calls Tryz.prog 85 #[.slice A n c] w fun e w' => ∃ A' n' c', e = .returned (.slice A' n' c') ∧ (combine ms).length = n' ∧ w'.ownsRow w.heap.size 79 4 (.slice A' n' c') n' (mv (combine ms)) ∧ Below w.heap.size w w' := by
  have hl := hr.mail_len
  have hmm := @run_makeMap Tryz.prog
  go_enter Tryz.func85, Tryz.ntmps85
  go_wp2_with (fail)
  clear hmm
  go_loopw [15] (fun i wr => ∃ (k : Nat) (D : DataW Msg), k ≤ n ∧ i = .int .i64 k ∧ wr.ownsMap Tryz.prog 77 mR w.heap.size k D ∧ Hid (MapHas D (combine (ms.take k))) ∧ Below w.heap.size w wr) (fun i _ => n - (intOf i).toNat)
  case atStart => exact ⟨0, .map [], Nat.zero_le _, rfl, World.ownsMap_made _ _ _ _, MapHas.nil, (Below.refl _ _).alloc (Nat.le_refl _) _⟩
  case round =>
    obtain ⟨k, D, hk, rfl, hown, hD, hB⟩ := hrel
    by_cases hlt : k < n
    · obtain ⟨b, o, x, rfl, hx, c0, c1, c2, c3⟩ := (hr.below hB).mail_at hlt
      have hxf : x.fits := hf x (List.mem_of_getElem? hx.out)
      obtain ⟨kl, hkey⟩ := key_reads x hxf
      have hrise := (combine_comb (ms.take k)).1
      have hstep : combine (ms.take (k + 1)) = putM (combine (ms.take k)) x := by rw [List.take_add_one, hx.out]; exact combine_snoc _ _
      obtain ⟨bb, y, hb, hy, hput, hstay⟩ : ∃ (bb : Bool) (y : Msg), Maps.has D kl = bb ∧ D.atKey kl (.held ⟨0, 0, 0, 0⟩) = .held y ∧
          Hid ((bb = false ∨ x.d < y.d) → MapHas (D.put kl (.held x)) (combine (ms.take (k + 1)))) ∧ Hid (bb = true → ¬ x.d < y.d → MapHas D (combine (ms.take (k + 1)))) := by
        by_cases hex : ∃ y ∈ combine (ms.take k), kEq y x
        · obtain ⟨y, hy, hyx⟩ := hex
          refine ⟨true, y, ((hD.out.2 x kl hkey).1).2 ⟨y, hy, hyx⟩, (hD.out.2 x kl hkey).2 y hy hyx _, ?_, ?_⟩
          · intro hc
            rw [hstep]
            refine hD.out.put hrise hkey fun z hz hzx => ?_
            have : z = y := rise_one hrise hz hy (kEq_trans hzx (kEq_symm hyx))
            subst this
            rcases hc with hc | hc
            · cases hc
            · omega
          · intro _ hc
            rw [hstep]
            exact hD.out.stay hrise hy hyx (by omega)
        · have hh : Maps.has D kl = false := by
            cases hhh : Maps.has D kl
            · rfl
            · exact absurd (((hD.out.2 x kl hkey).1).1 hhh) hex
          refine ⟨false, ⟨0, 0, 0, 0⟩, hh, Maps.atKey_of_not_has hh _, ?_, fun h => by cases h⟩
          intro _
          rw [hstep]
          exact hD.out.put hrise hkey fun z hz hzx => absurd ⟨z, hz, hzx⟩ hex
      have HK := Lib.hid hkey
      have HY := Lib.hid hy
      have HB := Lib.hid hb
      clear hkey hy hb hstep hrise hxf
      cases bb with
      | false =>
        go_wp2_with (first
          | (at_lookup; refine wpList_lookup_mail rfl _ _ rfl w.heap.size k D rfl (hown.alloc _) _ kl rfl HK.out y HY.out false HB.out ?_)
          | (at_mapUpdate; refine wpList_mapUpdate_own _ rfl _ _ _ 171 rfl 77 79 keyed Tryz.underlying171 mR w.heap.size k D rfl ((hown.alloc _).alloc _) (by unfold maxLen; omega) _ _ kl rfl rfl HK.out (.held x) [] rfl ?_; intro w1 hown1 hgrow1))
        go_roundw
        case rel => exact ⟨k + 1, _, by omega, by go_num, hown1, hput.out (.inl rfl), (((hB.alloc hB.size _).alloc (by simp; have := hB.size; omega) _).grown hgrow1 (by simp; have := hB.size; omega) (fun j hj => by cases hj; exact Nat.le_refl _))⟩
        case measure => simp [intOf]; omega
      | true =>
        by_cases hd : x.d < y.d
        · go_wp2_with (first
            | (at_lookup; refine wpList_lookup_mail rfl _ _ rfl w.heap.size k D rfl (hown.alloc _) _ kl rfl HK.out y HY.out true HB.out ?_)
            | (go_at_call 107; refine (nearer_c x y _).mono ?_; rintro e w3 ⟨rfl, hB3⟩; obtain ⟨d0, d1, d2, d3⟩ := mail_box (box_kept hB3); have hown3 := ((hown.alloc _).alloc _).kept (only_of_below hB3 none) (by simp))
            | (at_mapUpdate; refine wpList_mapUpdate_own _ rfl _ _ _ 171 rfl 77 79 keyed Tryz.underlying171 mR w.heap.size k D rfl hown3 (by unfold maxLen; omega) _ _ kl rfl rfl HK.out (.held x) [] rfl ?_; intro w1 hown1 hgrow1))
          have hBB := ((hB.alloc hB.size _).alloc (by simp; have := hB.size; omega) _).trans (hB3.mono (by simp; have := hB.size; omega))
          go_roundw
          case rel => exact ⟨k + 1, _, by omega, by go_num, hown1, hput.out (.inr hd), hBB.grown hgrow1 hBB.size (fun j hj => by cases hj; exact Nat.le_refl _)⟩
          case measure => simp [intOf]; omega
        · have hdf : decide (x.d < y.d) = false := decide_eq_false hd
          go_wp2_with (first
            | (at_lookup; refine wpList_lookup_mail rfl _ _ rfl w.heap.size k D rfl (hown.alloc _) _ kl rfl HK.out y HY.out true HB.out ?_)
            | (go_at_call 107; refine (nearer_c x y _).mono ?_; rintro e w3 ⟨rfl, hB3⟩; have hown3 := ((hown.alloc _).alloc _).kept (only_of_below hB3 none) (by simp)))
          have hBB := ((hB.alloc hB.size _).alloc (by simp; have := hB.size; omega) _).trans (hB3.mono (by simp; have := hB.size; omega))
          go_roundw
          case rel => exact ⟨k + 1, D, by omega, by go_num, hown3.mono (by omega), hstay.out (by simp) hd, hBB⟩
          case measure => simp [intOf]; omega
    · obtain rfl : k = n := by omega
      have hM : Hid (MapHas D (combine ms)) := by
        have := hD.out
        rw [List.take_of_length_le (by omega)] at this
        exact this
      have hbl := hown.lt
      clear hD hr
      go_wp2_with (at_range; refine wpList_range_own _ rfl _ 171 rfl 77 79 keyed Tryz.underlying171 mR w.heap.size k D rfl hown ?_; intro w0 hrg0 hg0 hs0)
      go_frame
      have hB0 : Below w.heap.size w w0 := hB.grown hg0 hB.size (fun j hj => by cases hj)
      have hsd := hown.size_le
      clear hown hg0
      generalize wr.heap.size = r at hrg0 hs0 hbl ⊢
      clear hB
      go_loopw [9] (fun v wq => ∃ (left : Lit → Bool) (cnt : Nat) (o : List Msg) (A' : Option Addr) (c' : Nat), v = .slice A' o.length c' ∧ wq.ranges Tryz.prog 77 mR w.heap.size r k D left cnt ∧ Hid (Met (combine ms) o left) ∧
          wq.ownsRow (r + 1) 79 4 (.slice A' o.length c') o.length (mv o) ∧ o.length + cnt ≤ k ∧ Below w.heap.size w wq ∧ r + 1 ≤ wq.heap.size) (fun _ wq => wq.rangeLeft w.heap.size r)
      case atStart => exact ⟨_, _, [], none, 0, rfl, hrg0, Met.start hM.out, own_nil, by simpa using hsd, hB0, by omega⟩
      case round =>
        obtain ⟨left, cnt, o, A', c', rfl, hrg, hmet, ho, hcnt, hB, hsz⟩ := hrel
        go_wp2_with (at_next; refine wpList_next_mail rfl _ rfl w.heap.size r k D left cnt rfl hrg ?_ ?_)
        · intro hl0
          have hol : o.length ≤ 1000000000 := by omega
          have hall := Lib.hid (hmet.out.all (fun y hy => hf y (mem_combine hy)) hl0)
          have hnd := Lib.hid hmet.out.nodup
          clear hrg hmet hl0
          go_wp2_with (fail)
          refine (sort_c ho hol).mono ?_
          rintro e w3 ⟨rfl, d', hp, hs, ho3, hg3⟩
          have hd : Hid (d' = combine ms) := sorted_is (combine_comb ms).1 hall.out hnd.out hp hs
          have hlen : Hid ((combine ms).length = o.length) := by rw [← hd.out]; exact hp.length_eq
          clear hp hs
          go_wp2_with (fail)
          go_ret
          refine ⟨A', o.length, c', rfl, hlen.out, ?_, ?_⟩
          · rw [← hd.out]; exact own_more ho3 (by omega)
          · exact hB.grown hg3 hB.size (fun j hj => by
              cases hA : A' with
              | none => rw [hA] at hj; cases hj
              | some a => rw [hA] at hj; have := (own_lt ho a hA).1; simp at hj; omega)
        · intro x c2 kl w1 cnt1 hkey hlk hat hrg1 hlt1 hg1 hs1 hen
          have hst := Lib.hid (hmet.out.step hM.out (combine_comb ms).1 hkey.out hlk.out hat.out)
          have ho1 : w1.ownsRow (r + 1) 79 4 (.slice A' o.length c') o.length (mv o) := own_only ho hg1 (fun a ha e => by have := (own_lt ho a ha).1; injection e; omega)
          have hsz1 : r + 1 ≤ w1.heap.size := by omega
          have hB1 : Below w.heap.size w w1 := hB.grown hg1 hB.size (fun j hj => by injection hj; omega)
          have HL := Lib.hid hrg.left_eq
          clear hs1 hkey hlk hat hmet hrg hg1 ho
          go_wp2_with (at_builtin; go_must (refine wpList_cat elMail rfl _ _ rfl ((ho1.alloc _).alloc _) rfl (reads_box2 w1 _ c2) rfl (mc_one c2) (by unfold maxLen; omega) (by omega) (by simp; omega) ?_; intro A4 c4 w4 ho4 p4))
          have hrg4 := ((hrg1.alloc _).alloc _).kept p4.grown (fun e => by
              cases hA : A' with
              | none => rw [hA] at e; cases e
              | some a => rw [hA] at e; have := (own_lt ho1 a hA).1; simp at e; omega) (fun e => by
              cases hA : A' with
              | none => rw [hA] at e; cases e
              | some a => rw [hA] at e; have := (own_lt ho1 a hA).1; simp at e; omega)
          have hl : (o ++ [c2]).length = o.length + 1 := by simp
          go_roundw
          case rel =>
            refine ⟨_, cnt1, o ++ [c2], A4, c4, by rw [hl], hrg4, hst.out.2.2, ?_, by rw [hl]; omega, ?_, ?_⟩
            · rw [hl, mv_append, show mv [c2] = mc c2 by simp [mv]]; exact ho4
            · exact p4.below ((ho1.alloc _).alloc _) ((hB1.alloc hB1.size _).alloc (by simp; have := hB1.size; omega) _) (by omega) (by simp; have := hB1.size; omega)
            · have := p4.larger; simp at this; omega
          case measure => rw [hrg4.left_eq, HL.out]; exact hlt1
end Go.Proofs.YtpdnipabaimofaaGreat
