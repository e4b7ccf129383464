/-
  The reference's Next where rows and state are right: the walk. (Printed by genref18.py.)
-/
import Derived.Test.YtichoidkemeibaaGreatJ19
import Derived.Deep.RegionHeld3
namespace Go.Proofs.YtichoidkemeibaaGreat
open Go.RowKit

/-- The boxes, and the key's. -/
structure Nx2 (w : World) (q : QuA) (a : RwA) (x : Msg) (b : Nat) (W : World) : Prop where
  at_ : NxAt w q a x W
  k_ : W.heap[b]? = some (.cells #[.int .i64 x.slot, .int .i64 x.dir, .int .i64 x.v] 41 (0, 0))
section
variable {w W W' : World} {q : QuA} {a : RwA} {x : Msg} {b : Nat}
theorem Nx2.step (h : Nx2 w q a x b W) (hB : Below W.heap.size W W') : Nx2 w q a x b W' := ⟨h.at_.step hB, (hB.block _ (Array.getElem?_eq_some_iff.1 h.k_).1).trans h.k_⟩
theorem Nx2.kc (h : Nx2 w q a x b W) : W.cell? ⟨b, 0, none⟩ = some (.int .i64 x.slot) ∧ W.cell? ⟨b, 1, none⟩ = some (.int .i64 x.dir) ∧ W.cell? ⟨b, 2, none⟩ = some (.int .i64 x.v) := by
  refine ⟨?_, ?_, ?_⟩ <;> · rw [Lib.cell_of_heap h.k_]; rfl
theorem nx2_new (h : NxAt w q a x W) : Nx2 w q a x W.heap.size (W.alloc (.cells #[.int .i64 x.slot, .int .i64 x.dir, .int .i64 x.v] 41)) := ⟨h.step (below_one _ _), W.alloc_heap_new _⟩
end

set_option maxRecDepth 100000 in
set_option maxHeartbeats 8000000 in
theorem next18_c (q : QuA) (a : RwA) (x : Msg) (w : World) (h : RwIn w w.heap.size a) (hc : chkR a.r) (hd : x.dir = 0 ∨ x.dir = 1) (hv : 0 ≤ x.v ∧ x.v < (a.r.n : Int)) (hxd : 0 ≤ x.d ∧ x.d ≤ 200) :
    Calls Tryz.prog 59 #[quVal q, rwVal a, mval x] w fun e w' => ∃ A' k c', e = .returned (.tuple #[.slice A' k c', .int .i64 0]) ∧ k = (nxM q.kind q.radius a.r x).length ∧ w'.ownsRow w.heap.size 44 4 (.slice A' k c') k (mv (nxM q.kind q.radius a.r x)) ∧ Below w.heap.size w w' := by
  show Calls Tryz.prog 59 #[.agg #[.int .i64 q.kind, .int .i64 q.src, .int .i64 q.dst, .slice q.W q.nw q.cw, .int .i64 q.radius, .int .i64 q.most], .agg #[.slice a.A1 a.n1 a.c1, .slice a.A2 a.n2 a.c2, .slice a.A3 a.n3 a.c3, .slice a.A4 a.n4 a.c4], .agg #[.int .i64 x.slot, .int .i64 x.dir, .int .i64 x.v, .int .i64 x.d]] w _
  obtain ⟨s, dir, xv, d⟩ := x
  obtain ⟨v, rfl⟩ : ∃ v : Nat, xv = (v : Int) := ⟨xv.toNat, by simp only at hv; omega⟩
  have hvn : v < a.r.n := by simp only at hv; omega
  have g1 : ¬ d < 0 := by simp only at hxd; omega
  have g2 : ¬ (200 : Int) < d := by simp only at hxd; omega
  have g3 : ¬ (v : Int) < 0 := by omega
  have g4 : ¬ ((a.n1 : Int) - 1 ≤ (v : Int)) := by
    have h1 := h.off.int_len
    have h2 := hvn
    unfold Rws.n at h2
    omega
  have hm1 := h.m1
  unfold maxLen at hm1
  have HR := Lib.hid h
  have HC := Lib.hid hc
  clear hv hxd h hc
  simp only at hd ⊢
  rcases hd with rfl | rfl
  · have hx := nxAt_new w q a ⟨s, 0, (v : Int), d⟩
    obtain ⟨r0, r1, r2, r3⟩ := hx.rc
    obtain ⟨x0, x1, x2, x3⟩ := hx.xc
    unfold quBox rwBox stBox at r0 r1 r2 r3 x0 x1 x2 x3
    have HX := Lib.hid hx
    clear hx
    go_enter Tryz.func59, Tryz.ntmps59
    go_wp2_with (fail)
    refine (check04_c a _ (HX.out.rw_ HR.out)).mono ?_
    rintro e w1 ⟨rfl, hB1⟩
    rw [decide_eq_true HC.out]
    have HX1 := Lib.hid (HX.out.step hB1)
    have HX2 := Lib.hid (nx2_new HX1.out)
    clear hB1 r0 r1 r2 r3 x0 x1 x2 x3
    obtain ⟨r0, r1, r2, r3⟩ := HX1.out.rc
    obtain ⟨x0, x1, x2, x3⟩ := HX1.out.xc
    obtain ⟨q0, q4⟩ := HX1.out.qc
    have hsz : w.heap.size + 2 < w1.heap.size := HX1.out.lt
    have hsz1 : w.heap.size + 1 < w1.heap.size := by omega
    have hsz0 : w.heap.size < w1.heap.size := by omega
    have k0 : True := trivial
    have k1 : True := trivial
    have k2 : True := trivial
    by_cases hk3 : q.kind = 3
    · have hk3' : (q.kind == 3) = true := by simpa using hk3
      by_cases hrad : q.radius ≤ d
      · have hnil : Hid (nxM q.kind q.radius a.r ⟨s, 0, (v : Int), d⟩ = []) := if_pos ⟨hk3, hrad⟩
        go_wp2_with (fail)
        go_ret2
        exact ⟨none, 0, 0, rfl, by rw [hnil.out]; rfl, by rw [hnil.out]; exact own_nil, HX2.out.at_.bel⟩
      · have hmap : Hid (nxM q.kind q.radius a.r ⟨s, 0, (v : Int), d⟩ = (rowR a.r.off a.r.to v).map fun u => ⟨s, 0, u, d + 1⟩) := if_neg (fun h => hrad h.2)
        go_wp2_with (fail)
        refine (out04_c a v _ (HX2.out.at_.rw_ HR.out) HC.out hvn).mono ?_
        rintro e w3 ⟨A1, k9, d1, rfl, hk1, ho1, hB1⟩
        have HX3 := Lib.hid (HX2.out.step hB1)
        have HO3 := Lib.hid (own_reads ho1)
        have Hk9 := Lib.hid hk1
        have hk9 : k9 ≤ 2000 := by rw [hk1]; exact Nat.le_trans (row_len_le _ _ _) HC.out.2.2.1.1.2.1
        clear hsz hsz0 hsz1 hk1 ho1 hB1 r0 r1 r2 r3 q0 q4 x0 x1 x2 x3 k0 k1 k2
        obtain ⟨r0, r1, r2, r3⟩ := HX3.out.at_.rc
        obtain ⟨x0, x1, x2, x3⟩ := HX3.out.at_.xc
        obtain ⟨q0, q4⟩ := HX3.out.at_.qc
        obtain ⟨k0, k1, k2⟩ := HX3.out.kc
        go_wp2_with (fail)
        clear r0 r1 r2 r3 q0 q4 x0 x1 x2 x3 k0 k1 k2
        go_loopw [14, 13] (fun i out wr => ∃ (j : Nat) (A : Option Addr) (c : Nat), j ≤ k9 ∧ i = .int .i64 j ∧ out = .slice A j c ∧ wr.ownsRow w3.heap.size 44 4 (.slice A j c) j (mv (((rowR a.r.off a.r.to v).take j).map fun u => ⟨s, 0, u, d + 1⟩)) ∧ Below w3.heap.size w3 wr) (fun i _ _ => k9 - (intOf i).toNat)
        case atStart => exact ⟨0, none, 0, Nat.zero_le _, rfl, rfl, by simpa [mv] using own_nil, Below.refl _ _⟩
        case round =>
          obtain ⟨j, A, c, hj, rfl, rfl, ho, hB⟩ := hrel
          by_cases hlt : j < k9
          · obtain ⟨b, o, z, rfl, hz, d0⟩ := (HO3.out.below hB).int_at (k := j) hlt
            have HZ := Lib.hid hz.out
            have hx3 := HX3.out.step hB
            obtain ⟨x0, x1, x2, x3⟩ := hx3.at_.xc
            obtain ⟨k0, k1, k2⟩ := hx3.kc
            have HB := Lib.hid hB
            have HO := Lib.hid ho
            clear hz hx3 ho hB
            have f1 : (0 : Int) ≤ (j : Int) := by omega
            have f2 : (j : Int) < (k9 : Int) := by omega
            go_wp2_with (fail)
            have HAO : Hid (∀ ob : Obj, (wr.alloc ob).drew.cell? ⟨w1.heap.size, 0, none⟩ = some (.int .i64 s) ∧ (wr.alloc ob).drew.cell? ⟨w1.heap.size, 1, none⟩ = some (.int .i64 0) ∧ (wr.alloc ob).drew.cell? ⟨b, o + j, none⟩ = some (.int .i64 z) ∧ (wr.alloc ob).drew.cell? ⟨w.heap.size + 2, 3, none⟩ = some (.int .i64 d)) := fun ob =>
              ⟨((below_one wr ob).cell (block_lt_of_cell k0)).trans k0, ((below_one wr ob).cell (block_lt_of_cell k1)).trans k1, ((below_one wr ob).cell (block_lt_of_cell d0)).trans d0, ((below_one wr ob).cell (block_lt_of_cell x3)).trans x3⟩
            have HPO : Hid (∀ w4 : World, Below w3.heap.size w3 w4 → w4.cell? ⟨w1.heap.size, 0, none⟩ = some (.int .i64 s) ∧ w4.cell? ⟨w1.heap.size, 1, none⟩ = some (.int .i64 0) ∧ w4.cell? ⟨b, o + j, none⟩ = some (.int .i64 z) ∧ w4.cell? ⟨w.heap.size + 2, 3, none⟩ = some (.int .i64 d)) := fun w4 hB4 => by
              obtain ⟨y0, y1, y2⟩ := (HX3.out.step hB4).kc
              obtain ⟨z0, z1, z2, z3⟩ := (HX3.out.step hB4).at_.xc
              obtain ⟨b', o', z', e', hz', d'⟩ := (HO3.out.below hB4).int_at (k := j) hlt
              have hzz := HZ.out
              cases e'
              rw [hz'.out] at hzz
              cases hzz
              exact ⟨y0, y1, d', z3⟩
            have hj1 : j + 1 ≤ maxLen := by unfold maxLen; omega
            have hj2 : (j + 1) * 32 ≤ 140737488355328 := by omega
            have f3 : IntKind.i64.wrap (d + 1) = d + 1 := IntWalk.i64_in _ (by omega)
            go_region_held3 (fun W : World => W.cell? ⟨w1.heap.size, 0, none⟩ = some (.int .i64 s) ∧ W.cell? ⟨w1.heap.size, 1, none⟩ = some (.int .i64 0) ∧ W.cell? ⟨b, o + j, none⟩ = some (.int .i64 z) ∧ W.cell? ⟨w.heap.size + 2, 3, none⟩ = some (.int .i64 d)) (first | exact ⟨k0, k1, d0, x3⟩ | exact HAO.out _ | exact HPO.out _ (p4.below HO.out HB.out (Nat.le_refl _) HB.out.size))
              ((refine step_push_drew elMail rfl (.tmp 86) (.tmp 100) rfl HO.out rfl _ rfl rfl (mc_one ⟨s, 0, z, d + 1⟩) hj1 hj2 HB.out.size ?_; intro A4 c4 w4 hoo4 p4))
            all_goals
              have hB4 := Lib.hid (p4.below HO.out HB.out (Nat.le_refl _) HB.out.size)
              have hO4 := Lib.hid hoo4
              clear f3 p4 hoo4 d0 x0 x1 x2 x3 k0 k1 k2
              go_wp2_with (fail)
              go_roundw
              case rel =>
                refine ⟨j + 1, A4, c4, by omega, by go_num, rfl, ?_, hB4.out⟩
                rw [List.take_add_one, HZ.out, Option.toList_some, List.map_append, mv_append]
                simpa [mv, mc] using hO4.out
              case measure => simp [intOf]; omega
          · obtain rfl : j = k9 := by omega
            have HB := Lib.hid hB
            have HO : Hid (wr.ownsRow w.heap.size 44 4 (.slice A j c) j (mv (nxM q.kind q.radius a.r ⟨s, 0, (v : Int), d⟩))) := by
              rw [List.take_of_length_le (by rw [Hk9.out]; exact Nat.le_refl _), ← hmap.out] at ho
              exact own_more ho HX3.out.at_.bel.size
            have HL : Hid (j = (nxM q.kind q.radius a.r ⟨s, 0, (v : Int), d⟩).length) := by show _ = _; rw [hmap.out, List.length_map]; exact Hk9.out
            clear ho hB
            go_wp2_with (fail)
            go_ret2
            exact ⟨A, _, c, rfl, HL.out, HO.out, (HX3.out.at_.bel.trans (HB.out.mono HX3.out.at_.bel.size))⟩
    · have hk3' : (q.kind == 3) = false := by simpa using hk3
      have hmap : Hid (nxM q.kind q.radius a.r ⟨s, 0, (v : Int), d⟩ = (rowR a.r.off a.r.to v).map fun u => ⟨s, 0, u, d + 1⟩) := if_neg (fun h => hk3 h.1)
      go_wp2_with (fail)
      refine (out04_c a v _ (HX2.out.at_.rw_ HR.out) HC.out hvn).mono ?_
      rintro e w3 ⟨A1, k9, d1, rfl, hk1, ho1, hB1⟩
      have HX3 := Lib.hid (HX2.out.step hB1)
      have HO3 := Lib.hid (own_reads ho1)
      have Hk9 := Lib.hid hk1
      have hk9 : k9 ≤ 2000 := by rw [hk1]; exact Nat.le_trans (row_len_le _ _ _) HC.out.2.2.1.1.2.1
      clear hsz hsz0 hsz1 hk1 ho1 hB1 r0 r1 r2 r3 q0 q4 x0 x1 x2 x3 k0 k1 k2
      obtain ⟨r0, r1, r2, r3⟩ := HX3.out.at_.rc
      obtain ⟨x0, x1, x2, x3⟩ := HX3.out.at_.xc
      obtain ⟨q0, q4⟩ := HX3.out.at_.qc
      obtain ⟨k0, k1, k2⟩ := HX3.out.kc
      go_wp2_with (fail)
      clear r0 r1 r2 r3 q0 q4 x0 x1 x2 x3 k0 k1 k2
      go_loopw [14, 13] (fun i out wr => ∃ (j : Nat) (A : Option Addr) (c : Nat), j ≤ k9 ∧ i = .int .i64 j ∧ out = .slice A j c ∧ wr.ownsRow w3.heap.size 44 4 (.slice A j c) j (mv (((rowR a.r.off a.r.to v).take j).map fun u => ⟨s, 0, u, d + 1⟩)) ∧ Below w3.heap.size w3 wr) (fun i _ _ => k9 - (intOf i).toNat)
      case atStart => exact ⟨0, none, 0, Nat.zero_le _, rfl, rfl, by simpa [mv] using own_nil, Below.refl _ _⟩
      case round =>
        obtain ⟨j, A, c, hj, rfl, rfl, ho, hB⟩ := hrel
        by_cases hlt : j < k9
        · obtain ⟨b, o, z, rfl, hz, d0⟩ := (HO3.out.below hB).int_at (k := j) hlt
          have HZ := Lib.hid hz.out
          have hx3 := HX3.out.step hB
          obtain ⟨x0, x1, x2, x3⟩ := hx3.at_.xc
          obtain ⟨k0, k1, k2⟩ := hx3.kc
          have HB := Lib.hid hB
          have HO := Lib.hid ho
          clear hz hx3 ho hB
          have f1 : (0 : Int) ≤ (j : Int) := by omega
          have f2 : (j : Int) < (k9 : Int) := by omega
          go_wp2_with (fail)
          have HAO : Hid (∀ ob : Obj, (wr.alloc ob).drew.cell? ⟨w1.heap.size, 0, none⟩ = some (.int .i64 s) ∧ (wr.alloc ob).drew.cell? ⟨w1.heap.size, 1, none⟩ = some (.int .i64 0) ∧ (wr.alloc ob).drew.cell? ⟨b, o + j, none⟩ = some (.int .i64 z) ∧ (wr.alloc ob).drew.cell? ⟨w.heap.size + 2, 3, none⟩ = some (.int .i64 d)) := fun ob =>
            ⟨((below_one wr ob).cell (block_lt_of_cell k0)).trans k0, ((below_one wr ob).cell (block_lt_of_cell k1)).trans k1, ((below_one wr ob).cell (block_lt_of_cell d0)).trans d0, ((below_one wr ob).cell (block_lt_of_cell x3)).trans x3⟩
          have HPO : Hid (∀ w4 : World, Below w3.heap.size w3 w4 → w4.cell? ⟨w1.heap.size, 0, none⟩ = some (.int .i64 s) ∧ w4.cell? ⟨w1.heap.size, 1, none⟩ = some (.int .i64 0) ∧ w4.cell? ⟨b, o + j, none⟩ = some (.int .i64 z) ∧ w4.cell? ⟨w.heap.size + 2, 3, none⟩ = some (.int .i64 d)) := fun w4 hB4 => by
            obtain ⟨y0, y1, y2⟩ := (HX3.out.step hB4).kc
            obtain ⟨z0, z1, z2, z3⟩ := (HX3.out.step hB4).at_.xc
            obtain ⟨b', o', z', e', hz', d'⟩ := (HO3.out.below hB4).int_at (k := j) hlt
            have hzz := HZ.out
            cases e'
            rw [hz'.out] at hzz
            cases hzz
            exact ⟨y0, y1, d', z3⟩
          have hj1 : j + 1 ≤ maxLen := by unfold maxLen; omega
          have hj2 : (j + 1) * 32 ≤ 140737488355328 := by omega
          have f3 : IntKind.i64.wrap (d + 1) = d + 1 := IntWalk.i64_in _ (by omega)
          go_region_held3 (fun W : World => W.cell? ⟨w1.heap.size, 0, none⟩ = some (.int .i64 s) ∧ W.cell? ⟨w1.heap.size, 1, none⟩ = some (.int .i64 0) ∧ W.cell? ⟨b, o + j, none⟩ = some (.int .i64 z) ∧ W.cell? ⟨w.heap.size + 2, 3, none⟩ = some (.int .i64 d)) (first | exact ⟨k0, k1, d0, x3⟩ | exact HAO.out _ | exact HPO.out _ (p4.below HO.out HB.out (Nat.le_refl _) HB.out.size))
            ((refine step_push_drew elMail rfl (.tmp 86) (.tmp 100) rfl HO.out rfl _ rfl rfl (mc_one ⟨s, 0, z, d + 1⟩) hj1 hj2 HB.out.size ?_; intro A4 c4 w4 hoo4 p4))
          all_goals
            have hB4 := Lib.hid (p4.below HO.out HB.out (Nat.le_refl _) HB.out.size)
            have hO4 := Lib.hid hoo4
            clear f3 p4 hoo4 d0 x0 x1 x2 x3 k0 k1 k2
            go_wp2_with (fail)
            go_roundw
            case rel =>
              refine ⟨j + 1, A4, c4, by omega, by go_num, rfl, ?_, hB4.out⟩
              rw [List.take_add_one, HZ.out, Option.toList_some, List.map_append, mv_append]
              simpa [mv, mc] using hO4.out
            case measure => simp [intOf]; omega
        · obtain rfl : j = k9 := by omega
          have HB := Lib.hid hB
          have HO : Hid (wr.ownsRow w.heap.size 44 4 (.slice A j c) j (mv (nxM q.kind q.radius a.r ⟨s, 0, (v : Int), d⟩))) := by
            rw [List.take_of_length_le (by rw [Hk9.out]; exact Nat.le_refl _), ← hmap.out] at ho
            exact own_more ho HX3.out.at_.bel.size
          have HL : Hid (j = (nxM q.kind q.radius a.r ⟨s, 0, (v : Int), d⟩).length) := by show _ = _; rw [hmap.out, List.length_map]; exact Hk9.out
          clear ho hB
          go_wp2_with (fail)
          go_ret2
          exact ⟨A, _, c, rfl, HL.out, HO.out, (HX3.out.at_.bel.trans (HB.out.mono HX3.out.at_.bel.size))⟩
  · have hx := nxAt_new w q a ⟨s, 1, (v : Int), d⟩
    obtain ⟨r0, r1, r2, r3⟩ := hx.rc
    obtain ⟨x0, x1, x2, x3⟩ := hx.xc
    unfold quBox rwBox stBox at r0 r1 r2 r3 x0 x1 x2 x3
    have HX := Lib.hid hx
    clear hx
    go_enter Tryz.func59, Tryz.ntmps59
    go_wp2_with (fail)
    refine (check04_c a _ (HX.out.rw_ HR.out)).mono ?_
    rintro e w1 ⟨rfl, hB1⟩
    rw [decide_eq_true HC.out]
    have HX1 := Lib.hid (HX.out.step hB1)
    have HX2 := Lib.hid (nx2_new HX1.out)
    clear hB1 r0 r1 r2 r3 x0 x1 x2 x3
    obtain ⟨r0, r1, r2, r3⟩ := HX1.out.rc
    obtain ⟨x0, x1, x2, x3⟩ := HX1.out.xc
    obtain ⟨q0, q4⟩ := HX1.out.qc
    have hsz : w.heap.size + 2 < w1.heap.size := HX1.out.lt
    have hsz1 : w.heap.size + 1 < w1.heap.size := by omega
    have hsz0 : w.heap.size < w1.heap.size := by omega
    have k0 : True := trivial
    have k1 : True := trivial
    have k2 : True := trivial
    by_cases hk3 : q.kind = 3
    · have hk3' : (q.kind == 3) = true := by simpa using hk3
      by_cases hrad : q.radius ≤ d
      · have hnil : Hid (nxM q.kind q.radius a.r ⟨s, 1, (v : Int), d⟩ = []) := if_pos ⟨hk3, hrad⟩
        go_wp2_with (fail)
        go_ret2
        exact ⟨none, 0, 0, rfl, by rw [hnil.out]; rfl, by rw [hnil.out]; exact own_nil, HX2.out.at_.bel⟩
      · have hmap : Hid (nxM q.kind q.radius a.r ⟨s, 1, (v : Int), d⟩ = (rowR a.r.roff a.r.rev v).map fun u => ⟨s, 1, u, d + 1⟩) := if_neg (fun h => hrad h.2)
        go_wp2_with (fail)
        refine (out04_c a v _ (HX2.out.at_.rw_ HR.out) HC.out hvn).mono ?_
        rintro e w3 ⟨A1, k9, d1, rfl, hk1, ho1, hB1⟩
        have HX5 := Lib.hid (HX2.out.step hB1)
        clear hsz hsz0 hsz1 hk1 ho1 hB1 r0 r1 r2 r3 q0 q4 x0 x1 x2 x3 k0 k1 k2
        obtain ⟨r0, r1, r2, r3⟩ := HX5.out.at_.rc
        obtain ⟨x0, x1, x2, x3⟩ := HX5.out.at_.xc
        obtain ⟨q0, q4⟩ := HX5.out.at_.qc
        obtain ⟨k0, k1, k2⟩ := HX5.out.kc
        go_wp2_with (fail)
        refine (in04R_c a v _ (HX5.out.at_.rw_ HR.out) HC.out hvn).mono ?_
        rintro e w5 ⟨A2, k8, d2, rfl, hk2, ho2, hB2⟩
        have HX3 := Lib.hid (HX5.out.step hB2)
        have HO3 := Lib.hid (own_reads ho2)
        have Hk8 := Lib.hid hk2
        have hk8 : k8 ≤ 2000 := by rw [hk2]; exact Nat.le_trans (row_len_le _ _ _) HC.out.2.2.2.1.1.2.1
        clear hk2 ho2 hB2 r0 r1 r2 r3 q0 q4 x0 x1 x2 x3 k0 k1 k2
        obtain ⟨r0, r1, r2, r3⟩ := HX3.out.at_.rc
        obtain ⟨x0, x1, x2, x3⟩ := HX3.out.at_.xc
        obtain ⟨q0, q4⟩ := HX3.out.at_.qc
        obtain ⟨k0, k1, k2⟩ := HX3.out.kc
        go_wp2_with (fail)
        clear r0 r1 r2 r3 q0 q4 x0 x1 x2 x3 k0 k1 k2
        go_loopw [14, 13] (fun i out wr => ∃ (j : Nat) (A : Option Addr) (c : Nat), j ≤ k8 ∧ i = .int .i64 j ∧ out = .slice A j c ∧ wr.ownsRow w5.heap.size 44 4 (.slice A j c) j (mv (((rowR a.r.roff a.r.rev v).take j).map fun u => ⟨s, 1, u, d + 1⟩)) ∧ Below w5.heap.size w5 wr) (fun i _ _ => k8 - (intOf i).toNat)
        case atStart => exact ⟨0, none, 0, Nat.zero_le _, rfl, rfl, by simpa [mv] using own_nil, Below.refl _ _⟩
        case round =>
          obtain ⟨j, A, c, hj, rfl, rfl, ho, hB⟩ := hrel
          by_cases hlt : j < k8
          · obtain ⟨b, o, z, rfl, hz, d0⟩ := (HO3.out.below hB).int_at (k := j) hlt
            have HZ := Lib.hid hz.out
            have hx3 := HX3.out.step hB
            obtain ⟨x0, x1, x2, x3⟩ := hx3.at_.xc
            obtain ⟨k0, k1, k2⟩ := hx3.kc
            have HB := Lib.hid hB
            have HO := Lib.hid ho
            clear hz hx3 ho hB
            have f1 : (0 : Int) ≤ (j : Int) := by omega
            have f2 : (j : Int) < (k8 : Int) := by omega
            go_wp2_with (fail)
            have HAO : Hid (∀ ob : Obj, (wr.alloc ob).drew.cell? ⟨w1.heap.size, 0, none⟩ = some (.int .i64 s) ∧ (wr.alloc ob).drew.cell? ⟨w1.heap.size, 1, none⟩ = some (.int .i64 1) ∧ (wr.alloc ob).drew.cell? ⟨b, o + j, none⟩ = some (.int .i64 z) ∧ (wr.alloc ob).drew.cell? ⟨w.heap.size + 2, 3, none⟩ = some (.int .i64 d)) := fun ob =>
              ⟨((below_one wr ob).cell (block_lt_of_cell k0)).trans k0, ((below_one wr ob).cell (block_lt_of_cell k1)).trans k1, ((below_one wr ob).cell (block_lt_of_cell d0)).trans d0, ((below_one wr ob).cell (block_lt_of_cell x3)).trans x3⟩
            have HPO : Hid (∀ w4 : World, Below w5.heap.size w5 w4 → w4.cell? ⟨w1.heap.size, 0, none⟩ = some (.int .i64 s) ∧ w4.cell? ⟨w1.heap.size, 1, none⟩ = some (.int .i64 1) ∧ w4.cell? ⟨b, o + j, none⟩ = some (.int .i64 z) ∧ w4.cell? ⟨w.heap.size + 2, 3, none⟩ = some (.int .i64 d)) := fun w4 hB4 => by
              obtain ⟨y0, y1, y2⟩ := (HX3.out.step hB4).kc
              obtain ⟨z0, z1, z2, z3⟩ := (HX3.out.step hB4).at_.xc
              obtain ⟨b', o', z', e', hz', d'⟩ := (HO3.out.below hB4).int_at (k := j) hlt
              have hzz := HZ.out
              cases e'
              rw [hz'.out] at hzz
              cases hzz
              exact ⟨y0, y1, d', z3⟩
            have hj1 : j + 1 ≤ maxLen := by unfold maxLen; omega
            have hj2 : (j + 1) * 32 ≤ 140737488355328 := by omega
            have f3 : IntKind.i64.wrap (d + 1) = d + 1 := IntWalk.i64_in _ (by omega)
            go_region_held3 (fun W : World => W.cell? ⟨w1.heap.size, 0, none⟩ = some (.int .i64 s) ∧ W.cell? ⟨w1.heap.size, 1, none⟩ = some (.int .i64 1) ∧ W.cell? ⟨b, o + j, none⟩ = some (.int .i64 z) ∧ W.cell? ⟨w.heap.size + 2, 3, none⟩ = some (.int .i64 d)) (first | exact ⟨k0, k1, d0, x3⟩ | exact HAO.out _ | exact HPO.out _ (p4.below HO.out HB.out (Nat.le_refl _) HB.out.size))
              ((refine step_push_drew elMail rfl (.tmp 86) (.tmp 100) rfl HO.out rfl _ rfl rfl (mc_one ⟨s, 1, z, d + 1⟩) hj1 hj2 HB.out.size ?_; intro A4 c4 w4 hoo4 p4))
            all_goals
              have hB4 := Lib.hid (p4.below HO.out HB.out (Nat.le_refl _) HB.out.size)
              have hO4 := Lib.hid hoo4
              clear f3 p4 hoo4 d0 x0 x1 x2 x3 k0 k1 k2
              go_wp2_with (fail)
              go_roundw
              case rel =>
                refine ⟨j + 1, A4, c4, by omega, by go_num, rfl, ?_, hB4.out⟩
                rw [List.take_add_one, HZ.out, Option.toList_some, List.map_append, mv_append]
                simpa [mv, mc] using hO4.out
              case measure => simp [intOf]; omega
          · obtain rfl : j = k8 := by omega
            have HB := Lib.hid hB
            have HO : Hid (wr.ownsRow w.heap.size 44 4 (.slice A j c) j (mv (nxM q.kind q.radius a.r ⟨s, 1, (v : Int), d⟩))) := by
              rw [List.take_of_length_le (by rw [Hk8.out]; exact Nat.le_refl _), ← hmap.out] at ho
              exact own_more ho HX3.out.at_.bel.size
            have HL : Hid (j = (nxM q.kind q.radius a.r ⟨s, 1, (v : Int), d⟩).length) := by show _ = _; rw [hmap.out, List.length_map]; exact Hk8.out
            clear ho hB
            go_wp2_with (fail)
            go_ret2
            exact ⟨A, _, c, rfl, HL.out, HO.out, (HX3.out.at_.bel.trans (HB.out.mono HX3.out.at_.bel.size))⟩
    · have hk3' : (q.kind == 3) = false := by simpa using hk3
      have hmap : Hid (nxM q.kind q.radius a.r ⟨s, 1, (v : Int), d⟩ = (rowR a.r.roff a.r.rev v).map fun u => ⟨s, 1, u, d + 1⟩) := if_neg (fun h => hk3 h.1)
      go_wp2_with (fail)
      refine (out04_c a v _ (HX2.out.at_.rw_ HR.out) HC.out hvn).mono ?_
      rintro e w3 ⟨A1, k9, d1, rfl, hk1, ho1, hB1⟩
      have HX5 := Lib.hid (HX2.out.step hB1)
      clear hsz hsz0 hsz1 hk1 ho1 hB1 r0 r1 r2 r3 q0 q4 x0 x1 x2 x3 k0 k1 k2
      obtain ⟨r0, r1, r2, r3⟩ := HX5.out.at_.rc
      obtain ⟨x0, x1, x2, x3⟩ := HX5.out.at_.xc
      obtain ⟨q0, q4⟩ := HX5.out.at_.qc
      obtain ⟨k0, k1, k2⟩ := HX5.out.kc
      go_wp2_with (fail)
      refine (in04R_c a v _ (HX5.out.at_.rw_ HR.out) HC.out hvn).mono ?_
      rintro e w5 ⟨A2, k8, d2, rfl, hk2, ho2, hB2⟩
      have HX3 := Lib.hid (HX5.out.step hB2)
      have HO3 := Lib.hid (own_reads ho2)
      have Hk8 := Lib.hid hk2
      have hk8 : k8 ≤ 2000 := by rw [hk2]; exact Nat.le_trans (row_len_le _ _ _) HC.out.2.2.2.1.1.2.1
      clear hk2 ho2 hB2 r0 r1 r2 r3 q0 q4 x0 x1 x2 x3 k0 k1 k2
      obtain ⟨r0, r1, r2, r3⟩ := HX3.out.at_.rc
      obtain ⟨x0, x1, x2, x3⟩ := HX3.out.at_.xc
      obtain ⟨q0, q4⟩ := HX3.out.at_.qc
      obtain ⟨k0, k1, k2⟩ := HX3.out.kc
      go_wp2_with (fail)
      clear r0 r1 r2 r3 q0 q4 x0 x1 x2 x3 k0 k1 k2
      go_loopw [14, 13] (fun i out wr => ∃ (j : Nat) (A : Option Addr) (c : Nat), j ≤ k8 ∧ i = .int .i64 j ∧ out = .slice A j c ∧ wr.ownsRow w5.heap.size 44 4 (.slice A j c) j (mv (((rowR a.r.roff a.r.rev v).take j).map fun u => ⟨s, 1, u, d + 1⟩)) ∧ Below w5.heap.size w5 wr) (fun i _ _ => k8 - (intOf i).toNat)
      case atStart => exact ⟨0, none, 0, Nat.zero_le _, rfl, rfl, by simpa [mv] using own_nil, Below.refl _ _⟩
      case round =>
        obtain ⟨j, A, c, hj, rfl, rfl, ho, hB⟩ := hrel
        by_cases hlt : j < k8
        · obtain ⟨b, o, z, rfl, hz, d0⟩ := (HO3.out.below hB).int_at (k := j) hlt
          have HZ := Lib.hid hz.out
          have hx3 := HX3.out.step hB
          obtain ⟨x0, x1, x2, x3⟩ := hx3.at_.xc
          obtain ⟨k0, k1, k2⟩ := hx3.kc
          have HB := Lib.hid hB
          have HO := Lib.hid ho
          clear hz hx3 ho hB
          have f1 : (0 : Int) ≤ (j : Int) := by omega
          have f2 : (j : Int) < (k8 : Int) := by omega
          go_wp2_with (fail)
          have HAO : Hid (∀ ob : Obj, (wr.alloc ob).drew.cell? ⟨w1.heap.size, 0, none⟩ = some (.int .i64 s) ∧ (wr.alloc ob).drew.cell? ⟨w1.heap.size, 1, none⟩ = some (.int .i64 1) ∧ (wr.alloc ob).drew.cell? ⟨b, o + j, none⟩ = some (.int .i64 z) ∧ (wr.alloc ob).drew.cell? ⟨w.heap.size + 2, 3, none⟩ = some (.int .i64 d)) := fun ob =>
            ⟨((below_one wr ob).cell (block_lt_of_cell k0)).trans k0, ((below_one wr ob).cell (block_lt_of_cell k1)).trans k1, ((below_one wr ob).cell (block_lt_of_cell d0)).trans d0, ((below_one wr ob).cell (block_lt_of_cell x3)).trans x3⟩
          have HPO : Hid (∀ w4 : World, Below w5.heap.size w5 w4 → w4.cell? ⟨w1.heap.size, 0, none⟩ = some (.int .i64 s) ∧ w4.cell? ⟨w1.heap.size, 1, none⟩ = some (.int .i64 1) ∧ w4.cell? ⟨b, o + j, none⟩ = some (.int .i64 z) ∧ w4.cell? ⟨w.heap.size + 2, 3, none⟩ = some (.int .i64 d)) := fun w4 hB4 => by
            obtain ⟨y0, y1, y2⟩ := (HX3.out.step hB4).kc
            obtain ⟨z0, z1, z2, z3⟩ := (HX3.out.step hB4).at_.xc
            obtain ⟨b', o', z', e', hz', d'⟩ := (HO3.out.below hB4).int_at (k := j) hlt
            have hzz := HZ.out
            cases e'
            rw [hz'.out] at hzz
            cases hzz
            exact ⟨y0, y1, d', z3⟩
          have hj1 : j + 1 ≤ maxLen := by unfold maxLen; omega
          have hj2 : (j + 1) * 32 ≤ 140737488355328 := by omega
          have f3 : IntKind.i64.wrap (d + 1) = d + 1 := IntWalk.i64_in _ (by omega)
          go_region_held3 (fun W : World => W.cell? ⟨w1.heap.size, 0, none⟩ = some (.int .i64 s) ∧ W.cell? ⟨w1.heap.size, 1, none⟩ = some (.int .i64 1) ∧ W.cell? ⟨b, o + j, none⟩ = some (.int .i64 z) ∧ W.cell? ⟨w.heap.size + 2, 3, none⟩ = some (.int .i64 d)) (first | exact ⟨k0, k1, d0, x3⟩ | exact HAO.out _ | exact HPO.out _ (p4.below HO.out HB.out (Nat.le_refl _) HB.out.size))
            ((refine step_push_drew elMail rfl (.tmp 86) (.tmp 100) rfl HO.out rfl _ rfl rfl (mc_one ⟨s, 1, z, d + 1⟩) hj1 hj2 HB.out.size ?_; intro A4 c4 w4 hoo4 p4))
          all_goals
            have hB4 := Lib.hid (p4.below HO.out HB.out (Nat.le_refl _) HB.out.size)
            have hO4 := Lib.hid hoo4
            clear f3 p4 hoo4 d0 x0 x1 x2 x3 k0 k1 k2
            go_wp2_with (fail)
            go_roundw
            case rel =>
              refine ⟨j + 1, A4, c4, by omega, by go_num, rfl, ?_, hB4.out⟩
              rw [List.take_add_one, HZ.out, Option.toList_some, List.map_append, mv_append]
              simpa [mv, mc] using hO4.out
            case measure => simp [intOf]; omega
        · obtain rfl : j = k8 := by omega
          have HB := Lib.hid hB
          have HO : Hid (wr.ownsRow w.heap.size 44 4 (.slice A j c) j (mv (nxM q.kind q.radius a.r ⟨s, 1, (v : Int), d⟩))) := by
            rw [List.take_of_length_le (by rw [Hk8.out]; exact Nat.le_refl _), ← hmap.out] at ho
            exact own_more ho HX3.out.at_.bel.size
          have HL : Hid (j = (nxM q.kind q.radius a.r ⟨s, 1, (v : Int), d⟩).length) := by show _ = _; rw [hmap.out, List.length_map]; exact Hk8.out
          clear ho hB
          go_wp2_with (fail)
          go_ret2
          exact ⟨A, _, c, rfl, HL.out, HO.out, (HX3.out.at_.bel.trans (HB.out.mono HX3.out.at_.bel.size))⟩
end Go.Proofs.YtichoidkemeibaaGreat
