/-
  prog.Next where rows and state are right: the walk.
  What Step asks ahead of its rounds: small walks.
-/
import Derived.Test.YtichoidkemeibaaGreatJ04
import Derived.Test.YtichoidkemeibaaGreatJ01
import Derived.Test.YtichoidkemeibaaGreatJ07
import Derived.Test.YtichoidkemeibaaGreatJ08
import Derived.Test.YtichoidkemeibaaGreatJ09
namespace Go.Proofs.YtichoidkemeibaaGreat
open Go.RowKit

/-- A query as an argument (its words are of no matter here). -/
structure QuA where
  kind : Int
  src : Int
  dst : Int
  W : Option Addr
  nw : Nat
  cw : Nat
  radius : Int
  most : Int
def quVal (q : QuA) : Value := .agg #[.int .i64 q.kind, .int .i64 q.src, .int .i64 q.dst, .slice q.W q.nw q.cw, .int .i64 q.radius, .int .i64 q.most]
def quBox (q : QuA) : Obj := .cells #[.int .i64 q.kind, .int .i64 q.src, .int .i64 q.dst, .slice q.W q.nw q.cw, .int .i64 q.radius, .int .i64 q.most] 24
def rwBox (a : RwA) : Obj := .cells #[.slice a.A1 a.n1 a.c1, .slice a.A2 a.n2 a.c2, .slice a.A3 a.n3 a.c3, .slice a.A4 a.n4 a.c4] 27
def stBox (x : Msg) : Obj := .cells #[.int .i64 x.slot, .int .i64 x.dir, .int .i64 x.v, .int .i64 x.d] 43
/-- What a state sends. -/
def nxRow (r : Rws) (x : Msg) : List Int := rowD r x.dir x.v.toNat
def nxM (kind radius : Int) (r : Rws) (x : Msg) : List Msg := if kind = 3 ∧ radius ≤ x.d then [] else (nxRow r x).map fun v => ⟨x.slot, x.dir, v, x.d + 1⟩

/-- The three boxes that the walk begins with. -/
structure NxAt (w : World) (q : QuA) (a : RwA) (x : Msg) (W : World) : Prop where
  q_ : W.heap[w.heap.size]? = some (quBox q)
  r_ : W.heap[w.heap.size + 1]? = some (rwBox a)
  x_ : W.heap[w.heap.size + 2]? = some (stBox x)
  bel : Below w.heap.size w W
section
variable {w W W' : World} {q : QuA} {a : RwA} {x : Msg}
theorem NxAt.lt (h : NxAt w q a x W) : w.heap.size + 2 < W.heap.size := (Array.getElem?_eq_some_iff.1 h.x_).1
theorem NxAt.step (h : NxAt w q a x W) (hB : Below W.heap.size W W') : NxAt w q a x W' :=
  have hl := h.lt
  ⟨(hB.block _ (by omega)).trans h.q_, (hB.block _ (by omega)).trans h.r_, (hB.block _ (by omega)).trans h.x_, h.bel.trans (hB.mono (by omega))⟩
theorem nxAt_new (w : World) (q : QuA) (a : RwA) (x : Msg) : NxAt w q a x (((w.alloc (quBox q)).alloc (rwBox a)).alloc (stBox x)) := by
  have h1 := (w.alloc (quBox q)).alloc_heap_new (rwBox a)
  have h2 := ((w.alloc (quBox q)).alloc (rwBox a)).alloc_heap_new (stBox x)
  rw [World.size_alloc] at h1
  rw [World.size_alloc, World.size_alloc] at h2
  refine ⟨?_, ?_, h2, ((below_one w _).trans ((below_one _ _).mono (by simp))).trans ((below_one _ _).mono (by simp; omega))⟩
  · rw [Below.heap_alloc _ _ _ (by simp; omega), Below.heap_alloc _ _ _ (by simp)]
    exact w.alloc_heap_new _
  · rw [Below.heap_alloc _ _ _ (by simp)]
    exact h1
theorem NxAt.rw_ (h : NxAt w q a x W) (hr : RwIn w w.heap.size a) : RwIn W W.heap.size a := (hr.below h.bel).more h.bel.size
theorem NxAt.qc (h : NxAt w q a x W) : W.cell? ⟨w.heap.size, 0, none⟩ = some (.int .i64 q.kind) ∧ W.cell? ⟨w.heap.size, 4, none⟩ = some (.int .i64 q.radius) := by
  refine ⟨?_, ?_⟩ <;> · rw [Lib.cell_of_heap h.q_]; rfl
theorem NxAt.rc (h : NxAt w q a x W) : W.cell? ⟨w.heap.size + 1, 0, none⟩ = some (.slice a.A1 a.n1 a.c1) ∧ W.cell? ⟨w.heap.size + 1, 1, none⟩ = some (.slice a.A2 a.n2 a.c2) ∧ W.cell? ⟨w.heap.size + 1, 2, none⟩ = some (.slice a.A3 a.n3 a.c3) ∧ W.cell? ⟨w.heap.size + 1, 3, none⟩ = some (.slice a.A4 a.n4 a.c4) := by
  refine ⟨?_, ?_, ?_, ?_⟩ <;> · rw [Lib.cell_of_heap h.r_]; rfl
theorem NxAt.xc (h : NxAt w q a x W) : W.cell? ⟨w.heap.size + 2, 0, none⟩ = some (.int .i64 x.slot) ∧ W.cell? ⟨w.heap.size + 2, 1, none⟩ = some (.int .i64 x.dir) ∧ W.cell? ⟨w.heap.size + 2, 2, none⟩ = some (.int .i64 x.v) ∧ W.cell? ⟨w.heap.size + 2, 3, none⟩ = some (.int .i64 x.d) := by
  refine ⟨?_, ?_, ?_, ?_⟩ <;> · rw [Lib.cell_of_heap h.x_]; rfl
end

set_option maxRecDepth 100000 in
set_option maxHeartbeats 4000000 in
theorem nextP_c (q : QuA) (a : RwA) (x : Msg) (w : World) (h : RwIn w w.heap.size a) (hc : chkR a.r) (hd : x.dir = 0 ∨ x.dir = 1) (hv : 0 ≤ x.v ∧ x.v < (a.r.n : Int)) (hxd : 0 ≤ x.d ∧ x.d ≤ 200) :
    Calls Tryz.prog 90 #[quVal q, rwVal a, mval x] w fun e w' => ∃ A' k c', e = .returned (.tuple #[.slice A' k c', .int .i64 0]) ∧ k = (nxM q.kind q.radius a.r x).length ∧ w'.ownsRow w.heap.size 44 4 (.slice A' k c') k (mv (nxM q.kind q.radius a.r x)) ∧ Below w.heap.size w w' := by
  show Calls Tryz.prog 90 #[.agg #[.int .i64 q.kind, .int .i64 q.src, .int .i64 q.dst, .slice q.W q.nw q.cw, .int .i64 q.radius, .int .i64 q.most], .agg #[.slice a.A1 a.n1 a.c1, .slice a.A2 a.n2 a.c2, .slice a.A3 a.n3 a.c3, .slice a.A4 a.n4 a.c4], .agg #[.int .i64 x.slot, .int .i64 x.dir, .int .i64 x.v, .int .i64 x.d]] w _
  obtain ⟨s, dir, xv, d⟩ := x
  obtain ⟨v, rfl⟩ : ∃ v : Nat, xv = (v : Int) := ⟨xv.toNat, by simp only at hv; omega⟩
  have hvn : v < a.r.n := by simp only at hv; omega
  have g1 : ¬ d < 0 := by simp only at hxd; omega
  have g2 : ¬ (200 : Int) < d := by simp only at hxd; omega
  have HR := Lib.hid h
  have HC := Lib.hid hc
  clear hv hxd h hc
  simp only at hd ⊢
  rcases hd with rfl | rfl
  · have hx := nxAt_new w q a ⟨s, 0, (v : Int), d⟩
    obtain ⟨r0, r1, r2, r3⟩ := hx.rc
    obtain ⟨x0, x1, x2, x3⟩ := hx.xc
    unfold quBox rwBox stBox at r0 r1 r2 r3 x0 x1 x2 x3
    have HX := Lib.hid hx
    clear hx
    go_enter Tryz.func90, Tryz.ntmps90
    go_wp2_with (fail)
    refine (out_c a v _ (HX.out.rw_ HR.out) HC.out hvn).mono ?_
    rintro e w1 ⟨A1, k1, d1, rfl, hk1, ho1, hB1⟩
    have HX1 := Lib.hid (HX.out.step hB1)
    have HO1 := Lib.hid (own_reads ho1)
    have HK1 := Lib.hid hk1
    clear hk1 ho1 hB1 r0 r1 r2 r3 x0 x1 x2 x3
    obtain ⟨r0, r1, r2, r3⟩ := HX1.out.rc
    go_wp2_with (fail)
    refine (rowsCheck_c a _ (HX1.out.rw_ HR.out)).mono ?_
    rintro e w2 ⟨rfl, hB2⟩
    rw [decide_eq_true HC.out]
    have HX2 := Lib.hid (HX1.out.step hB2)
    have HO2 := Lib.hid ((HO1.out.below hB2).more hB2.size)
    clear hB2 r0 r1 r2 r3 HX1 HO1
    obtain ⟨x0, x1, x2, x3⟩ := HX2.out.xc
    obtain ⟨q0, q4⟩ := HX2.out.qc
    have hk2 : k1 ≤ 2000 := by rw [HK1.out]; exact Nat.le_trans (row_len_le _ _ _) HC.out.2.2.1.1.2.1
    by_cases hk3 : q.kind = 3
    · have hk3' : (q.kind == 3) = true := by simpa using hk3
      by_cases hrad : q.radius ≤ d
      · have hnil : Hid (nxM q.kind q.radius a.r ⟨s, 0, (v : Int), d⟩ = []) := if_pos ⟨hk3, hrad⟩
        go_wp2_with (fail)
        go_ret2
        exact ⟨none, 0, 0, rfl, by rw [hnil.out]; rfl, by rw [hnil.out]; exact own_nil, HX2.out.bel⟩
      · have hmap : Hid (nxM q.kind q.radius a.r ⟨s, 0, (v : Int), d⟩ = (rowR a.r.off a.r.to v).map fun u => ⟨s, 0, u, d + 1⟩) := if_neg (fun h => hrad h.2)
        go_wp2_with (fail)
        go_loopw [69, 11] (fun i out wr => ∃ (j : Nat) (A : Option Addr) (c : Nat), j ≤ k1 ∧ i = .int .i64 j ∧ out = .slice A j c ∧ wr.ownsRow w2.heap.size 44 4 (.slice A j c) j (mv (((rowR a.r.off a.r.to v).take j).map fun u => ⟨s, 0, u, d + 1⟩)) ∧ Below w2.heap.size w2 wr) (fun i _ _ => k1 - (intOf i).toNat)
        case atStart => exact ⟨0, none, 0, Nat.zero_le _, rfl, rfl, by simpa [mv] using own_nil, Below.refl _ _⟩
        case round =>
          obtain ⟨j, A, c, hj, rfl, rfl, ho, hB⟩ := hrel
          clear q0 q4 x0 x1 x2 x3
          by_cases hlt : j < k1
          · obtain ⟨b, o, z, rfl, hz, d0⟩ := (HO2.out.below hB).int_at (k := j) hlt
            have HZ := Lib.hid hz.out
            have hx3 := HX2.out.step hB
            obtain ⟨x0, x1, x2, x3⟩ := hx3.xc
            have HB := Lib.hid hB
            have HO := Lib.hid ho
            clear hz hx3 ho hB
            have f1 : (0 : Int) ≤ (j : Int) := by omega
            have f2 : (j : Int) < (k1 : Int) := by omega
            go_wp2_with (at_builtin; refine wpList_push elMail rfl _ _ rfl HO.out rfl _ rfl rfl (mc_one ⟨s, 0, z, d + 1⟩) (by unfold maxLen; omega) (by omega) HB.out.size ?_; intro A4 c4 w4 hoo4 p4)
            have hB4 := Lib.hid (p4.below HO.out HB.out (Nat.le_refl _) HB.out.size)
            have hO4 := Lib.hid hoo4
            clear p4 hoo4
            go_roundw
            case rel =>
              refine ⟨j + 1, A4, c4, by omega, by go_num, rfl, ?_, hB4.out⟩
              rw [List.take_add_one, HZ.out, Option.toList_some, List.map_append, mv_append]
              simpa [mv, mc] using hO4.out
            case measure => simp [intOf]; omega
          · obtain rfl : j = k1 := by omega
            have HB := Lib.hid hB
            have HO : Hid (wr.ownsRow w.heap.size 44 4 (.slice A j c) j (mv (nxM q.kind q.radius a.r ⟨s, 0, (v : Int), d⟩))) := by
              rw [List.take_of_length_le (by rw [HK1.out]; exact Nat.le_refl _), ← hmap.out] at ho
              exact own_more ho HX2.out.bel.size
            have HL : Hid (j = (nxM q.kind q.radius a.r ⟨s, 0, (v : Int), d⟩).length) := by show _ = _; rw [hmap.out, List.length_map]; exact HK1.out
            clear ho hB
            go_wp2_with (fail)
            go_ret2
            exact ⟨A, _, c, rfl, HL.out, HO.out, (HX2.out.bel.trans (HB.out.mono HX2.out.bel.size))⟩
    · have hk3' : (q.kind == 3) = false := by simpa using hk3
      have hmap : Hid (nxM q.kind q.radius a.r ⟨s, 0, (v : Int), d⟩ = (rowR a.r.off a.r.to v).map fun u => ⟨s, 0, u, d + 1⟩) := if_neg (fun h => hk3 h.1)
      go_wp2_with (fail)
      go_loopw [69, 11] (fun i out wr => ∃ (j : Nat) (A : Option Addr) (c : Nat), j ≤ k1 ∧ i = .int .i64 j ∧ out = .slice A j c ∧ wr.ownsRow w2.heap.size 44 4 (.slice A j c) j (mv (((rowR a.r.off a.r.to v).take j).map fun u => ⟨s, 0, u, d + 1⟩)) ∧ Below w2.heap.size w2 wr) (fun i _ _ => k1 - (intOf i).toNat)
      case atStart => exact ⟨0, none, 0, Nat.zero_le _, rfl, rfl, by simpa [mv] using own_nil, Below.refl _ _⟩
      case round =>
        obtain ⟨j, A, c, hj, rfl, rfl, ho, hB⟩ := hrel
        clear q0 q4 x0 x1 x2 x3
        by_cases hlt : j < k1
        · obtain ⟨b, o, z, rfl, hz, d0⟩ := (HO2.out.below hB).int_at (k := j) hlt
          have HZ := Lib.hid hz.out
          have hx3 := HX2.out.step hB
          obtain ⟨x0, x1, x2, x3⟩ := hx3.xc
          have HB := Lib.hid hB
          have HO := Lib.hid ho
          clear hz hx3 ho hB
          have f1 : (0 : Int) ≤ (j : Int) := by omega
          have f2 : (j : Int) < (k1 : Int) := by omega
          go_wp2_with (at_builtin; refine wpList_push elMail rfl _ _ rfl HO.out rfl _ rfl rfl (mc_one ⟨s, 0, z, d + 1⟩) (by unfold maxLen; omega) (by omega) HB.out.size ?_; intro A4 c4 w4 hoo4 p4)
          have hB4 := Lib.hid (p4.below HO.out HB.out (Nat.le_refl _) HB.out.size)
          have hO4 := Lib.hid hoo4
          clear p4 hoo4
          go_roundw
          case rel =>
            refine ⟨j + 1, A4, c4, by omega, by go_num, rfl, ?_, hB4.out⟩
            rw [List.take_add_one, HZ.out, Option.toList_some, List.map_append, mv_append]
            simpa [mv, mc] using hO4.out
          case measure => simp [intOf]; omega
        · obtain rfl : j = k1 := by omega
          have HB := Lib.hid hB
          have HO : Hid (wr.ownsRow w.heap.size 44 4 (.slice A j c) j (mv (nxM q.kind q.radius a.r ⟨s, 0, (v : Int), d⟩))) := by
            rw [List.take_of_length_le (by rw [HK1.out]; exact Nat.le_refl _), ← hmap.out] at ho
            exact own_more ho HX2.out.bel.size
          have HL : Hid (j = (nxM q.kind q.radius a.r ⟨s, 0, (v : Int), d⟩).length) := by show _ = _; rw [hmap.out, List.length_map]; exact HK1.out
          clear ho hB
          go_wp2_with (fail)
          go_ret2
          exact ⟨A, _, c, rfl, HL.out, HO.out, (HX2.out.bel.trans (HB.out.mono HX2.out.bel.size))⟩
  · have hx := nxAt_new w q a ⟨s, 1, (v : Int), d⟩
    obtain ⟨r0, r1, r2, r3⟩ := hx.rc
    obtain ⟨x0, x1, x2, x3⟩ := hx.xc
    unfold quBox rwBox stBox at r0 r1 r2 r3 x0 x1 x2 x3
    have HX := Lib.hid hx
    clear hx
    go_enter Tryz.func90, Tryz.ntmps90
    go_wp2_with (fail)
    refine (inR_c a v _ (HX.out.rw_ HR.out) HC.out hvn).mono ?_
    rintro e w1 ⟨A1, k1, d1, rfl, hk1, ho1, hB1⟩
    have HX1 := Lib.hid (HX.out.step hB1)
    have HO1 := Lib.hid (own_reads ho1)
    have HK1 := Lib.hid hk1
    clear hk1 ho1 hB1 r0 r1 r2 r3 x0 x1 x2 x3
    obtain ⟨r0, r1, r2, r3⟩ := HX1.out.rc
    go_wp2_with (fail)
    refine (rowsCheck_c a _ (HX1.out.rw_ HR.out)).mono ?_
    rintro e w2 ⟨rfl, hB2⟩
    rw [decide_eq_true HC.out]
    have HX2 := Lib.hid (HX1.out.step hB2)
    have HO2 := Lib.hid ((HO1.out.below hB2).more hB2.size)
    clear hB2 r0 r1 r2 r3 HX1 HO1
    obtain ⟨x0, x1, x2, x3⟩ := HX2.out.xc
    obtain ⟨q0, q4⟩ := HX2.out.qc
    have hk2 : k1 ≤ 2000 := by rw [HK1.out]; exact Nat.le_trans (row_len_le _ _ _) HC.out.2.2.2.1.1.2.1
    by_cases hk3 : q.kind = 3
    · have hk3' : (q.kind == 3) = true := by simpa using hk3
      by_cases hrad : q.radius ≤ d
      · have hnil : Hid (nxM q.kind q.radius a.r ⟨s, 1, (v : Int), d⟩ = []) := if_pos ⟨hk3, hrad⟩
        go_wp2_with (fail)
        go_ret2
        exact ⟨none, 0, 0, rfl, by rw [hnil.out]; rfl, by rw [hnil.out]; exact own_nil, HX2.out.bel⟩
      · have hmap : Hid (nxM q.kind q.radius a.r ⟨s, 1, (v : Int), d⟩ = (rowR a.r.roff a.r.rev v).map fun u => ⟨s, 1, u, d + 1⟩) := if_neg (fun h => hrad h.2)
        go_wp2_with (fail)
        go_loopw [69, 11] (fun i out wr => ∃ (j : Nat) (A : Option Addr) (c : Nat), j ≤ k1 ∧ i = .int .i64 j ∧ out = .slice A j c ∧ wr.ownsRow w2.heap.size 44 4 (.slice A j c) j (mv (((rowR a.r.roff a.r.rev v).take j).map fun u => ⟨s, 1, u, d + 1⟩)) ∧ Below w2.heap.size w2 wr) (fun i _ _ => k1 - (intOf i).toNat)
        case atStart => exact ⟨0, none, 0, Nat.zero_le _, rfl, rfl, by simpa [mv] using own_nil, Below.refl _ _⟩
        case round =>
          obtain ⟨j, A, c, hj, rfl, rfl, ho, hB⟩ := hrel
          clear q0 q4 x0 x1 x2 x3
          by_cases hlt : j < k1
          · obtain ⟨b, o, z, rfl, hz, d0⟩ := (HO2.out.below hB).int_at (k := j) hlt
            have HZ := Lib.hid hz.out
            have hx3 := HX2.out.step hB
            obtain ⟨x0, x1, x2, x3⟩ := hx3.xc
            have HB := Lib.hid hB
            have HO := Lib.hid ho
            clear hz hx3 ho hB
            have f1 : (0 : Int) ≤ (j : Int) := by omega
            have f2 : (j : Int) < (k1 : Int) := by omega
            go_wp2_with (at_builtin; refine wpList_push elMail rfl _ _ rfl HO.out rfl _ rfl rfl (mc_one ⟨s, 1, z, d + 1⟩) (by unfold maxLen; omega) (by omega) HB.out.size ?_; intro A4 c4 w4 hoo4 p4)
            have hB4 := Lib.hid (p4.below HO.out HB.out (Nat.le_refl _) HB.out.size)
            have hO4 := Lib.hid hoo4
            clear p4 hoo4
            go_roundw
            case rel =>
              refine ⟨j + 1, A4, c4, by omega, by go_num, rfl, ?_, hB4.out⟩
              rw [List.take_add_one, HZ.out, Option.toList_some, List.map_append, mv_append]
              simpa [mv, mc] using hO4.out
            case measure => simp [intOf]; omega
          · obtain rfl : j = k1 := by omega
            have HB := Lib.hid hB
            have HO : Hid (wr.ownsRow w.heap.size 44 4 (.slice A j c) j (mv (nxM q.kind q.radius a.r ⟨s, 1, (v : Int), d⟩))) := by
              rw [List.take_of_length_le (by rw [HK1.out]; exact Nat.le_refl _), ← hmap.out] at ho
              exact own_more ho HX2.out.bel.size
            have HL : Hid (j = (nxM q.kind q.radius a.r ⟨s, 1, (v : Int), d⟩).length) := by show _ = _; rw [hmap.out, List.length_map]; exact HK1.out
            clear ho hB
            go_wp2_with (fail)
            go_ret2
            exact ⟨A, _, c, rfl, HL.out, HO.out, (HX2.out.bel.trans (HB.out.mono HX2.out.bel.size))⟩
    · have hk3' : (q.kind == 3) = false := by simpa using hk3
      have hmap : Hid (nxM q.kind q.radius a.r ⟨s, 1, (v : Int), d⟩ = (rowR a.r.roff a.r.rev v).map fun u => ⟨s, 1, u, d + 1⟩) := if_neg (fun h => hk3 h.1)
      go_wp2_with (fail)
      go_loopw [69, 11] (fun i out wr => ∃ (j : Nat) (A : Option Addr) (c : Nat), j ≤ k1 ∧ i = .int .i64 j ∧ out = .slice A j c ∧ wr.ownsRow w2.heap.size 44 4 (.slice A j c) j (mv (((rowR a.r.roff a.r.rev v).take j).map fun u => ⟨s, 1, u, d + 1⟩)) ∧ Below w2.heap.size w2 wr) (fun i _ _ => k1 - (intOf i).toNat)
      case atStart => exact ⟨0, none, 0, Nat.zero_le _, rfl, rfl, by simpa [mv] using own_nil, Below.refl _ _⟩
      case round =>
        obtain ⟨j, A, c, hj, rfl, rfl, ho, hB⟩ := hrel
        clear q0 q4 x0 x1 x2 x3
        by_cases hlt : j < k1
        · obtain ⟨b, o, z, rfl, hz, d0⟩ := (HO2.out.below hB).int_at (k := j) hlt
          have HZ := Lib.hid hz.out
          have hx3 := HX2.out.step hB
          obtain ⟨x0, x1, x2, x3⟩ := hx3.xc
          have HB := Lib.hid hB
          have HO := Lib.hid ho
          clear hz hx3 ho hB
          have f1 : (0 : Int) ≤ (j : Int) := by omega
          have f2 : (j : Int) < (k1 : Int) := by omega
          go_wp2_with (at_builtin; refine wpList_push elMail rfl _ _ rfl HO.out rfl _ rfl rfl (mc_one ⟨s, 1, z, d + 1⟩) (by unfold maxLen; omega) (by omega) HB.out.size ?_; intro A4 c4 w4 hoo4 p4)
          have hB4 := Lib.hid (p4.below HO.out HB.out (Nat.le_refl _) HB.out.size)
          have hO4 := Lib.hid hoo4
          clear p4 hoo4
          go_roundw
          case rel =>
            refine ⟨j + 1, A4, c4, by omega, by go_num, rfl, ?_, hB4.out⟩
            rw [List.take_add_one, HZ.out, Option.toList_some, List.map_append, mv_append]
            simpa [mv, mc] using hO4.out
          case measure => simp [intOf]; omega
        · obtain rfl : j = k1 := by omega
          have HB := Lib.hid hB
          have HO : Hid (wr.ownsRow w.heap.size 44 4 (.slice A j c) j (mv (nxM q.kind q.radius a.r ⟨s, 1, (v : Int), d⟩))) := by
            rw [List.take_of_length_le (by rw [HK1.out]; exact Nat.le_refl _), ← hmap.out] at ho
            exact own_more ho HX2.out.bel.size
          have HL : Hid (j = (nxM q.kind q.radius a.r ⟨s, 1, (v : Int), d⟩).length) := by show _ = _; rw [hmap.out, List.length_map]; exact HK1.out
          clear ho hB
          go_wp2_with (fail)
          go_ret2
          exact ⟨A, _, c, rfl, HL.out, HO.out, (HX2.out.bel.trans (HB.out.mono HX2.out.bel.size))⟩
end Go.Proofs.YtichoidkemeibaaGreat

namespace Go.Proofs.YtichoidkemeibaaGreat
open Go.RowKit

theorem incr_ge : ∀ {l : List Int} {b : Int}, incr l → (∀ w ∈ l, b ≤ w) → ∀ w, l.getLast? = some w → b + (l.length : Int) ≤ w + 1
  | [], _, _, _, w, h => by simp at h
  | [x], b, _, h, w, hw => by
    simp at hw
    subst hw
    have := h x (by simp)
    simp
    omega
  | x :: y :: l, b, hi, h, w, hw => by
    have h1 := incr_ge (l := y :: l) (b := b + 1) hi.2 (fun z hz => by
      have hp := (List.pairwise_cons.1 (incr_lt hi)).1 z hz
      have := h x (by simp)
      omega) w (by rw [List.getLast?_cons_cons] at hw; exact hw)
    simp only [List.length_cons] at h1 ⊢
    omega
theorem good_len {n : Nat} {l : List Int} (h : goodRowI n l) : l.length ≤ n := by
  rcases hl : l.getLast? with _ | w
  · rw [List.getLast?_eq_none_iff] at hl
    rw [hl]; simp
  · have h1 := incr_ge h.2 (b := 0) (fun w hw => (h.1 w hw).1) w hl
    have h2 := (h.1 w (List.mem_of_getLast? hl)).2
    omega
theorem nxRow_len {r : Rws} (hc : chkR r) (x : Msg) (hv : 0 ≤ x.v ∧ x.v < (r.n : Int)) : (nxRow r x).length ≤ 200 := by
  have hn : r.off.length ≤ 201 := hc.2.2.1.1.1.2
  have hx : x.v.toNat < r.n := by omega
  unfold Rws.n at hx
  unfold nxRow rowD
  split
  · have h1 := good_len (hc.2.2.2.1.2 x.v.toNat (List.mem_range.2 (by have := hc.1; omega)))
    have := hc.1
    omega
  · have h1 := good_len (hc.2.2.1.2 x.v.toNat (List.mem_range.2 hx))
    omega
theorem nxM_len {kind radius : Int} {r : Rws} (hc : chkR r) (x : Msg) (hv : 0 ≤ x.v ∧ x.v < (r.n : Int)) : (nxM kind radius r x).length ≤ 200 := by
  unfold nxM
  split
  · simp
  · rw [List.length_map]; exact nxRow_len hc x hv

section
variable (B : Nat) (p : Msg → Bool)
set_option maxRecDepth 100000 in
set_option maxHeartbeats 2000000 in
theorem indexB_c (A : Option Addr) (n c : Nat) (l : List Msg) (w : World) (hr : Reads w w.heap.size 4 A n (mv l)) (hn : n ≤ maxLen)
    (HP : ∀ x ∈ l, ∀ W : World, Below w.heap.size w W → Calls Tryz.prog 43 #[.agg #[.int .i64 x.slot, .int .i64 x.dir, .int .i64 x.v, .int .i64 x.d], .pointer (some ⟨B, 0, none⟩)] W fun e w' => e = .returned (.bool (p x)) ∧ Below W.heap.size W w') :
    Calls Tryz.prog 87 #[.slice A n c, .func (.func 43) #[] #[.pointer (some ⟨B, 0, none⟩)]] w fun e w' => e = .returned (.int .i64 (idxI p l)) ∧ Below w.heap.size w w' := by
  have hl := Lib.hid hr.mail_len
  unfold maxLen at hn
  have HR := Lib.hid hr
  have HPP := Lib.hid HP
  clear hr HP
  go_enter Tryz.func87, Tryz.ntmps87
  go_wp2_with (fail)
  go_loopw [8] (fun i wr => ∃ j : Nat, j ≤ n ∧ i = .int .i64 j ∧ Hid (∀ y ∈ l.take j, p y = false) ∧ Below w.heap.size w wr) (fun i _ => n - (intOf i).toNat)
  case atStart => exact ⟨0, Nat.zero_le _, rfl, fun y hy => by simp at hy, Below.refl _ _⟩
  case round =>
    obtain ⟨j, hj, rfl, hT, hB⟩ := hrel
    by_cases hlt : j < n
    · obtain ⟨b, o, x, rfl, hx, d0, d1, d2, d3⟩ := (HR.out.below hB).mail_at hlt
      have HX := Lib.hid hx.out
      have HB := Lib.hid hB
      clear hx hB
      have f1 : (0 : Int) ≤ (j : Int) := by omega
      have f2 : (j : Int) < (n : Int) := by omega
      go_wp2_with (fail)
      refine (HPP.out x (List.mem_of_getElem? HX.out) wr HB.out).mono ?_
      rintro e w1 ⟨rfl, hB1⟩
      have HB1 := Lib.hid (HB.out.trans (hB1.mono HB.out.size))
      clear hB1 d0 d1 d2 d3
      by_cases hp : p x = true
      · have hi : Hid (idxI p l = (j : Int)) := by show _ = _; unfold idxI; rw [idx_at hT.out HX.out hp]; rfl
        rw [hp]
        go_wp2_with (fail)
        go_ret
        exact ⟨ret_int hi.out.symm, HB1.out⟩
      · have hp' : p x = false := by simpa using hp
        rw [hp']
        have hT' : Hid (∀ y ∈ l.take (j + 1), p y = false) := fun y hy => by
          rw [List.take_add_one, HX.out, Option.toList_some] at hy
          rcases List.mem_append.1 hy with hy | hy
          · exact hT.out y hy
          · rw [List.mem_singleton.1 hy]; exact hp'
        clear hp hp'
        go_wp2_with (fail)
        go_roundw
        case rel => exact ⟨j + 1, by omega, by go_num, hT', HB1.out⟩
        case measure => simp [intOf]; omega
    · obtain rfl : j = n := by omega
      have hi : Hid (idxI p l = -1) := by
        show _ = _
        unfold idxI
        rw [idx_none (fun y hy => hT.out y (by rw [List.take_of_length_le (by rw [hl.out]; exact Nat.le_refl _)]; exact hy))]
        rfl
      go_wp2_with (fail)
      go_ret
      exact ⟨ret_int hi.out.symm, hB⟩

end
theorem idx_any (p : Msg → Bool) (l : List Msg) : decide (0 ≤ idxI p l) = l.any p := by
  unfold idxI
  cases h : l.findIdx? p with
  | none =>
    rw [List.findIdx?_eq_none_iff] at h
    have : l.any p = false := by rw [List.any_eq_false]; intro x hx; rw [h x hx]; exact Bool.false_ne_true
    rw [this]; rfl
  | some i =>
    obtain ⟨h1, h2, -⟩ := List.findIdx?_eq_some_iff_getElem.1 h
    have : l.any p = true := List.any_eq_true.2 ⟨_, List.getElem_mem h1, h2⟩
    rw [this]
    simp

set_option maxRecDepth 100000 in
theorem step1_c (x : Msg) (B : Nat) (m : Int) (W : World) (hc : W.cell? ⟨B, 0, none⟩ = some (.int .i64 m)) :
    Calls Tryz.prog 43 #[.agg #[.int .i64 x.slot, .int .i64 x.dir, .int .i64 x.v, .int .i64 x.d], .pointer (some ⟨B, 0, none⟩)] W fun e w' => e = .returned (.bool (decide (m ≤ x.v))) ∧ Below W.heap.size W w' := by
  have hc' := ((below_one W (.cells #[.int .i64 x.slot, .int .i64 x.dir, .int .i64 x.v, .int .i64 x.d] 44)).cell (p := ⟨B, 0, none⟩) (block_lt_of_cell hc)).trans hc
  clear hc
  go_enter Tryz.func43, Tryz.ntmps43
  go_wp2_with (fail)
  go_ret
  exact ⟨rfl, below_one _ _⟩

set_option maxRecDepth 100000 in
theorem containsB_c (A : Option Addr) (n c B : Nat) (l : List Msg) (m : Int) (w : World) (hr : Reads w w.heap.size 4 A n (mv l)) (hn : n ≤ maxLen) (hB : B < w.heap.size) (hc : w.cell? ⟨B, 0, none⟩ = some (.int .i64 m)) :
    Calls Tryz.prog 47 #[.slice A n c, .func (.func 43) #[] #[.pointer (some ⟨B, 0, none⟩)]] w fun e w' => e = .returned (.bool (l.any fun x => decide (m ≤ x.v))) ∧ Below w.heap.size w w' := by
  have HI := Lib.hid (indexB_c B (fun x => decide (m ≤ x.v)) A n c l w hr hn (fun x _ W hW => step1_c x B m W ((hW.cell (p := ⟨B, 0, none⟩) hB).trans hc)))
  clear hr hc
  go_enter Tryz.func47, Tryz.ntmps47
  go_wp2_with (fail)
  refine Calls.mono HI.out ?_
  rintro e w1 ⟨rfl, hB1⟩
  have HB := Lib.hid hB1
  clear hB1
  generalize hi : idxI (fun x => decide (m ≤ x.v)) l = i
  have HE : Hid (decide (0 ≤ i) = l.any fun x => decide (m ≤ x.v)) := by show _ = _; rw [← hi]; exact idx_any _ _
  clear hi
  go_wp2_with (fail)
  go_ret
  exact ⟨ret_bool HE.out, HB.out⟩

/-- Whether an order is had. -/
theorem order_w (C : Option Addr) (k : Int) (m d : Nat) (ps : List Int) (w : World) (hrp : Reads w w.heap.size 1 C m (iv ps)) (hm : m ≤ maxLen) :
    Calls Tryz.prog 44 #[.int .i64 k, .slice C m d] w fun e w' => ∃ A' n' c', e = .returned (.tuple #[.slice A' n' c', .int .i64 (if 0 ≤ k ∧ k ≤ 1000 then 0 else 1)]) ∧ Below w.heap.size w w' := by
  by_cases hk : 0 ≤ k ∧ k ≤ 1000
  · rw [if_pos hk]
    obtain ⟨q, rfl⟩ : ∃ q : Nat, k = (q : Int) := ⟨k.toNat, by omega⟩
    refine (turnOrder_c C q m d ps w (by omega) hrp hm).mono ?_
    rintro e w' ⟨A', c', rfl, _, hB⟩
    exact ⟨A', q, c', rfl, hB⟩
  · rw [if_neg hk]
    refine (order_no C k m d w (by omega)).mono ?_
    rintro e w' ⟨rfl, rfl⟩
    exact ⟨none, 0, 0, rfl, Below.refl _ _⟩
instance (k : Int) (xs : List Msg) : Decidable (splitOk k xs) := by unfold splitOk allMay; infer_instance
theorem split_w (A : Option Addr) (n c : Nat) (k : Int) (xs : List Msg) (w : World) (hr : Reads w w.heap.size 4 A n (mv xs)) (hn : n ≤ 100000) :
    Calls Tryz.prog 40 #[.slice A n c, .int .i64 k] w fun e w' => ∃ A' n' c', e = .returned (.tuple #[.slice A' n' c', .int .i64 (if splitOk k xs then 0 else 1)]) ∧ Below w.heap.size w w' := by
  by_cases hk : splitOk k xs
  · rw [if_pos hk]
    obtain ⟨q, rfl⟩ : ∃ q : Nat, k = (q : Int) := ⟨k.toNat, by have := hk.1; omega⟩
    refine (split_c A n c q xs w (by have := hk.1; omega) (by have := hk.1; omega) hr hn hk.2).mono ?_
    rintro e w' ⟨A', c', vs, rfl, _, _, hB⟩
    exact ⟨A', q, c', rfl, hB⟩
  · rw [if_neg hk]
    refine (split_no A n c k xs w hr (by unfold maxLen; omega) hk).mono ?_
    rintro e w' ⟨rfl, hB⟩
    exact ⟨none, 0, 0, rfl, hB⟩
end Go.Proofs.YtichoidkemeibaaGreat
