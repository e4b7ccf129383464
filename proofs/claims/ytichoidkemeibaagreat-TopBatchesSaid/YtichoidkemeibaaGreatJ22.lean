/-
  'far' of the laws of chapter 19: the walks.
  slices.Clone and slices.Compact: the walks.
  slices.Compact: the walks.
-/
import Derived.Test.YtichoidkemeibaaGreatJ21
import Derived.Test.YtichoidkemeibaaGreatJ05
import Derived.Test.YtichoidkemeibaaGreatJ07
import Derived.LoopN
import Derived.Lib.SliceRun
import Derived.Deep.QuietTactic
namespace Go.Proofs.YtichoidkemeibaaGreat
open Go.RowKit

/-- Some truth value. -/
def SomeBool (w w' : World) (e : Ending) : Prop := ∃ b : Bool, e = .returned (.bool b) ∧ Below w.heap.size w w'
theorem some_bool {w w' : World} {b : Bool} (hB : Below w.heap.size w w') : SomeBool w w' (.returned (.bool b)) := ⟨b, rfl, hB⟩

set_option maxRecDepth 100000 in
set_option maxHeartbeats 2000000 in
theorem big18_c (q : QuA) (w : World) (h : QuIn w q) :
    Calls Tryz.prog 54 #[quVal q] w fun e w' => SomeBool w w' e := by
  obtain ⟨kind, src, dst, W, nw, cw, rad, most⟩ := q
  show Calls Tryz.prog 54 #[.agg #[.int .i64 kind, .int .i64 src, .int .i64 dst, .slice W nw cw, .int .i64 rad, .int .i64 most]] w _
  obtain ⟨ws, hl, hr, hm, hs, -, -⟩ := h
  simp only at hl hr hm
  unfold maxLen at hm
  have hq : (w.alloc (quBox ⟨kind, src, dst, W, nw, cw, rad, most⟩)).heap[w.heap.size]? = some (quBox ⟨kind, src, dst, W, nw, cw, rad, most⟩) := w.alloc_heap_new _
  have hb := below_one w (quBox ⟨kind, src, dst, W, nw, cw, rad, most⟩)
  have c3 : (w.alloc (quBox ⟨kind, src, dst, W, nw, cw, rad, most⟩)).cell? ⟨w.heap.size, 3, none⟩ = some (.slice W nw cw) := by rw [Lib.cell_of_heap hq]; rfl
  have HB := Lib.hid hb
  have HR := Lib.hid hr
  have HS := Lib.hid hs
  have HL := Lib.hid hl
  clear hq hb hr hs hl
  unfold quBox at c3 HB
  simp only at c3 HB
  by_cases h20 : nw ≤ 20
  rotate_left
  · have g1 : ¬ (nw : Int) ≤ 20 := by omega
    have g2 : (20 : Int) < (nw : Int) := by omega
    go_enter Tryz.func54, Tryz.ntmps54
    go_wp2_with (fail)
    refine wp_loop_rounds 1 ?_
    rw [rounds_succ]
    go_wp2_with (fail)
    go_ret
    exact some_bool HB.out
  have g1 : (nw : Int) ≤ 20 := by omega
  have g2 : ¬ (20 : Int) < (nw : Int) := by omega
  go_enter Tryz.func54, Tryz.ntmps54
  go_wp2_with (fail)
  go_loop [3] (fun i => ∃ j : Nat, j ≤ nw ∧ i = .int .i64 j) (fun i => nw - (intOf i).toNat)
  case atStart => exact ⟨0, Nat.zero_le _, rfl⟩
  case round =>
    obtain ⟨j, hj, rfl⟩ := hrel
    by_cases hlt : j < nw
    · obtain ⟨s, hsj⟩ : ∃ s, ws[j]? = some s := ⟨ws[j]'(by have := HL.out; omega), List.getElem?_eq_getElem _⟩
      obtain ⟨b, o, rfl, d0⟩ := (HR.out.below HB.out).val_at (show (svR ws)[j]? = some (.string s) by unfold svR; rw [List.getElem?_map, hsj]; rfl)
      have hss := HS.out s (List.mem_of_getElem? hsj)
      unfold maxLen at hss
      have f1 : (0 : Int) ≤ (j : Int) := by omega
      have f2 : (j : Int) < (nw : Int) := by omega
      clear hsj
      by_cases h60 : s.size ≤ 60
      · have f3 : ¬ (60 : Int) < (s.size : Int) := by omega
        go_wp2_with (fail)
        go_round
        case rel => exact ⟨j + 1, by omega, by go_num⟩
        case measure => simp [intOf]; omega
      · have f3 : (60 : Int) < (s.size : Int) := by omega
        go_wp2_with (fail)
        go_ret
        exact some_bool HB.out
    · obtain rfl : j = nw := by omega
      go_wp2_with (fail)
      go_ret
      exact some_bool HB.out

set_option maxRecDepth 100000 in
set_option maxHeartbeats 2000000 in
theorem big04_c (a : RwA) (w : World) (h : RwIn w w.heap.size a) :
    Calls Tryz.prog 55 #[rwVal a] w fun e w' => SomeBool w w' e := by
  show Calls Tryz.prog 55 #[.agg #[.slice a.A1 a.n1 a.c1, .slice a.A2 a.n2 a.c2, .slice a.A3 a.n3 a.c3, .slice a.A4 a.n4 a.c4]] w _
  have hx := rboxed_new h
  obtain ⟨d0, d1, d2, d3⟩ := hx.box.cells
  have HX := Lib.hid hx
  clear hx h
  go_enter Tryz.func55, Tryz.ntmps55
  go_wp2_with (fail)
  all_goals
    go_ret
    exact some_bool HX.out.bel

/-- Things are more than are looked at, or they are few. -/
def FarDone (w w' : World) (ns nm np : Nat) (e : Ending) : Prop := ∃ b : Bool, e = .returned (.bool b) ∧ Below w.heap.size w w' ∧ (b = false → ns ≤ 60 ∧ nm ≤ 60 ∧ np ≤ 100)
theorem far_true {w w' : World} {ns nm np : Nat} (hB : Below w.heap.size w w') : FarDone w w' ns nm np (.returned (.bool true)) := ⟨true, rfl, hB, fun h => by cases h⟩
theorem far_false {w w' : World} {ns nm np : Nat} (hB : Below w.heap.size w w') (h : ns ≤ 60 ∧ nm ≤ 60 ∧ np ≤ 100) : FarDone w w' ns nm np (.returned (.bool false)) := ⟨false, rfl, hB, fun _ => h⟩

theorem QuIn.below {w w' : World} {q : QuA} (h : QuIn w q) (hB : Below w.heap.size w w') : QuIn w' q := by
  obtain ⟨ws, h1, h2, h3, h4, h5, h6⟩ := h
  exact ⟨ws, h1, (h2.below hB).more hB.size, h3, h4, h5, h6⟩
/-- The boxes of a query and of rows at the beginning of a call. -/
structure QbAt (w : World) (q : QuA) (a : RwA) (W : World) : Prop where
  q_ : W.heap[w.heap.size]? = some (quBox q)
  r_ : W.heap[w.heap.size + 1]? = some (rwBox a)
  bel : Below w.heap.size w W
section
variable {w W W' : World} {q : QuA} {a : RwA}
theorem QbAt.lt (h : QbAt w q a W) : w.heap.size + 1 < W.heap.size := (Array.getElem?_eq_some_iff.1 h.r_).1
theorem QbAt.step (h : QbAt w q a W) (hB : Below W.heap.size W W') : QbAt w q a W' :=
  have hl := h.lt
  ⟨(hB.block _ (by omega)).trans h.q_, (hB.block _ (by omega)).trans h.r_, h.bel.trans (hB.mono (by omega))⟩
theorem qbAt_new (w : World) (q : QuA) (a : RwA) : QbAt w q a ((w.alloc (quBox q)).alloc (rwBox a)) := by
  have h1 := (w.alloc (quBox q)).alloc_heap_new (rwBox a)
  rw [World.size_alloc] at h1
  refine ⟨?_, h1, (below_one w _).trans ((below_one _ _).mono (by simp))⟩
  rw [Below.heap_alloc _ _ _ (by simp)]
  exact w.alloc_heap_new _
theorem QbAt.rw_ (h : QbAt w q a W) (hr : RwIn w w.heap.size a) : RwIn W W.heap.size a := (hr.below h.bel).more h.bel.size
theorem QbAt.rc (h : QbAt w q a W) : W.cell? ⟨w.heap.size + 1, 0, none⟩ = some (.slice a.A1 a.n1 a.c1) ∧ W.cell? ⟨w.heap.size + 1, 1, none⟩ = some (.slice a.A2 a.n2 a.c2) ∧ W.cell? ⟨w.heap.size + 1, 2, none⟩ = some (.slice a.A3 a.n3 a.c3) ∧ W.cell? ⟨w.heap.size + 1, 3, none⟩ = some (.slice a.A4 a.n4 a.c4) := by
  refine ⟨?_, ?_, ?_, ?_⟩ <;> · rw [Lib.cell_of_heap h.r_]; rfl
theorem QbAt.qc (h : QbAt w q a W) : W.cell? ⟨w.heap.size, 0, none⟩ = some (.int .i64 q.kind) ∧ W.cell? ⟨w.heap.size, 1, none⟩ = some (.int .i64 q.src) ∧ W.cell? ⟨w.heap.size, 2, none⟩ = some (.int .i64 q.dst) ∧ W.cell? ⟨w.heap.size, 3, none⟩ = some (.slice q.W q.nw q.cw) ∧ W.cell? ⟨w.heap.size, 4, none⟩ = some (.int .i64 q.radius) ∧ W.cell? ⟨w.heap.size, 5, none⟩ = some (.int .i64 q.most) := by
  refine ⟨?_, ?_, ?_, ?_, ?_, ?_⟩ <;> · rw [Lib.cell_of_heap h.q_]; rfl
end

set_option maxRecDepth 100000 in
set_option maxHeartbeats 2000000 in
theorem far_c (q : QuA) (a : RwA) (As Am Ap : Option Addr) (ns cs nm cm np cp : Nat) (w : World) (hq : QuIn w q) (ha : RwIn w w.heap.size a) (hns : ns ≤ maxLen) (hnm : nm ≤ maxLen) (hnp : np ≤ maxLen) :
    Calls Tryz.prog 17 #[quVal q, rwVal a, .slice As ns cs, .slice Am nm cm, .slice Ap np cp] w fun e w' => FarDone w w' ns nm np e := by
  show Calls Tryz.prog 17 #[.agg #[.int .i64 q.kind, .int .i64 q.src, .int .i64 q.dst, .slice q.W q.nw q.cw, .int .i64 q.radius, .int .i64 q.most], .agg #[.slice a.A1 a.n1 a.c1, .slice a.A2 a.n2 a.c2, .slice a.A3 a.n3 a.c3, .slice a.A4 a.n4 a.c4], .slice As ns cs, .slice Am nm cm, .slice Ap np cp] w _
  unfold maxLen at hns hnm hnp
  have hx := qbAt_new w q a
  obtain ⟨q0, q1, q2, q3, q4, q5⟩ := hx.qc
  unfold quBox rwBox at q0 q1 q2 q3 q4 q5
  have HX := Lib.hid hx
  have HQ := Lib.hid hq
  have HA := Lib.hid ha
  clear hx hq ha
  go_enter Tryz.func17, Tryz.ntmps17
  go_wp2_with (fail)
  refine (big18_c q _ (HQ.out.below HX.out.bel)).mono ?_
  rintro e w1 ⟨b, rfl, hB1⟩
  have HX1 := Lib.hid (HX.out.step hB1)
  clear hB1 q0 q1 q2 q3 q4 q5 HX
  rcases b with _ | _
  rotate_left
  · go_wp2_with (fail)
    go_ret
    exact far_true HX1.out.bel
  obtain ⟨r0, r1, r2, r3⟩ := HX1.out.rc
  go_wp2_with (fail)
  refine (big04_c a _ (HX1.out.rw_ HA.out)).mono ?_
  rintro e w2 ⟨b, rfl, hB2⟩
  have HX2 := Lib.hid (HX1.out.step hB2)
  clear hB2 r0 r1 r2 r3 HX1
  rcases b with _ | _
  rotate_left
  · go_wp2_with (fail)
    go_ret
    exact far_true HX2.out.bel
  by_cases h1 : 60 < ns
  · have h1' : (60 : Int) < (ns : Int) := by omega
    go_wp2_with (fail)
    go_ret
    exact far_true HX2.out.bel
  have h1' : ¬ (60 : Int) < (ns : Int) := by omega
  by_cases h2 : 60 < nm
  · have h2' : (60 : Int) < (nm : Int) := by omega
    go_wp2_with (fail)
    go_ret
    exact far_true HX2.out.bel
  have h2' : ¬ (60 : Int) < (nm : Int) := by omega
  by_cases h3 : 100 < np
  · have h3' : (100 : Int) < (np : Int) := by omega
    go_wp2_with (fail)
    go_ret
    exact far_true HX2.out.bel
  have h3' : ¬ (100 : Int) < (np : Int) := by omega
  have e1 : decide ((60 : Int) < (ns : Int)) = false := decide_eq_false h1'
  have e2 : decide ((60 : Int) < (nm : Int)) = false := decide_eq_false h2'
  have e3 : decide ((100 : Int) < (np : Int)) = false := decide_eq_false h3'
  have hf : Hid (ns ≤ 60 ∧ nm ≤ 60 ∧ np ≤ 100) := ⟨by omega, by omega, by omega⟩
  go_wp2_with (fail)
  go_ret
  exact far_false HX2.out.bel hf.out
end Go.Proofs.YtichoidkemeibaaGreat

namespace Go.Proofs.YtichoidkemeibaaGreat
open Go.RowKit

theorem own_emptyG (w : World) (e : TypeId) (sz : Nat) : (w.alloc (.cells #[] e)).ownsRow w.heap.size e sz (.slice (some ⟨w.heap.size, 0, none⟩) 0 0) 0 [] := by
  refine ⟨by simp, .inr ⟨w.heap.size, 0, #[], rfl, Nat.le_refl _, Array.getElem?_push_size, Nat.le_refl _, by simp [maxLen], by simp, by simp⟩⟩

set_option maxRecDepth 100000 in
theorem cloneE_c (A : Option Addr) (n c : Nat) (l : List Edg) (w : World) (h : Reads w w.heap.size 2 A n (ev l)) (hn : n ≤ 1000000) :
    Calls Tryz.prog 114 #[.slice A n c] w fun e w' => ∃ A' c', e = .returned (.slice A' n c') ∧ w'.ownsRow w.heap.size 73 2 (.slice A' n c') n (ev l) ∧ Below w.heap.size w w' := by
  rcases A with _ | a
  · have h0 : n = 0 := by
      rcases Nat.eq_zero_or_pos n with h0 | h0
      · exact h0
      · obtain ⟨_, _, e, _⟩ := h.2 h0
        cases e
    subst h0
    have hl : ev l = [] := List.eq_nil_of_length_eq_zero (by have := h.1; omega)
    rw [hl]
    clear h hl
    have hrun := fun w => Lib.run_eql_slice_nil (P := Tryz.prog) w 74 73 none 0 c 0 0 Tryz.underlying74
    go_enter Tryz.func114, Tryz.ntmps114
    go_wp2_with (fail)
    go_ret
    exact ⟨none, 0, rfl, own_nil, Below.refl _ _⟩
  · have HR := Lib.hid h
    clear h
    have HE := Lib.hid (own_emptyG w 73 2)
    have HB := Lib.hid (below_oneG w (.cells #[] 73))
    have hrun := fun w => Lib.run_eql_slice_nil (P := Tryz.prog) w 74 73 (some a) n c 0 0 Tryz.underlying74
    go_enter Tryz.func114, Tryz.ntmps114
    go_wp2_with (at_builtin; refine wpList_cat elEdges rfl _ _ rfl HE.out rfl ((HR.out.below HB.out).more HB.out.size) rfl (ev_one _) (by unfold maxLen; omega) (by omega) (by simp) ?_; intro A1 c1 w1 hown p1)
    go_ret
    refine ⟨A1, c1, rfl, by simpa using hown, HB.out.trans (p1.below HE.out (Below.refl _ _) (Nat.le_refl _) HB.out.size)⟩

set_option maxRecDepth 100000 in
theorem cloneS_c (A : Option Addr) (n c : Nat) (l : List ByteArray) (w : World) (h : Reads w w.heap.size 1 A n (sv l)) (hn : n ≤ 1000000) :
    Calls Tryz.prog 163 #[.slice A n c] w fun e w' => ∃ A' c', e = .returned (.slice A' n c') ∧ w'.ownsRow w.heap.size 9 1 (.slice A' n c') n (sv l) ∧ Below w.heap.size w w' := by
  rcases A with _ | a
  · have h0 : n = 0 := by
      rcases Nat.eq_zero_or_pos n with h0 | h0
      · exact h0
      · obtain ⟨_, _, e, _⟩ := h.2 h0
        cases e
    subst h0
    have hl : sv l = [] := List.eq_nil_of_length_eq_zero (by have := h.1; omega)
    rw [hl]
    clear h hl
    have hrun := fun w => Lib.run_eql_slice_nil (P := Tryz.prog) w 22 9 none 0 c 0 0 Tryz.underlying22
    go_enter Tryz.func163, Tryz.ntmps163
    go_wp2_with (fail)
    go_ret
    exact ⟨none, 0, rfl, own_nil, Below.refl _ _⟩
  · have HR := Lib.hid h
    clear h
    have HE := Lib.hid (own_emptyG w 9 1)
    have HB := Lib.hid (below_oneG w (.cells #[] 9))
    have hrun := fun w => Lib.run_eql_slice_nil (P := Tryz.prog) w 22 9 (some a) n c 0 0 Tryz.underlying22
    go_enter Tryz.func163, Tryz.ntmps163
    go_wp2_with (at_builtin; refine wpList_cat elTexts rfl _ _ rfl HE.out rfl ((HR.out.below HB.out).more HB.out.size) rfl (sv_one _) (by unfold maxLen; omega) (by omega) (by simp) ?_; intro A1 c1 w1 hown p1)
    go_ret
    refine ⟨A1, c1, rfl, by simpa using hown, HB.out.trans (p1.below HE.out (Below.refl _ _) (Nat.le_refl _) HB.out.size)⟩
end Go.Proofs.YtichoidkemeibaaGreat

namespace Go.Proofs.YtichoidkemeibaaGreat
open Go.RowKit

/-- What Compact gives of a row that does not fall: elements that rise, of the row. -/
def CompDone {α : Type} (w w' : World) (base g _ c : Nat) (e : TypeId) (sz : Nat) (enc : List α → List Value) (lt : α → α → Prop) (l : List α) (en : Ending) : Prop :=
  ∃ (k : Nat) (l' : List α), en = .returned (.slice (some ⟨g, 0, none⟩) k c) ∧ Rises lt l' ∧ (∀ x ∈ l', x ∈ l) ∧ l'.length ≤ l.length ∧ w'.ownsRow base e sz (.slice (some ⟨g, 0, none⟩) k c) k (enc l') ∧ w.grownBy w' (some g)
theorem comp_all {α : Type} {w w' : World} {base g n c : Nat} {e : TypeId} {sz : Nat} {enc : List α → List Value} {lt : α → α → Prop} {l : List α} (h : Rises lt l) (ho : w'.ownsRow base e sz (.slice (some ⟨g, 0, none⟩) n c) n (enc l)) (hg : w.grownBy w' (some g)) :
    CompDone w w' base g n c e sz enc lt l (.returned (.slice (some ⟨g, 0, none⟩) n c)) := ⟨n, l, rfl, h, fun _ h => h, Nat.le_refl _, ho, hg⟩
theorem own_drewN {w : World} {base e size n c : Nat} {A : Option Addr} {xs : List Value} (h : w.ownsRow base e size (.slice A n c) n xs) (k : Nat) : (w.drewN k).ownsRow base e size (.slice A n c) n xs := own_below h (below_drewN (Below.refl _ _) k)
theorem E_at {w : World} {base e g k n c : Nat} {zs : List Edg} (h : w.ownsRow base e 2 (.slice (some ⟨g, 0, none⟩) n c) n (ev zs)) (hk : k < n) :
    ∃ m, Hid (zs[k]? = some m) ∧ w.cell? ⟨g, k * 2, none⟩ = some (.int .i64 m.src) ∧ w.cell? ⟨g, k * 2 + 1, none⟩ = some (.int .i64 m.dst) := by
  have hl : zs.length = n := by have := h.1; rw [ev_len] at this; omega
  have hx : zs[k]? = some (zs[k]'(by omega)) := List.getElem?_eq_getElem (by omega)
  have hf := fun r hr => flat_get ec 2 ec_len zs k r _ hx hr
  exact ⟨_, hx, by rw [h.cellAt _ (by omega)]; exact hf 0 (by omega), by rw [h.cellAt _ (by omega)]; exact hf 1 (by omega)⟩
theorem S_at {w : World} {base e g k n c : Nat} {zs : List ByteArray} (h : w.ownsRow base e 1 (.slice (some ⟨g, 0, none⟩) n c) n (sv zs)) (hk : k < n) : ∃ m, Hid (zs[k]? = some m) ∧ w.cell? ⟨g, k, none⟩ = some (.string m) := by
  have hl : zs.length = n := by have := h.1; simpa [sv] using this
  refine ⟨zs[k]'(by omega), List.getElem?_eq_getElem (by omega), ?_⟩
  rw [h.cellAt k (by omega)]
  simp [sv, show k < zs.length by omega]
theorem run_eql_edge (x y : Edg) (h : x ≠ y) (w : World) :
    (binOp .eql 73 (.agg #[.int .i64 x.src, .int .i64 x.dst]) (.agg #[.int .i64 y.src, .int .i64 y.dst])).run Tryz.prog w = .ok (.bool false) w := by
  have h' : ¬ (x.src = y.src ∧ x.dst = y.dst) := fun e => h ((Edg.eq_iff _ _).2 e)
  have H := Lib.hid h'
  clear h h'
  go_simp
  by_cases e1 : x.src = y.src
  · by_cases e2 : x.dst = y.dst
    · exact absurd ⟨e1, e2⟩ H.out
    · simp [e1, e2]
  · simp [e1]
theorem run_neq_edge2 (x y : Edg) (h : x ≠ y) (w : World) :
    (binOp .neq 73 (.agg #[.int .i64 x.src, .int .i64 x.dst]) (.agg #[.int .i64 y.src, .int .i64 y.dst])).run Tryz.prog w = .ok (.bool true) w := by
  have h' : ¬ (x.src = y.src ∧ x.dst = y.dst) := fun e => h ((Edg.eq_iff _ _).2 e)
  have H := Lib.hid h'
  clear h h'
  go_simp
  by_cases e1 : x.src = y.src
  · by_cases e2 : x.dst = y.dst
    · exact absurd ⟨e1, e2⟩ H.out
    · simp [e1, e2]
  · simp [e1]
theorem own_setE {w : World} {base e g n c k : Nat} {d : List Edg} (h : w.ownsRow base e 2 (.slice (some ⟨g, 0, none⟩) n c) n (ev d)) (u : Edg) :
    ((w.setCell ⟨g, k * 2, none⟩ (.int .i64 u.src)).setCell ⟨g, k * 2 + 1, none⟩ (.int .i64 u.dst)).ownsRow base e 2 (.slice (some ⟨g, 0, none⟩) n c) n (ev (d.set k u)) := by
  have h1 := ((h.stored (k * 2) (.int .i64 u.src)).1.stored (k * 2 + 1) (.int .i64 u.dst)).1
  rw [ev_set] at h1
  exact h1
theorem own_setS {w : World} {base e g n c k : Nat} {d : List ByteArray} (h : w.ownsRow base e 1 (.slice (some ⟨g, 0, none⟩) n c) n (sv d)) (u : ByteArray) :
    (w.setCell ⟨g, k, none⟩ (.string u)).ownsRow base e 1 (.slice (some ⟨g, 0, none⟩) n c) n (sv (d.set k u)) := by
  have h1 := (h.stored k (.string u)).1
  rw [sv_set] at h1
  exact h1
theorem only_grown1 {a w w' : World} {g : Nat} (h : a.grownBy w (some g)) (k : w.grownBy w' (some g)) : a.grownBy w' (some g) := only_trans_rowG h k
theorem totE (a b : Edg) (h : ¬ lessE b a) (hne : a ≠ b) : lessE a b := by
  have h2 : ¬ (a.src = b.src ∧ a.dst = b.dst) := fun e => hne ((Edg.eq_iff _ _).2 e)
  unfold lessE at *
  omega
theorem totW (a b : ByteArray) (h : ¬ ltW b a) (hne : a ≠ b) : ltW a b := by
  unfold ltW at *
  rcases Decidable.em (a.toList < b.toList) with h1 | h1
  · exact h1
  · refine absurd ?_ hne
    have h2 := List.le_antisymm (List.not_lt.1 h) (List.not_lt.1 h1)
    rw [Go.ByteArray.toList_eq, Go.ByteArray.toList_eq] at h2
    exact bytes_extG h2

set_option maxRecDepth 100000 in
set_option maxHeartbeats 4000000 in
theorem compactE_c (g n c base : Nat) (l : List Edg) (w : World) (ho : w.ownsRow base 73 2 (.slice (some ⟨g, 0, none⟩) n c) n (ev l)) (hs : l.Pairwise (fun a b => ¬ lessE b a)) (hn : n ≤ 1000000) :
    Calls Tryz.prog 162 #[.slice (some ⟨g, 0, none⟩) n c] w fun e w' => CompDone w w' base g n c 73 2 (ev) (lessE) l e := by
  have hl : l.length = n := by have h := ho.1; rw [ev_len] at h; omega
  have HL := Lib.hid hl
  have HS := Lib.hid hs
  have hcap := (own_cap ho).1
  have HO := Lib.hid ho
  clear ho hs
  by_cases h2 : n < 2
  · have H := Lib.hid (kept_all totE HS.out (j := 0) (fun m a b hm => absurd hm (Nat.not_lt_zero _)) (by omega))
    have h2' : (n : Int) < 2 := by omega
    clear hl
    go_enter Tryz.func162, Tryz.ntmps162
    go_wp2_with (fail)
    go_ret
    exact comp_all H.out HO.out (World.grownBy.refl _ _)
  · have h2' : ¬ (n : Int) < 2 := by omega
    clear hl
    go_enter Tryz.func162, Tryz.ntmps162
    go_wp2_with (fail)
    go_loopw [3] (fun i wr => ∃ j : Nat, j + 1 ≤ n ∧ i = .int .i64 ((j : Int) + 1) ∧ Hid (risesTo (fun a b => a ≠ b) l j) ∧ wr.ownsRow base 73 2 (.slice (some ⟨g, 0, none⟩) n c) n (ev l) ∧ w.grownBy wr (some g)) (fun i _ => n - (intOf i).toNat)
    case atStart => exact ⟨0, by omega, rfl, fun m a b hm => absurd hm (Nat.not_lt_zero _), HO.out, World.grownBy.refl _ _⟩
    case round =>
      clear HO
      obtain ⟨j, hj, rfl, hr, ho, hG⟩ := hrel
      by_cases hlt : j + 1 < n
      · obtain ⟨x, hx, d0, d1⟩ := E_at ho (k := j + 1) hlt
        obtain ⟨y, hy, e0, e1⟩ := E_at ho (k := j) (by omega)
        have f1 : (0 : Int) ≤ (j : Int) := by omega
        have f2 : (j : Int) < (n : Int) := by omega
        have f3 : (0 : Int) ≤ (j : Int) + 1 := by omega
        have f4 : (j : Int) + 1 < (n : Int) := by omega
        have f5 : IntKind.i64.wrap (j : Int) = (j : Int) := IntWalk.i64_in _ (by omega)
        have f6 : ((j : Int) + 1).toNat = j + 1 := by omega
        have HO := Lib.hid ho
        have HG := Lib.hid hG
        clear ho hG
        by_cases hxy : x = y
        · subst hxy
          have HK := Lib.hid (kept_start totE HS.out hr.out hy.out hx.out)
          go_wp2_with (fail)
          go_quiet (fail)
          go_wp2_with (fail)
          have HO := Lib.hid (own_drewN HO.out nq)
          have HG := Lib.hid (only_drewN HG.out nq)
          generalize wr.drewN nq = wr at HO HG ⊢
          clear d0 d1 e0 e1 f1 f2 f3 f4 f5 f6 hr
          go_loopw [3, 5] (fun s3 s5 wr => ∃ (k i2 : Nat) (d : List Edg), s3 = .int .i64 k ∧ s5 = .int .i64 ((i2 : Int) + 1) ∧ k ≤ j + 1 + i2 ∧ j + 1 + i2 + 1 ≤ n ∧ Hid (d.length = n) ∧ Hid (∀ m, j + 1 + i2 ≤ m → d[m]? = l[m]?) ∧ Hid (Kept lessE l (d.take k) (j + 1 + i2)) ∧
              wr.ownsRow base 73 2 (.slice (some ⟨g, 0, none⟩) n c) n (ev d) ∧ w.grownBy wr (some g)) (fun _ s5 _ => n - (intOf s5).toNat)
          case atStart => exact ⟨j + 1, 0, l, rfl, rfl, by omega, by omega, HL.out, fun _ _ => rfl, HK.out, HO.out, HG.out⟩
          case round =>
            clear HK HO HG
            obtain ⟨k, i2, d, rfl, rfl, hk, hi, hdl, hdm, hkp, ho, hG⟩ := hrel
            by_cases hlt2 : j + 1 + i2 + 1 < n
            · obtain ⟨u, hu, d0, d1⟩ := E_at ho (k := j + 1 + (i2 + 1)) (by omega)
              obtain ⟨v, hv, e0, e1⟩ := E_at ho (k := j + 1 + i2) (by omega)
              obtain ⟨o, -, p0, p1⟩ := E_at ho (k := k) (by omega)
              rw [Nat.add_mul] at d0 d1 e0 e1
              have g0 := ho.frozenAt (k * 2)
              have g1 := ho.frozenAt (k * 2 + 1)
              have hlu : Hid (l[j + 1 + i2 + 1]? = some u) := (hdm.out (j + 1 + i2 + 1) (by omega)).symm.trans hu.out
              have hlv : Hid (l[j + 1 + i2]? = some v) := (hdm.out (j + 1 + i2) (Nat.le_refl _)).symm.trans hv.out
              have f1 : (0 : Int) ≤ (i2 : Int) := by omega
              have f2 : (i2 : Int) < ((n - (j + 1) : Nat) : Int) := by omega
              have f3 : (0 : Int) ≤ (i2 : Int) + 1 := by omega
              have f4 : (i2 : Int) + 1 < ((n - (j + 1) : Nat) : Int) := by omega
              have f5 : IntKind.i64.wrap (i2 : Int) = (i2 : Int) := IntWalk.i64_in _ (by omega)
              have f6 : ((i2 : Int) + 1).toNat = i2 + 1 := by omega
              have HO := Lib.hid ho
              have HG := Lib.hid hG
              clear ho hG
              by_cases huv : u = v
              · subst huv
                have H := Lib.hid (kept_same hkp.out hlv.out hlu.out)
                go_wp2_with (fail)
                go_quiet (fail)
                go_wp2_with (fail)
                go_roundw
                case rel => exact ⟨k, i2 + 1, d, rfl, by go_num, by omega, by omega, hdl.out, fun m hm => hdm.out m (by omega), H.out, own_drewN HO.out _, only_drewN HG.out _⟩
                case measure => simp [intOf]; omega
              · have hrun := run_neq_edge2 u v huv
                have H : Hid (Kept lessE l ((d.set k u).take (k + 1)) (j + 1 + i2 + 1)) := by
                  show Kept _ _ _ _
                  rw [take_set_more (by have := hdl.out; omega)]
                  exact kept_more totE HS.out hkp.out hlv.out hlu.out (fun e => huv e.symm)
                have HD : Hid (∀ m, j + 1 + i2 + 1 ≤ m → (d.set k u)[m]? = l[m]?) := fun m hm => by rw [List.getElem?_set_ne (by omega)]; exact hdm.out m (by omega)
                have HDL : Hid ((d.set k u).length = n) := by show _ = _; rw [List.length_set]; exact hdl.out
                clear huv
                go_wp2_with (fail)
                go_quiet (fail)
                go_wp2_with (fail)
                go_roundw
                case rel => exact ⟨k + 1, i2 + 1, d.set k u, by go_num, by go_num, by omega, by omega, HDL.out, HD.out, H.out, own_setE (own_drewN HO.out _) u, only_setCellS (only_setCellS (only_drewN HG.out _) _ _) _ _⟩
                case measure => simp [intOf]; omega
            · have HO := Lib.hid ho
              have HG := Lib.hid hG
              have hkn : k < n := by omega
              obtain ⟨w6, hrun, ho6, hg6⟩ := run_clear_own (P := Tryz.prog) (w := wr) (t := 74) Tryz.underlying74 Tryz.zeroValue73 rfl (by intro u hu; simp [Value.cells] at hu; rcases hu with rfl | rfl <;> rfl) ho (k := k) (by omega) (dp := some ⟨g, k * 2, none⟩) (m := n - k) (d := c - k) rfl (fun _ => by first | rfl | (show some (⟨g, k, none⟩ : Addr) = some ⟨g, k * 1, none⟩; rw [Nat.mul_one]))
              have f1 : ¬ (i2 : Int) + 1 < ((n - (j + 1) : Nat) : Int) := by omega
              have HO6 : Hid (w6.ownsRow base 73 2 (.slice (some ⟨g, 0, none⟩) k c) k (ev (d.take k))) := by
                show World.ownsRow _ _ _ _ _ _ _
                rw [← ev_take]
                exact ho6
              have HG6 := Lib.hid (only_grown1 HG.out hg6)
              have hkl : Hid ((d.take k).length ≤ l.length) := by show _ ≤ _; rw [List.length_take, HL.out, hdl.out]; omega
              clear ho hG ho6 hg6
              go_wp2_with (fail)
              go_ret
              exact ⟨k, d.take k, rfl, hkp.out.rise, hkp.out.mem, hkl.out, HO6.out, HG6.out⟩
        · have hrun := run_eql_edge x y hxy
          have H := Lib.hid (rises_more hr.out hy.out hx.out (fun e => hxy e.symm))
          clear hxy
          go_wp2_with (fail)
          go_quiet (fail)
          go_wp2_with (fail)
          go_roundw
          case rel => exact ⟨j + 1, by omega, by go_num, H.out, own_drewN HO.out _, only_drewN HG.out _⟩
          case measure => simp [intOf]; omega
      · have H := Lib.hid (kept_all totE HS.out hr.out (by have := HL.out; omega))
        have HO := Lib.hid ho
        have HG := Lib.hid hG
        clear ho hG
        go_wp2_with (fail)
        go_ret
        exact comp_all H.out HO.out HG.out

set_option maxRecDepth 100000 in
set_option maxHeartbeats 4000000 in
theorem compactS_c (g n c base : Nat) (l : List ByteArray) (w : World) (ho : w.ownsRow base 9 1 (.slice (some ⟨g, 0, none⟩) n c) n (sv l)) (hs : l.Pairwise (fun a b => ¬ ltW b a)) (hn : n ≤ 1000000) :
    Calls Tryz.prog 165 #[.slice (some ⟨g, 0, none⟩) n c] w fun e w' => CompDone w w' base g n c 9 1 (sv) (ltW) l e := by
  have hl : l.length = n := by have h := ho.1; simpa [sv] using h
  have HL := Lib.hid hl
  have HS := Lib.hid hs
  have hcap := (own_cap ho).1
  have HO := Lib.hid ho
  clear ho hs
  by_cases h2 : n < 2
  · have H := Lib.hid (kept_all totW HS.out (j := 0) (fun m a b hm => absurd hm (Nat.not_lt_zero _)) (by omega))
    have h2' : (n : Int) < 2 := by omega
    clear hl
    go_enter Tryz.func165, Tryz.ntmps165
    go_wp2_with (fail)
    go_ret
    exact comp_all H.out HO.out (World.grownBy.refl _ _)
  · have h2' : ¬ (n : Int) < 2 := by omega
    clear hl
    go_enter Tryz.func165, Tryz.ntmps165
    go_wp2_with (fail)
    go_loopw [3] (fun i wr => ∃ j : Nat, j + 1 ≤ n ∧ i = .int .i64 ((j : Int) + 1) ∧ Hid (risesTo (fun a b => a ≠ b) l j) ∧ wr.ownsRow base 9 1 (.slice (some ⟨g, 0, none⟩) n c) n (sv l) ∧ w.grownBy wr (some g)) (fun i _ => n - (intOf i).toNat)
    case atStart => exact ⟨0, by omega, rfl, fun m a b hm => absurd hm (Nat.not_lt_zero _), HO.out, World.grownBy.refl _ _⟩
    case round =>
      clear HO
      obtain ⟨j, hj, rfl, hr, ho, hG⟩ := hrel
      by_cases hlt : j + 1 < n
      · obtain ⟨x, hx, d0⟩ := S_at ho (k := j + 1) hlt
        obtain ⟨y, hy, e0⟩ := S_at ho (k := j) (by omega)
        have f1 : (0 : Int) ≤ (j : Int) := by omega
        have f2 : (j : Int) < (n : Int) := by omega
        have f3 : (0 : Int) ≤ (j : Int) + 1 := by omega
        have f4 : (j : Int) + 1 < (n : Int) := by omega
        have f5 : IntKind.i64.wrap (j : Int) = (j : Int) := IntWalk.i64_in _ (by omega)
        have f6 : ((j : Int) + 1).toNat = j + 1 := by omega
        have HO := Lib.hid ho
        have HG := Lib.hid hG
        clear ho hG
        by_cases hxy : x = y
        · subst hxy
          have HK := Lib.hid (kept_start totW HS.out hr.out hy.out hx.out)
          go_wp2_with (fail)
          go_quiet (fail)
          go_wp2_with (fail)
          have HO := Lib.hid (own_drewN HO.out nq)
          have HG := Lib.hid (only_drewN HG.out nq)
          generalize wr.drewN nq = wr at HO HG ⊢
          clear d0 e0 f1 f2 f3 f4 f5 f6 hr
          go_loopw [3, 5] (fun s3 s5 wr => ∃ (k i2 : Nat) (d : List ByteArray), s3 = .int .i64 k ∧ s5 = .int .i64 ((i2 : Int) + 1) ∧ k ≤ j + 1 + i2 ∧ j + 1 + i2 + 1 ≤ n ∧ Hid (d.length = n) ∧ Hid (∀ m, j + 1 + i2 ≤ m → d[m]? = l[m]?) ∧ Hid (Kept ltW l (d.take k) (j + 1 + i2)) ∧
              wr.ownsRow base 9 1 (.slice (some ⟨g, 0, none⟩) n c) n (sv d) ∧ w.grownBy wr (some g)) (fun _ s5 _ => n - (intOf s5).toNat)
          case atStart => exact ⟨j + 1, 0, l, rfl, rfl, by omega, by omega, HL.out, fun _ _ => rfl, HK.out, HO.out, HG.out⟩
          case round =>
            clear HK HO HG
            obtain ⟨k, i2, d, rfl, rfl, hk, hi, hdl, hdm, hkp, ho, hG⟩ := hrel
            by_cases hlt2 : j + 1 + i2 + 1 < n
            · obtain ⟨u, hu, d0⟩ := S_at ho (k := j + 1 + (i2 + 1)) (by omega)
              obtain ⟨v, hv, e0⟩ := S_at ho (k := j + 1 + i2) (by omega)
              obtain ⟨o, -, p0⟩ := S_at ho (k := k) (by omega)
              skip
              have g0 := ho.frozenAt k
              have hlu : Hid (l[j + 1 + i2 + 1]? = some u) := (hdm.out (j + 1 + i2 + 1) (by omega)).symm.trans hu.out
              have hlv : Hid (l[j + 1 + i2]? = some v) := (hdm.out (j + 1 + i2) (Nat.le_refl _)).symm.trans hv.out
              have f1 : (0 : Int) ≤ (i2 : Int) := by omega
              have f2 : (i2 : Int) < ((n - (j + 1) : Nat) : Int) := by omega
              have f3 : (0 : Int) ≤ (i2 : Int) + 1 := by omega
              have f4 : (i2 : Int) + 1 < ((n - (j + 1) : Nat) : Int) := by omega
              have f5 : IntKind.i64.wrap (i2 : Int) = (i2 : Int) := IntWalk.i64_in _ (by omega)
              have f6 : ((i2 : Int) + 1).toNat = i2 + 1 := by omega
              have HO := Lib.hid ho
              have HG := Lib.hid hG
              clear ho hG
              by_cases huv : u = v
              · subst huv
                have H := Lib.hid (kept_same hkp.out hlv.out hlu.out)
                go_wp2_with (fail)
                go_quiet (fail)
                go_wp2_with (fail)
                go_roundw
                case rel => exact ⟨k, i2 + 1, d, rfl, by go_num, by omega, by omega, hdl.out, fun m hm => hdm.out m (by omega), H.out, own_drewN HO.out _, only_drewN HG.out _⟩
                case measure => simp [intOf]; omega
              · have hb : (u.toList == v.toList) = false := by rw [bytes_beq]; exact decide_eq_false huv
                have hb2 : (u.toList != v.toList) = true := by unfold bne; rw [hb]; rfl
                have H : Hid (Kept ltW l ((d.set k u).take (k + 1)) (j + 1 + i2 + 1)) := by
                  show Kept _ _ _ _
                  rw [take_set_more (by have := hdl.out; omega)]
                  exact kept_more totW HS.out hkp.out hlv.out hlu.out (fun e => huv e.symm)
                have HD : Hid (∀ m, j + 1 + i2 + 1 ≤ m → (d.set k u)[m]? = l[m]?) := fun m hm => by rw [List.getElem?_set_ne (by omega)]; exact hdm.out m (by omega)
                have HDL : Hid ((d.set k u).length = n) := by show _ = _; rw [List.length_set]; exact hdl.out
                clear huv
                go_wp2_with (fail)
                go_quiet (fail)
                go_wp2_with (fail)
                go_roundw
                case rel => exact ⟨k + 1, i2 + 1, d.set k u, by go_num, by go_num, by omega, by omega, HDL.out, HD.out, H.out, own_setS (own_drewN HO.out _) u, only_setCellS (only_drewN HG.out _) _ _⟩
                case measure => simp [intOf]; omega
            · have HO := Lib.hid ho
              have HG := Lib.hid hG
              have hkn : k < n := by omega
              obtain ⟨w6, hrun, ho6, hg6⟩ := run_clear_own (P := Tryz.prog) (w := wr) (t := 22) Tryz.underlying22 Tryz.zeroValue9 rfl (by intro u hu; simp [Value.cells] at hu; subst hu; rfl) ho (k := k) (by omega) (dp := some ⟨g, k, none⟩) (m := n - k) (d := c - k) rfl (fun _ => by first | rfl | (show some (⟨g, k, none⟩ : Addr) = some ⟨g, k * 1, none⟩; rw [Nat.mul_one]))
              have f1 : ¬ (i2 : Int) + 1 < ((n - (j + 1) : Nat) : Int) := by omega
              have HO6 : Hid (w6.ownsRow base 9 1 (.slice (some ⟨g, 0, none⟩) k c) k (sv (d.take k))) := by
                show World.ownsRow _ _ _ _ _ _ _
                rw [← sv_take]
                exact ho6
              have HG6 := Lib.hid (only_grown1 HG.out hg6)
              have hkl : Hid ((d.take k).length ≤ l.length) := by show _ ≤ _; rw [List.length_take, HL.out, hdl.out]; omega
              clear ho hG ho6 hg6
              go_wp2_with (fail)
              go_ret
              exact ⟨k, d.take k, rfl, hkp.out.rise, hkp.out.mem, hkl.out, HO6.out, HG6.out⟩
        · have hb : (x.toList == y.toList) = false := by rw [bytes_beq]; exact decide_eq_false hxy
          have H := Lib.hid (rises_more hr.out hy.out hx.out (fun e => hxy e.symm))
          clear hxy
          go_wp2_with (fail)
          go_quiet (fail)
          go_wp2_with (fail)
          go_roundw
          case rel => exact ⟨j + 1, by omega, by go_num, H.out, own_drewN HO.out _, only_drewN HG.out _⟩
          case measure => simp [intOf]; omega
      · have H := Lib.hid (kept_all totW HS.out hr.out (by have := HL.out; omega))
        have HO := Lib.hid ho
        have HG := Lib.hid hG
        clear ho hG
        go_wp2_with (fail)
        go_ret
        exact comp_all H.out HO.out HG.out
end Go.Proofs.YtichoidkemeibaaGreat
