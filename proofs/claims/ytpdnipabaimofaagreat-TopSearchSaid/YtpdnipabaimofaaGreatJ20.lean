/-
  prog.Check: the walk.
  prog.Check of a distance query between places: the walk.
-/
import Derived.Test.YtpdnipabaimofaaGreatJ19
import Derived.Test.YtpdnipabaimofaaGreatJ05
namespace Go.Proofs.YtpdnipabaimofaaGreat
open Go.RowKit

theorem oddWord_c (s : ByteArray) (w : World) (hs : s.size ≤ 1000000) :
    Calls Tryz.prog 44 #[.string s] w fun e w' => e = .returned (.bool (!decide (isWord s))) ∧ Below w.heap.size w w' := by
  go_enter Tryz.func44, Tryz.ntmps44
  go_wp2_with (fail)
  refine (word_c s _ hs).mono ?_
  rintro e w1 ⟨rfl, hB⟩
  go_wp2_with (fail)
  go_ret
  exact ⟨rfl, hB⟩

set_option maxRecDepth 100000 in
set_option maxHeartbeats 2000000 in
theorem indexO_c (A : Option Addr) (n c : Nat) (l : List ByteArray) (w : World) (h1 : Reads w w.heap.size 1 A n (sv l)) (hn : n ≤ maxLen) (hb : Hid (bounded l)) :
    Calls Tryz.prog 81 #[.slice A n c, .func (.func 44) #[] #[]] w fun e w' => ∃ i : Int, e = .returned (.int .i64 i) ∧ Below w.heap.size w w' := by
  have l1 := h1.str_len
  unfold maxLen at hn
  go_enter Tryz.func81, Tryz.ntmps81
  go_wp2_with (fail)
  go_loopw [8] (fun i wr => ∃ k : Nat, k ≤ n ∧ i = .int .i64 k ∧ Below w.heap.size w wr) (fun i _ => n - (intOf i).toNat)
  case atStart => exact ⟨0, Nat.zero_le _, rfl, Below.refl _ _⟩
  case round =>
    obtain ⟨k, hk, rfl, hB⟩ := hrel
    by_cases hlt : k < n
    · obtain ⟨a1, o1, x, rfl, hx, hc1⟩ := (h1.below hB).str_at hlt
      clear h1
      have L1 := Lib.hid l1
      clear l1
      go_wp2_with (fail)
      refine (oddWord_c x _ (bounded_at hb.out hx.out)).mono ?_
      rintro e w3 ⟨rfl, hB3⟩
      have hBB := hB.trans (hB3.mono hB.size)
      clear hB3
      by_cases hm : isWord x
      · rw [decide_eq_true hm]
        clear hm
        go_wp2_with (fail)
        go_roundw
        case rel => exact ⟨k + 1, by omega, by go_num, hBB⟩
        case measure => simp [intOf]; omega
      · rw [decide_eq_false hm]
        clear hm
        go_wp2_with (fail)
        go_ret
        exact ⟨_, rfl, hBB⟩
    · obtain rfl : k = n := by omega
      clear l1
      go_wp2_with (fail)
      go_ret
      exact ⟨_, rfl, hB⟩

theorem containsO_c (A : Option Addr) (n c : Nat) (l : List ByteArray) (w : World) (h1 : Reads w w.heap.size 1 A n (sv l)) (hn : n ≤ maxLen) (hb : Hid (bounded l)) :
    Calls Tryz.prog 46 #[.slice A n c, .func (.func 44) #[] #[]] w fun e w' => SomeBool w w' e := by
  go_enter Tryz.func46, Tryz.ntmps46
  go_wp2_with (fail)
  refine (indexO_c A n c l w h1 hn hb).mono ?_
  rintro e w1 ⟨i, rfl, hB⟩
  go_wp2_with (fail)
  go_ret
  exact some_bool hB

/-- What Check lets through. -/
def okQ (q : QuA) (n : Int) : Prop := (q.kind = 1 ∨ q.kind = 2 ∨ q.kind = 3) ∧ (0 ≤ q.src ∧ q.src < n) ∧ (q.kind ≠ 3 → 0 ≤ q.dst ∧ q.dst < n) ∧ (q.kind = 3 → 0 ≤ q.radius ∧ 1 ≤ q.most ∧ 1 ≤ q.nw ∧ q.most ≤ 100)

set_option maxRecDepth 100000 in
set_option maxHeartbeats 2000000 in
theorem place18_c (v n : Int) (b : Nat) (w : World) (h : w.cell? ⟨b, 0, none⟩ = some (.int .i64 n)) :
    Calls Tryz.prog 43 #[.int .i64 v, .pointer (some ⟨b, 0, none⟩)] w fun e w' => e = .returned (.bool (decide (0 ≤ v ∧ v < n))) ∧ Below w.heap.size w w' := by
  by_cases h1 : 0 ≤ v
  · by_cases h2 : v < n
    · go_enter Tryz.func43, Tryz.ntmps43
      go_wp2
      go_ret
      exact ⟨ret_bool (by simp [h1, h2]), Below.refl _ _⟩
    · go_enter Tryz.func43, Tryz.ntmps43
      go_wp2
      go_ret
      exact ⟨ret_bool (by simp; omega), Below.refl _ _⟩
  · go_enter Tryz.func43, Tryz.ntmps43
    go_wp2
    go_ret
    exact ⟨ret_bool (by simp; omega), Below.refl _ _⟩

/-- The query and the number, boxed. -/
structure ChkAt (w : World) (q : QuA) (n : Int) (W : World) : Prop where
  q_ : W.heap[w.heap.size]? = some (quBox q)
  n_ : W.heap[w.heap.size + 1]? = some (.cells #[.int .i64 n] 3 (0, 0))
  bel : Below w.heap.size w W
section
variable {w W W' : World} {q : QuA} {n : Int}
theorem ChkAt.lt (h : ChkAt w q n W) : w.heap.size + 1 < W.heap.size := (Array.getElem?_eq_some_iff.1 h.n_).1
theorem ChkAt.step (h : ChkAt w q n W) (hB : Below W.heap.size W W') : ChkAt w q n W' :=
  have hl := h.lt
  ⟨(hB.block _ (by omega)).trans h.q_, (hB.block _ (by omega)).trans h.n_, h.bel.trans (hB.mono (by omega))⟩
theorem chkAt_new (w : World) (q : QuA) (n : Int) : ChkAt w q n ((w.alloc (quBox q)).alloc (.cells #[.int .i64 n] 3)) := by
  have h1 := (w.alloc (quBox q)).alloc_heap_new (.cells #[.int .i64 n] 3)
  rw [World.size_alloc] at h1
  refine ⟨?_, h1, (below_one w _).trans ((below_one _ _).mono (by simp))⟩
  rw [Below.heap_alloc _ _ _ (by simp)]
  exact w.alloc_heap_new _
theorem ChkAt.nc (h : ChkAt w q n W) : W.cell? ⟨w.heap.size + 1, 0, none⟩ = some (.int .i64 n) := by rw [Lib.cell_of_heap h.n_]; rfl
theorem ChkAt.qc (h : ChkAt w q n W) : W.cell? ⟨w.heap.size, 0, none⟩ = some (.int .i64 q.kind) ∧ W.cell? ⟨w.heap.size, 1, none⟩ = some (.int .i64 q.src) ∧ W.cell? ⟨w.heap.size, 2, none⟩ = some (.int .i64 q.dst) ∧ W.cell? ⟨w.heap.size, 3, none⟩ = some (.slice q.W q.nw q.cw) ∧ W.cell? ⟨w.heap.size, 4, none⟩ = some (.int .i64 q.radius) ∧ W.cell? ⟨w.heap.size, 5, none⟩ = some (.int .i64 q.most) := by
  refine ⟨?_, ?_, ?_, ?_, ?_, ?_⟩ <;> · rw [Lib.cell_of_heap h.q_]; rfl
end
/-- What Check gives. -/
def ChkDone (w w' : World) (q : QuA) (n : Int) (e : Ending) : Prop := ∃ c : Int, e = .returned (.int .i64 c) ∧ (c = 0 → okQ q n) ∧ Below w.heap.size w w'
theorem chk_no {w w' : World} {q : QuA} {n c : Int} (h : c ≠ 0) (hB : Below w.heap.size w w') : ChkDone w w' q n (.returned (.int .i64 c)) := ⟨c, rfl, fun e => absurd e h, hB⟩
theorem chk_yes {w w' : World} {q : QuA} {n : Int} (h : okQ q n) (hB : Below w.heap.size w w') : ChkDone w w' q n (.returned (.int .i64 0)) := ⟨0, rfl, fun _ => h, hB⟩

set_option maxRecDepth 100000 in
set_option maxHeartbeats 4000000 in
theorem check18_12 (q : QuA) (n : Int) (w : World) (hk : q.kind = 1 ∨ q.kind = 2) :
    Calls Tryz.prog 21 #[quVal q, .int .i64 n] w fun e w' => ChkDone w w' q n e := by
  show Calls Tryz.prog 21 #[.agg #[.int .i64 q.kind, .int .i64 q.src, .int .i64 q.dst, .slice q.W q.nw q.cw, .int .i64 q.radius, .int .i64 q.most], .int .i64 n] w _
  have hmf : ∀ (fn : Fn) (first cap : Array Value) (w : World), (Instr.makeFunc fn first cap).run Tryz.prog w = .ok (.func fn first cap) w := fun _ _ _ _ => rfl
  have hx := chkAt_new w q n
  obtain ⟨q0, q1, q2, q3, q4, q5⟩ := hx.qc
  have n0 := hx.nc
  unfold quBox at q0 q1 q2 q3 q4 q5 n0
  have HX := Lib.hid hx
  have hk' := Lib.hid hk
  clear hx
  have H1 : Hid (q.kind = 1 ∨ q.kind = 2 ∨ q.kind = 3) := by have := hk; show _ ∨ _; omega
  rcases hk with hk | hk
  · have g1 : (q.kind == 1) = true := by simpa using hk
    clear hk
    go_enter Tryz.func21, Tryz.ntmps21
    go_wp2_with (fail)
    refine (place18_c q.src n (w.heap.size + 1) _ HX.out.nc).mono ?_
    rintro e w1 ⟨rfl, hB1⟩
    have HX1 := Lib.hid (HX.out.step hB1)
    clear hB1 q0 q1 q2 q3 q4 q5 n0 HX
    obtain ⟨q0, q1, q2, q3, q4, q5⟩ := HX1.out.qc
    by_cases h1 : 0 ≤ q.src ∧ q.src < n
    rotate_left
    · rw [decide_eq_false h1]
      clear h1
      go_wp2_with (fail)
      go_ret
      exact chk_no (by decide) HX1.out.bel
    rw [decide_eq_true h1]
    have H2 := Lib.hid h1
    clear h1
    go_wp2_with (fail)
    refine (place18_c q.dst n (w.heap.size + 1) _ HX1.out.nc).mono ?_
    rintro e w2 ⟨rfl, hB2⟩
    have HX2 := Lib.hid (HX1.out.step hB2)
    clear hB2 q0 q1 q2 q3 q4 q5 HX1
    by_cases h1 : 0 ≤ q.dst ∧ q.dst < n
    rotate_left
    · rw [decide_eq_false h1]
      clear h1
      go_wp2_with (fail)
      go_ret
      exact chk_no (by decide) HX2.out.bel
    rw [decide_eq_true h1]
    have H3 := Lib.hid h1
    clear h1
    go_wp2_with (fail)
    go_ret
    exact chk_yes ⟨H1.out, H2.out, fun _ => H3.out, fun h => by have := hk'.out; omega⟩ HX2.out.bel
  · have g1 : (q.kind == 1) = false := by simp; omega
    have g2 : (q.kind == 2) = true := by simpa using hk
    clear hk
    go_enter Tryz.func21, Tryz.ntmps21
    go_wp2_with (fail)
    refine (place18_c q.src n (w.heap.size + 1) _ HX.out.nc).mono ?_
    rintro e w1 ⟨rfl, hB1⟩
    have HX1 := Lib.hid (HX.out.step hB1)
    clear hB1 q0 q1 q2 q3 q4 q5 n0 HX
    obtain ⟨q0, q1, q2, q3, q4, q5⟩ := HX1.out.qc
    by_cases h1 : 0 ≤ q.src ∧ q.src < n
    rotate_left
    · rw [decide_eq_false h1]
      clear h1
      go_wp2_with (fail)
      go_ret
      exact chk_no (by decide) HX1.out.bel
    rw [decide_eq_true h1]
    have H2 := Lib.hid h1
    clear h1
    go_wp2_with (fail)
    refine (place18_c q.dst n (w.heap.size + 1) _ HX1.out.nc).mono ?_
    rintro e w2 ⟨rfl, hB2⟩
    have HX2 := Lib.hid (HX1.out.step hB2)
    clear hB2 q0 q1 q2 q3 q4 q5 HX1
    by_cases h1 : 0 ≤ q.dst ∧ q.dst < n
    rotate_left
    · rw [decide_eq_false h1]
      clear h1
      go_wp2_with (fail)
      go_ret
      exact chk_no (by decide) HX2.out.bel
    rw [decide_eq_true h1]
    have H3 := Lib.hid h1
    clear h1
    go_wp2_with (fail)
    go_ret
    exact chk_yes ⟨H1.out, H2.out, fun _ => H3.out, fun h => by have := hk'.out; omega⟩ HX2.out.bel

set_option maxRecDepth 100000 in
set_option maxHeartbeats 4000000 in
theorem check18_3 (q : QuA) (n : Int) (w : World) (l : List ByteArray) (h1 : Reads w w.heap.size 1 q.W q.nw (sv l)) (hn : q.nw ≤ maxLen) (hs : bounded l) (hk : q.kind = 3) :
    Calls Tryz.prog 21 #[quVal q, .int .i64 n] w fun e w' => ChkDone w w' q n e := by
  show Calls Tryz.prog 21 #[.agg #[.int .i64 q.kind, .int .i64 q.src, .int .i64 q.dst, .slice q.W q.nw q.cw, .int .i64 q.radius, .int .i64 q.most], .int .i64 n] w _
  have hmf : ∀ (fn : Fn) (first cap : Array Value) (w : World), (Instr.makeFunc fn first cap).run Tryz.prog w = .ok (.func fn first cap) w := fun _ _ _ _ => rfl
  have hx := chkAt_new w q n
  obtain ⟨q0, q1, q2, q3, q4, q5⟩ := hx.qc
  have n0 := hx.nc
  unfold quBox at q0 q1 q2 q3 q4 q5 n0
  have HX := Lib.hid hx
  have HS := Lib.hid hs
  have HR := Lib.hid h1
  have H1 : Hid (q.kind = 3) := hk
  have g1 : (q.kind == 1) = false := by simp; omega
  have g2 : (q.kind == 2) = false := by simp; omega
  have g3 : (q.kind == 3) = true := by simpa using hk
  clear hx hs h1 hk
  unfold maxLen at hn
  have hn' := Lib.hid hn
  by_cases k1 : 1 ≤ q.nw
  rotate_left
  · have k1' : ¬ (1 : Int) ≤ (q.nw : Int) := by omega
    go_enter Tryz.func21, Tryz.ntmps21
    go_wp2_with (fail)
    refine (place18_c q.src n (w.heap.size + 1) _ HX.out.nc).mono ?_
    rintro e w1 ⟨rfl, hB1⟩
    have HX1 := Lib.hid (HX.out.step hB1)
    clear hB1 q0 q1 q2 q3 q4 q5 n0 HX
    obtain ⟨q0, q1, q2, q3, q4, q5⟩ := HX1.out.qc
    by_cases h1 : 0 ≤ q.src ∧ q.src < n
    · rw [decide_eq_true h1]
      clear h1
      go_wp2_with (fail)
      go_ret
      exact chk_no (by decide) HX1.out.bel
    · rw [decide_eq_false h1]
      clear h1
      go_wp2_with (fail)
      go_ret
      exact chk_no (by decide) HX1.out.bel
  by_cases k2 : q.nw ≤ 8
  rotate_left
  · have k1' : (1 : Int) ≤ (q.nw : Int) := by omega
    have k2' : ¬ (q.nw : Int) ≤ 8 := by omega
    go_enter Tryz.func21, Tryz.ntmps21
    go_wp2_with (fail)
    refine (place18_c q.src n (w.heap.size + 1) _ HX.out.nc).mono ?_
    rintro e w1 ⟨rfl, hB1⟩
    have HX1 := Lib.hid (HX.out.step hB1)
    clear hB1 q0 q1 q2 q3 q4 q5 n0 HX
    obtain ⟨q0, q1, q2, q3, q4, q5⟩ := HX1.out.qc
    by_cases h1 : 0 ≤ q.src ∧ q.src < n
    · rw [decide_eq_true h1]
      clear h1
      go_wp2_with (fail)
      go_ret
      exact chk_no (by decide) HX1.out.bel
    · rw [decide_eq_false h1]
      clear h1
      go_wp2_with (fail)
      go_ret
      exact chk_no (by decide) HX1.out.bel
  have k1' : (1 : Int) ≤ (q.nw : Int) := by omega
  have k2' : (q.nw : Int) ≤ 8 := by omega
  go_enter Tryz.func21, Tryz.ntmps21
  go_wp2_with (fail)
  refine (containsO_c q.W q.nw q.cw l _ ((HR.out.below HX.out.bel).more HX.out.bel.size) hn' HS).mono ?_
  rintro e w0 ⟨b, rfl, hB0⟩
  have HX0 := Lib.hid (HX.out.step hB0)
  clear hB0 q0 q1 q2 q3 q4 q5 n0 HX
  obtain ⟨q0, q1, q2, q3, q4, q5⟩ := HX0.out.qc
  rcases b with _ | _
  rotate_left
  · go_wp2_with (fail)
    refine (place18_c q.src n (w.heap.size + 1) _ HX0.out.nc).mono ?_
    rintro e w1 ⟨rfl, hB1⟩
    have HX1 := Lib.hid (HX0.out.step hB1)
    clear hB1 q0 q1 q2 q3 q4 q5 HX0
    by_cases h1 : 0 ≤ q.src ∧ q.src < n
    · rw [decide_eq_true h1]
      clear h1
      go_wp2_with (fail)
      go_ret
      exact chk_no (by decide) HX1.out.bel
    · rw [decide_eq_false h1]
      clear h1
      go_wp2_with (fail)
      go_ret
      exact chk_no (by decide) HX1.out.bel
  · go_wp2_with (fail)
    refine (place18_c q.src n (w.heap.size + 1) _ HX0.out.nc).mono ?_
    rintro e w1 ⟨rfl, hB1⟩
    have HX1 := Lib.hid (HX0.out.step hB1)
    clear hB1 q0 q1 q2 q3 q4 q5 HX0
    obtain ⟨q0, q1, q2, q3, q4, q5⟩ := HX1.out.qc
    by_cases h1 : 0 ≤ q.src ∧ q.src < n
    rotate_left
    · rw [decide_eq_false h1]
      clear h1
      go_wp2_with (fail)
      go_ret
      exact chk_no (by decide) HX1.out.bel
    have H2 := Lib.hid h1
    rw [decide_eq_true h1]
    clear h1
    by_cases r1 : 0 ≤ q.radius
    rotate_left
    · go_wp2_with (fail)
      go_ret
      exact chk_no (by decide) HX1.out.bel
    by_cases r2 : q.radius ≤ 200
    rotate_left
    · go_wp2_with (fail)
      go_ret
      exact chk_no (by decide) HX1.out.bel
    by_cases r3 : 1 ≤ q.most
    rotate_left
    · go_wp2_with (fail)
      go_ret
      exact chk_no (by decide) HX1.out.bel
    by_cases r4 : q.most ≤ 100
    rotate_left
    · go_wp2_with (fail)
      go_ret
      exact chk_no (by decide) HX1.out.bel
    go_wp2_with (fail)
    go_ret
    exact chk_yes ⟨Or.inr (Or.inr H1.out), H2.out, fun h => absurd H1.out h, fun _ => ⟨r1, r3, k1, r4⟩⟩ HX1.out.bel

set_option maxRecDepth 100000 in
set_option maxHeartbeats 4000000 in
theorem check18_x (q : QuA) (n : Int) (w : World) (k1 : q.kind ≠ 1) (k2 : q.kind ≠ 2) (k3 : q.kind ≠ 3) :
    Calls Tryz.prog 21 #[quVal q, .int .i64 n] w fun e w' => ChkDone w w' q n e := by
  show Calls Tryz.prog 21 #[.agg #[.int .i64 q.kind, .int .i64 q.src, .int .i64 q.dst, .slice q.W q.nw q.cw, .int .i64 q.radius, .int .i64 q.most], .int .i64 n] w _
  have hmf : ∀ (fn : Fn) (first cap : Array Value) (w : World), (Instr.makeFunc fn first cap).run Tryz.prog w = .ok (.func fn first cap) w := fun _ _ _ _ => rfl
  have hx := chkAt_new w q n
  have HX := Lib.hid hx
  have g1 : (q.kind == 1) = false := by simpa using k1
  have g2 : (q.kind == 2) = false := by simpa using k2
  have g3 : (q.kind == 3) = false := by simpa using k3
  clear hx k1 k2 k3
  go_enter Tryz.func21, Tryz.ntmps21
  go_wp2_with (fail)
  go_ret
  exact chk_no (by decide) HX.out.bel

theorem check18_c (q : QuA) (n : Int) (w : World) (l : List ByteArray) (h1 : Reads w w.heap.size 1 q.W q.nw (sv l)) (hn : q.nw ≤ maxLen) (hs : bounded l) :
    Calls Tryz.prog 21 #[quVal q, .int .i64 n] w fun e w' => ChkDone w w' q n e := by
  by_cases k1 : q.kind = 1
  · exact check18_12 q n w (Or.inl k1)
  by_cases k2 : q.kind = 2
  · exact check18_12 q n w (Or.inr k2)
  by_cases k3 : q.kind = 3
  · exact check18_3 q n w l h1 hn hs k3
  exact check18_x q n w k1 k2 k3
end Go.Proofs.YtpdnipabaimofaaGreat

namespace Go.Proofs.YtpdnipabaimofaaGreat
open Go.RowKit

set_option maxRecDepth 100000 in
set_option maxHeartbeats 4000000 in
theorem check18_far (q : QuA) (n : Int) (w : World) (hk : q.kind = 1) (h1 : 0 ≤ q.src ∧ q.src < n) (h2 : 0 ≤ q.dst ∧ q.dst < n) :
    Calls Tryz.prog 21 #[quVal q, .int .i64 n] w fun e w' => e = .returned (.int .i64 0) ∧ Below w.heap.size w w' := by
  show Calls Tryz.prog 21 #[.agg #[.int .i64 q.kind, .int .i64 q.src, .int .i64 q.dst, .slice q.W q.nw q.cw, .int .i64 q.radius, .int .i64 q.most], .int .i64 n] w _
  have hmf : ∀ (fn : Fn) (first cap : Array Value) (w : World), (Instr.makeFunc fn first cap).run Tryz.prog w = .ok (.func fn first cap) w := fun _ _ _ _ => rfl
  have hx := chkAt_new w q n
  obtain ⟨q0, q1, q2, q3, q4, q5⟩ := hx.qc
  have n0 := hx.nc
  unfold quBox at q0 q1 q2 q3 q4 q5 n0
  have HX := Lib.hid hx
  have H1 := Lib.hid h1
  have H2 := Lib.hid h2
  have g1 : (q.kind == 1) = true := by simpa using hk
  clear hk hx h1 h2
  go_enter Tryz.func21, Tryz.ntmps21
  go_wp2_with (fail)
  refine (place18_c q.src n (w.heap.size + 1) _ HX.out.nc).mono ?_
  rintro e w1 ⟨rfl, hB1⟩
  have HX1 := Lib.hid (HX.out.step hB1)
  clear hB1 q0 q1 q2 q3 q4 q5 n0 HX
  obtain ⟨q0, q1, q2, q3, q4, q5⟩ := HX1.out.qc
  rw [decide_eq_true H1.out]
  go_wp2_with (fail)
  refine (place18_c q.dst n (w.heap.size + 1) _ HX1.out.nc).mono ?_
  rintro e w2 ⟨rfl, hB2⟩
  have HX2 := Lib.hid (HX1.out.step hB2)
  clear hB2 q0 q1 q2 q3 q4 q5 HX1
  rw [decide_eq_true H2.out]
  go_wp2_with (fail)
  go_ret
  exact ⟨rfl, HX2.out.bel⟩
end Go.Proofs.YtpdnipabaimofaaGreat
