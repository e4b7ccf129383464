/-
  prog.Check: the walk.
  TopBatches, plain: what holds before each step. No program in sight.
  Plain laws of chapter 1: numbers, texts and rows as bytes. No program in sight.
  A strings.Builder of the call's own: what WriteString and String do. (String by the kit's contract, laid at this dump; WriteString and copyCheck walked after the kit's own proofs.)
  The walks of the reference's Number and Text (chapter 1).
  wire.digits and its iterator.
  wire.Number: the walk.
  Number of wire and of the reference: one answer each.
  The reference's ReadNumber, ReadText and ReadNumbers: the walks.
  'n |= d << 7i' in int: no bit is set twice.
-/
import Derived.Test.YtichoidkemeibaaGreatJ21
import Derived.Test.YtichoidkemeibaaGreatJ06
import Derived.Test.YtichoidkemeibaaGreatJ22
import Derived.Test.YtichoidkemeibaaGreatJ25
import Derived.Test.YtichoidkemeibaaGreatProg
import Derived.Test.YtichoidkemeibaaGreatJ01
import Derived.Test.YtichoidkemeibaaGreatJ03
import Derived.Shelf.Strings.Builder1
import Derived.Handy
import Derived.WalkLawsBesides
import Derived.WalkSpells
import Derived.BigQuiet
import Derived.Shelf.Abstract
import Derived.TacticsIn
import Derived.BigFrameIn
import Derived.LoopIn
import Derived.OwnWalkIn
import Derived.RangeFuncCalls
import Derived.Shelf.RegionOpen
import Derived.IntWalk
import Derived.Laws.BitsAllLaws
namespace Go.Proofs.YtichoidkemeibaaGreat
open Go.RowKit

theorem oddWord_c (s : ByteArray) (w : World) (hs : s.size ≤ 1000000) :
    Calls Tryz.prog 35 #[.string s] w fun e w' => e = .returned (.bool (!decide (isWord s))) ∧ Below w.heap.size w w' := by
  go_enter Tryz.func35, Tryz.ntmps35
  go_wp2_with (fail)
  refine (word_c s _ hs).mono ?_
  rintro e w1 ⟨rfl, hB⟩
  go_wp2_with (fail)
  go_ret
  exact ⟨rfl, hB⟩

set_option maxRecDepth 100000 in
set_option maxHeartbeats 2000000 in
theorem indexO_c (A : Option Addr) (n c : Nat) (l : List ByteArray) (w : World) (h1 : Reads w w.heap.size 1 A n (sv l)) (hn : n ≤ maxLen) (hb : Hid (bounded l)) :
    Calls Tryz.prog 76 #[.slice A n c, .func (.func 35) #[] #[]] w fun e w' => ∃ i : Int, e = .returned (.int .i64 i) ∧ Below w.heap.size w w' := by
  have l1 := h1.str_len
  unfold maxLen at hn
  go_enter Tryz.func76, Tryz.ntmps76
  go_wp2_with (fail)
  go_loopw [8] (fun i wr => ∃ k : Nat, k ≤ n ∧ i = .int .i64 k ∧ Below w.heap.size w wr) (fun i _ => n - (intOf i).toNat)
  case atStart => exact ⟨0, Nat.zero_le _, rfl, Below.refl _ _⟩
  case round =>
    obtain ⟨k, hk, rfl, hB⟩ := hrel
    by_cases hlt : k < n
    · obtain ⟨a1, o1, x, rfl, hx, hc1⟩ := (h1.below hB).str_at hlt
      clear h1
      have L1 := Lib.hid l1
      clear l1
      go_wp2_with (fail)
      refine (oddWord_c x _ (bounded_at hb.out hx.out)).mono ?_
      rintro e w3 ⟨rfl, hB3⟩
      have hBB := hB.trans (hB3.mono hB.size)
      clear hB3
      by_cases hm : isWord x
      · rw [decide_eq_true hm]
        clear hm
        go_wp2_with (fail)
        go_roundw
        case rel => exact ⟨k + 1, by omega, by go_num, hBB⟩
        case measure => simp [intOf]; omega
      · rw [decide_eq_false hm]
        clear hm
        go_wp2_with (fail)
        go_ret
        exact ⟨_, rfl, hBB⟩
    · obtain rfl : k = n := by omega
      clear l1
      go_wp2_with (fail)
      go_ret
      exact ⟨_, rfl, hB⟩

theorem containsO_c (A : Option Addr) (n c : Nat) (l : List ByteArray) (w : World) (h1 : Reads w w.heap.size 1 A n (sv l)) (hn : n ≤ maxLen) (hb : Hid (bounded l)) :
    Calls Tryz.prog 37 #[.slice A n c, .func (.func 35) #[] #[]] w fun e w' => SomeBool w w' e := by
  go_enter Tryz.func37, Tryz.ntmps37
  go_wp2_with (fail)
  refine (indexO_c A n c l w h1 hn hb).mono ?_
  rintro e w1 ⟨i, rfl, hB⟩
  go_wp2_with (fail)
  go_ret
  exact some_bool hB

/-- What Check lets through. -/
def okQ (q : QuA) (n : Int) : Prop := (q.kind = 1 ∨ q.kind = 2 ∨ q.kind = 3) ∧ (0 ≤ q.src ∧ q.src < n) ∧ (q.kind ≠ 3 → 0 ≤ q.dst ∧ q.dst < n)

set_option maxRecDepth 100000 in
set_option maxHeartbeats 2000000 in
theorem place18_c (v n : Int) (b : Nat) (w : World) (h : w.cell? ⟨b, 0, none⟩ = some (.int .i64 n)) :
    Calls Tryz.prog 34 #[.int .i64 v, .pointer (some ⟨b, 0, none⟩)] w fun e w' => e = .returned (.bool (decide (0 ≤ v ∧ v < n))) ∧ Below w.heap.size w w' := by
  by_cases h1 : 0 ≤ v
  · by_cases h2 : v < n
    · go_enter Tryz.func34, Tryz.ntmps34
      go_wp2
      go_ret
      exact ⟨ret_bool (by simp [h1, h2]), Below.refl _ _⟩
    · go_enter Tryz.func34, Tryz.ntmps34
      go_wp2
      go_ret
      exact ⟨ret_bool (by simp; omega), Below.refl _ _⟩
  · go_enter Tryz.func34, Tryz.ntmps34
    go_wp2
    go_ret
    exact ⟨ret_bool (by simp; omega), Below.refl _ _⟩

/-- The query and the number, boxed. -/
structure ChkAt (w : World) (q : QuA) (n : Int) (W : World) : Prop where
  q_ : W.heap[w.heap.size]? = some (quBox q)
  n_ : W.heap[w.heap.size + 1]? = some (.cells #[.int .i64 n] 3 (0, 0))
  bel : Below w.heap.size w W
section
variable {w W W' : World} {q : QuA} {n : Int}
theorem ChkAt.lt (h : ChkAt w q n W) : w.heap.size + 1 < W.heap.size := (Array.getElem?_eq_some_iff.1 h.n_).1
theorem ChkAt.step (h : ChkAt w q n W) (hB : Below W.heap.size W W') : ChkAt w q n W' :=
  have hl := h.lt
  ⟨(hB.block _ (by omega)).trans h.q_, (hB.block _ (by omega)).trans h.n_, h.bel.trans (hB.mono (by omega))⟩
theorem chkAt_new (w : World) (q : QuA) (n : Int) : ChkAt w q n ((w.alloc (quBox q)).alloc (.cells #[.int .i64 n] 3)) := by
  have h1 := (w.alloc (quBox q)).alloc_heap_new (.cells #[.int .i64 n] 3)
  rw [World.size_alloc] at h1
  refine ⟨?_, h1, (below_one w _).trans ((below_one _ _).mono (by simp))⟩
  rw [Below.heap_alloc _ _ _ (by simp)]
  exact w.alloc_heap_new _
theorem ChkAt.nc (h : ChkAt w q n W) : W.cell? ⟨w.heap.size + 1, 0, none⟩ = some (.int .i64 n) := by rw [Lib.cell_of_heap h.n_]; rfl
theorem ChkAt.qc (h : ChkAt w q n W) : W.cell? ⟨w.heap.size, 0, none⟩ = some (.int .i64 q.kind) ∧ W.cell? ⟨w.heap.size, 1, none⟩ = some (.int .i64 q.src) ∧ W.cell? ⟨w.heap.size, 2, none⟩ = some (.int .i64 q.dst) ∧ W.cell? ⟨w.heap.size, 3, none⟩ = some (.slice q.W q.nw q.cw) ∧ W.cell? ⟨w.heap.size, 4, none⟩ = some (.int .i64 q.radius) ∧ W.cell? ⟨w.heap.size, 5, none⟩ = some (.int .i64 q.most) := by
  refine ⟨?_, ?_, ?_, ?_, ?_, ?_⟩ <;> · rw [Lib.cell_of_heap h.q_]; rfl
end
/-- What Check gives. -/
def ChkDone (w w' : World) (q : QuA) (n : Int) (e : Ending) : Prop := ∃ c : Int, e = .returned (.int .i64 c) ∧ (c = 0 → okQ q n) ∧ Below w.heap.size w w'
theorem chk_no {w w' : World} {q : QuA} {n c : Int} (h : c ≠ 0) (hB : Below w.heap.size w w') : ChkDone w w' q n (.returned (.int .i64 c)) := ⟨c, rfl, fun e => absurd e h, hB⟩
theorem chk_yes {w w' : World} {q : QuA} {n : Int} (h : okQ q n) (hB : Below w.heap.size w w') : ChkDone w w' q n (.returned (.int .i64 0)) := ⟨0, rfl, fun _ => h, hB⟩

set_option maxRecDepth 100000 in
set_option maxHeartbeats 4000000 in
theorem check18_12 (q : QuA) (n : Int) (w : World) (hk : q.kind = 1 ∨ q.kind = 2) :
    Calls Tryz.prog 12 #[quVal q, .int .i64 n] w fun e w' => ChkDone w w' q n e := by
  show Calls Tryz.prog 12 #[.agg #[.int .i64 q.kind, .int .i64 q.src, .int .i64 q.dst, .slice q.W q.nw q.cw, .int .i64 q.radius, .int .i64 q.most], .int .i64 n] w _
  have hmf : ∀ (fn : Fn) (first cap : Array Value) (w : World), (Instr.makeFunc fn first cap).run Tryz.prog w = .ok (.func fn first cap) w := fun _ _ _ _ => rfl
  have hx := chkAt_new w q n
  obtain ⟨q0, q1, q2, q3, q4, q5⟩ := hx.qc
  have n0 := hx.nc
  unfold quBox at q0 q1 q2 q3 q4 q5 n0
  have HX := Lib.hid hx
  have hk' := Lib.hid hk
  clear hx
  have H1 : Hid (q.kind = 1 ∨ q.kind = 2 ∨ q.kind = 3) := by have := hk; show _ ∨ _; omega
  rcases hk with hk | hk
  · have g1 : (q.kind == 1) = true := by simpa using hk
    clear hk
    go_enter Tryz.func12, Tryz.ntmps12
    go_wp2_with (fail)
    refine (place18_c q.src n (w.heap.size + 1) _ HX.out.nc).mono ?_
    rintro e w1 ⟨rfl, hB1⟩
    have HX1 := Lib.hid (HX.out.step hB1)
    clear hB1 q0 q1 q2 q3 q4 q5 n0 HX
    obtain ⟨q0, q1, q2, q3, q4, q5⟩ := HX1.out.qc
    by_cases h1 : 0 ≤ q.src ∧ q.src < n
    rotate_left
    · rw [decide_eq_false h1]
      clear h1
      go_wp2_with (fail)
      go_ret
      exact chk_no (by decide) HX1.out.bel
    rw [decide_eq_true h1]
    have H2 := Lib.hid h1
    clear h1
    go_wp2_with (fail)
    refine (place18_c q.dst n (w.heap.size + 1) _ HX1.out.nc).mono ?_
    rintro e w2 ⟨rfl, hB2⟩
    have HX2 := Lib.hid (HX1.out.step hB2)
    clear hB2 q0 q1 q2 q3 q4 q5 HX1
    by_cases h1 : 0 ≤ q.dst ∧ q.dst < n
    rotate_left
    · rw [decide_eq_false h1]
      clear h1
      go_wp2_with (fail)
      go_ret
      exact chk_no (by decide) HX2.out.bel
    rw [decide_eq_true h1]
    have H3 := Lib.hid h1
    clear h1
    go_wp2_with (fail)
    go_ret
    exact chk_yes ⟨H1.out, H2.out, fun _ => H3.out⟩ HX2.out.bel
  · have g1 : (q.kind == 1) = false := by simp; omega
    have g2 : (q.kind == 2) = true := by simpa using hk
    clear hk
    go_enter Tryz.func12, Tryz.ntmps12
    go_wp2_with (fail)
    refine (place18_c q.src n (w.heap.size + 1) _ HX.out.nc).mono ?_
    rintro e w1 ⟨rfl, hB1⟩
    have HX1 := Lib.hid (HX.out.step hB1)
    clear hB1 q0 q1 q2 q3 q4 q5 n0 HX
    obtain ⟨q0, q1, q2, q3, q4, q5⟩ := HX1.out.qc
    by_cases h1 : 0 ≤ q.src ∧ q.src < n
    rotate_left
    · rw [decide_eq_false h1]
      clear h1
      go_wp2_with (fail)
      go_ret
      exact chk_no (by decide) HX1.out.bel
    rw [decide_eq_true h1]
    have H2 := Lib.hid h1
    clear h1
    go_wp2_with (fail)
    refine (place18_c q.dst n (w.heap.size + 1) _ HX1.out.nc).mono ?_
    rintro e w2 ⟨rfl, hB2⟩
    have HX2 := Lib.hid (HX1.out.step hB2)
    clear hB2 q0 q1 q2 q3 q4 q5 HX1
    by_cases h1 : 0 ≤ q.dst ∧ q.dst < n
    rotate_left
    · rw [decide_eq_false h1]
      clear h1
      go_wp2_with (fail)
      go_ret
      exact chk_no (by decide) HX2.out.bel
    rw [decide_eq_true h1]
    have H3 := Lib.hid h1
    clear h1
    go_wp2_with (fail)
    go_ret
    exact chk_yes ⟨H1.out, H2.out, fun _ => H3.out⟩ HX2.out.bel

set_option maxRecDepth 100000 in
set_option maxHeartbeats 4000000 in
theorem check18_3 (q : QuA) (n : Int) (w : World) (l : List ByteArray) (h1 : Reads w w.heap.size 1 q.W q.nw (sv l)) (hn : q.nw ≤ maxLen) (hs : bounded l) (hk : q.kind = 3) :
    Calls Tryz.prog 12 #[quVal q, .int .i64 n] w fun e w' => ChkDone w w' q n e := by
  show Calls Tryz.prog 12 #[.agg #[.int .i64 q.kind, .int .i64 q.src, .int .i64 q.dst, .slice q.W q.nw q.cw, .int .i64 q.radius, .int .i64 q.most], .int .i64 n] w _
  have hmf : ∀ (fn : Fn) (first cap : Array Value) (w : World), (Instr.makeFunc fn first cap).run Tryz.prog w = .ok (.func fn first cap) w := fun _ _ _ _ => rfl
  have hx := chkAt_new w q n
  obtain ⟨q0, q1, q2, q3, q4, q5⟩ := hx.qc
  have n0 := hx.nc
  unfold quBox at q0 q1 q2 q3 q4 q5 n0
  have HX := Lib.hid hx
  have HS := Lib.hid hs
  have HR := Lib.hid h1
  have H1 : Hid (q.kind = 3) := hk
  have g1 : (q.kind == 1) = false := by simp; omega
  have g2 : (q.kind == 2) = false := by simp; omega
  have g3 : (q.kind == 3) = true := by simpa using hk
  clear hx hs h1 hk
  unfold maxLen at hn
  have hn' := Lib.hid hn
  by_cases k1 : 1 ≤ q.nw
  rotate_left
  · have k1' : ¬ (1 : Int) ≤ (q.nw : Int) := by omega
    go_enter Tryz.func12, Tryz.ntmps12
    go_wp2_with (fail)
    refine (place18_c q.src n (w.heap.size + 1) _ HX.out.nc).mono ?_
    rintro e w1 ⟨rfl, hB1⟩
    have HX1 := Lib.hid (HX.out.step hB1)
    clear hB1 q0 q1 q2 q3 q4 q5 n0 HX
    obtain ⟨q0, q1, q2, q3, q4, q5⟩ := HX1.out.qc
    by_cases h1 : 0 ≤ q.src ∧ q.src < n
    · rw [decide_eq_true h1]
      clear h1
      go_wp2_with (fail)
      go_ret
      exact chk_no (by decide) HX1.out.bel
    · rw [decide_eq_false h1]
      clear h1
      go_wp2_with (fail)
      go_ret
      exact chk_no (by decide) HX1.out.bel
  by_cases k2 : q.nw ≤ 8
  rotate_left
  · have k1' : (1 : Int) ≤ (q.nw : Int) := by omega
    have k2' : ¬ (q.nw : Int) ≤ 8 := by omega
    go_enter Tryz.func12, Tryz.ntmps12
    go_wp2_with (fail)
    refine (place18_c q.src n (w.heap.size + 1) _ HX.out.nc).mono ?_
    rintro e w1 ⟨rfl, hB1⟩
    have HX1 := Lib.hid (HX.out.step hB1)
    clear hB1 q0 q1 q2 q3 q4 q5 n0 HX
    obtain ⟨q0, q1, q2, q3, q4, q5⟩ := HX1.out.qc
    by_cases h1 : 0 ≤ q.src ∧ q.src < n
    · rw [decide_eq_true h1]
      clear h1
      go_wp2_with (fail)
      go_ret
      exact chk_no (by decide) HX1.out.bel
    · rw [decide_eq_false h1]
      clear h1
      go_wp2_with (fail)
      go_ret
      exact chk_no (by decide) HX1.out.bel
  have k1' : (1 : Int) ≤ (q.nw : Int) := by omega
  have k2' : (q.nw : Int) ≤ 8 := by omega
  go_enter Tryz.func12, Tryz.ntmps12
  go_wp2_with (fail)
  refine (containsO_c q.W q.nw q.cw l _ ((HR.out.below HX.out.bel).more HX.out.bel.size) hn' HS).mono ?_
  rintro e w0 ⟨b, rfl, hB0⟩
  have HX0 := Lib.hid (HX.out.step hB0)
  clear hB0 q0 q1 q2 q3 q4 q5 n0 HX
  obtain ⟨q0, q1, q2, q3, q4, q5⟩ := HX0.out.qc
  rcases b with _ | _
  rotate_left
  · go_wp2_with (fail)
    refine (place18_c q.src n (w.heap.size + 1) _ HX0.out.nc).mono ?_
    rintro e w1 ⟨rfl, hB1⟩
    have HX1 := Lib.hid (HX0.out.step hB1)
    clear hB1 q0 q1 q2 q3 q4 q5 HX0
    by_cases h1 : 0 ≤ q.src ∧ q.src < n
    · rw [decide_eq_true h1]
      clear h1
      go_wp2_with (fail)
      go_ret
      exact chk_no (by decide) HX1.out.bel
    · rw [decide_eq_false h1]
      clear h1
      go_wp2_with (fail)
      go_ret
      exact chk_no (by decide) HX1.out.bel
  · go_wp2_with (fail)
    refine (place18_c q.src n (w.heap.size + 1) _ HX0.out.nc).mono ?_
    rintro e w1 ⟨rfl, hB1⟩
    have HX1 := Lib.hid (HX0.out.step hB1)
    clear hB1 q0 q1 q2 q3 q4 q5 HX0
    obtain ⟨q0, q1, q2, q3, q4, q5⟩ := HX1.out.qc
    by_cases h1 : 0 ≤ q.src ∧ q.src < n
    rotate_left
    · rw [decide_eq_false h1]
      clear h1
      go_wp2_with (fail)
      go_ret
      exact chk_no (by decide) HX1.out.bel
    have H2 := Lib.hid h1
    rw [decide_eq_true h1]
    clear h1
    by_cases r1 : 0 ≤ q.radius
    rotate_left
    · go_wp2_with (fail)
      go_ret
      exact chk_no (by decide) HX1.out.bel
    by_cases r2 : q.radius ≤ 200
    rotate_left
    · go_wp2_with (fail)
      go_ret
      exact chk_no (by decide) HX1.out.bel
    by_cases r3 : 1 ≤ q.most
    rotate_left
    · go_wp2_with (fail)
      go_ret
      exact chk_no (by decide) HX1.out.bel
    by_cases r4 : q.most ≤ 100
    rotate_left
    · go_wp2_with (fail)
      go_ret
      exact chk_no (by decide) HX1.out.bel
    go_wp2_with (fail)
    go_ret
    exact chk_yes ⟨Or.inr (Or.inr H1.out), H2.out, fun h => absurd H1.out h⟩ HX1.out.bel

set_option maxRecDepth 100000 in
set_option maxHeartbeats 4000000 in
theorem check18_x (q : QuA) (n : Int) (w : World) (k1 : q.kind ≠ 1) (k2 : q.kind ≠ 2) (k3 : q.kind ≠ 3) :
    Calls Tryz.prog 12 #[quVal q, .int .i64 n] w fun e w' => ChkDone w w' q n e := by
  show Calls Tryz.prog 12 #[.agg #[.int .i64 q.kind, .int .i64 q.src, .int .i64 q.dst, .slice q.W q.nw q.cw, .int .i64 q.radius, .int .i64 q.most], .int .i64 n] w _
  have hmf : ∀ (fn : Fn) (first cap : Array Value) (w : World), (Instr.makeFunc fn first cap).run Tryz.prog w = .ok (.func fn first cap) w := fun _ _ _ _ => rfl
  have hx := chkAt_new w q n
  have HX := Lib.hid hx
  have g1 : (q.kind == 1) = false := by simpa using k1
  have g2 : (q.kind == 2) = false := by simpa using k2
  have g3 : (q.kind == 3) = false := by simpa using k3
  clear hx k1 k2 k3
  go_enter Tryz.func12, Tryz.ntmps12
  go_wp2_with (fail)
  go_ret
  exact chk_no (by decide) HX.out.bel

theorem check18_c (q : QuA) (n : Int) (w : World) (l : List ByteArray) (h1 : Reads w w.heap.size 1 q.W q.nw (sv l)) (hn : q.nw ≤ maxLen) (hs : bounded l) :
    Calls Tryz.prog 12 #[quVal q, .int .i64 n] w fun e w' => ChkDone w w' q n e := by
  by_cases k1 : q.kind = 1
  · exact check18_12 q n w (Or.inl k1)
  by_cases k2 : q.kind = 2
  · exact check18_12 q n w (Or.inr k2)
  by_cases k3 : q.kind = 3
  · exact check18_3 q n w l h1 hn hs k3
  exact check18_x q n w k1 k2 k3
end Go.Proofs.YtichoidkemeibaaGreat

namespace Go.Proofs.YtichoidkemeibaaGreat
open Go.RowKit

/-- A message or state of step i. -/
def tm (n : Nat) (i : Nat) (x : Msg) : Prop := x.slot = 3 ∧ (x.dir = 0 ∨ x.dir = 1) ∧ (0 ≤ x.v ∧ x.v < (n : Int)) ∧ (0 ≤ x.d ∧ x.d ≤ (i : Int))
theorem tm_may {n i : Nat} {x : Msg} (h : tm n i x) (hn : n ≤ 200) (hi : i ≤ 200) : mayM x ∧ x.v < (n : Int) := by
  obtain ⟨h1, h2, h3, h4⟩ := h
  unfold mayM mayK
  omega
theorem tm_more {n i : Nat} {x : Msg} (h : tm n i x) : tm n (i + 1) x := by
  obtain ⟨h1, h2, h3, h4⟩ := h
  exact ⟨h1, h2, h3, h4.1, by omega⟩
theorem rise_lenI : ∀ (l : List Int) (lo hi : Int), l.Pairwise (· < ·) → (∀ x ∈ l, lo ≤ x ∧ x < hi) → lo ≤ hi → (l.length : Int) ≤ hi - lo
  | [], lo, hi, _, _, h => by simp; omega
  | x :: l, lo, hi, hp, hb, h => by
    rw [List.pairwise_cons] at hp
    have hx := hb x (by simp)
    have ih := rise_lenI l (x + 1) hi hp.2 (fun y hy => ⟨by have := hp.1 y hy; omega, (hb y (by simp [hy])).2⟩) (by omega)
    rw [List.length_cons]
    omega
theorem tm_len {n i : Nat} {l : List Msg} (h : ∀ x ∈ l, tm n i x) (hp : l.Pairwise kless) : l.length ≤ 2 * n := by
  have h1 : (l.map fun x => x.dir * (n : Int) + x.v).Pairwise (· < ·) := by
    rw [List.pairwise_map]
    refine hp.imp_of_mem fun {a b} ha hb hk => ?_
    obtain ⟨a1, a2, a3, -⟩ := h a ha
    obtain ⟨b1, b2, b3, -⟩ := h b hb
    unfold kless at hk
    rcases a2 with a2 | a2 <;> rcases b2 with b2 | b2 <;> · (rw [a2, b2] at hk ⊢; omega)
  have h2 := rise_lenI _ 0 (2 * (n : Int)) h1 (fun y hy => by
    obtain ⟨x, hx, rfl⟩ := List.mem_map.1 hy
    obtain ⟨-, a2, a3, -⟩ := h x hx
    rcases a2 with a2 | a2 <;> rw [a2] <;> omega) (by omega)
  rw [List.length_map] at h2
  omega

/-- What holds before step i. -/
structure Inv (n i : Nat) (S M : List Msg) : Prop where
  s_ : ∀ x ∈ S, tm n i x
  sr : S.Pairwise kless
  m_ : ∀ x ∈ M, tm n i x
  mr : M.Pairwise kless
theorem Inv.ok {n i : Nat} {S M : List Msg} (h : Inv n i S M) (hn : n ≤ 200) (hi : i ≤ 200) {k : Int} (hk : 1 ≤ k ∧ k ≤ 16) : stepOk S M k (n : Int) :=
  ⟨⟨fun x hx => tm_may (h.s_ x hx) hn hi, h.sr⟩, fun x hx => (tm_may (h.m_ x hx) hn hi).1, fun x hx => (tm_may (h.m_ x hx) hn hi).2, hk⟩
theorem Inv.may {n i : Nat} {S M : List Msg} (h : Inv n i S M) (hn : n ≤ 200) (hi : i ≤ 200) : allMay M := fun x hx => (tm_may (h.m_ x hx) hn hi).1
theorem Inv.fitS {n i : Nat} {S M : List Msg} (h : Inv n i S M) (hn : n ≤ 200) (hi : i ≤ 200) : ∀ x ∈ S, x.fits := fun x hx => may_fits (tm_may (h.s_ x hx) hn hi).1
theorem Inv.fitM {n i : Nat} {S M : List Msg} (h : Inv n i S M) (hn : n ≤ 200) (hi : i ≤ 200) : ∀ x ∈ M, x.fits := fun x hx => may_fits (tm_may (h.m_ x hx) hn hi).1
theorem inv_start {q : QuA} {n : Nat} (h : okQ q (n : Int)) : Inv n 0 [] (startM q.kind q.src q.dst 3) := by
  obtain ⟨h1, h2, h3⟩ := h
  refine ⟨by simp, by simp, fun x hx => ?_, ?_⟩
  · unfold startM at hx
    split at hx
    · simp only [List.mem_cons, List.not_mem_nil, or_false] at hx
      have h4 := h3 (by omega)
      rcases hx with rfl | rfl
      · exact ⟨rfl, .inl rfl, h2, by simp⟩
      · exact ⟨rfl, .inr rfl, h4, by simp⟩
    · split at hx
      · simp only [List.mem_cons, List.not_mem_nil, or_false] at hx
        subst hx
        exact ⟨rfl, .inl rfl, h2, by simp⟩
      · simp at hx
  · unfold startM
    split
    · simp [kless]
    · split <;> simp
theorem inv_step {kind radius : Int} {r : Rws} {i : Nat} {S M : List Msg} (hc : chkR r) (h : Inv r.n i S M) : Inv r.n (i + 1) (stepS S M) (stepM (nxM kind radius r) S M) := by
  have hi := stepS_is M h.sr
  have hf : ∀ x ∈ freshL S M, tm r.n i x := fun x hx => h.m_ x (freshL_mem hx)
  refine ⟨fun x hx => ?_, hi.1, fun x hx => ?_, freshL_rise _ _⟩
  · rcases (hi.2.1 x).1 hx with hx | hx
    · exact tm_more (h.s_ x hx)
    · exact tm_more (hf x hx)
  · obtain ⟨y, hy, hx⟩ := List.mem_flatMap.1 (freshL_mem hx)
    obtain ⟨y1, y2, y3, y4⟩ := hf y hy
    unfold nxM at hx
    split at hx
    · simp at hx
    · obtain ⟨u, hu, rfl⟩ := List.mem_map.1 hx
      refine ⟨y1, y2, row_in hc y2 y3 hu, ?_, ?_⟩ <;> simp only <;> omega
theorem stepR_perm {kind radius : Int} {r : Rws} {S M Z : List Msg} {k n : Int} (h : Z.Perm M) (hc : chkR r) (hok : stepOk S M k n) : stepR kind radius r S Z k n = (stepS S M, stepM (nxM kind radius r) S M, 0) := by
  have hf : freshL S Z = freshL S M := freshL_same fun m => h.mem_iff
  have hs : stepS S Z = stepS S M := by unfold stepS; rw [hf]
  have hm : stepM (nxM kind radius r) S Z = stepM (nxM kind radius r) S M := by unfold stepM; rw [hs, hf]
  have hk : stepOk S Z k n := ⟨hok.1, fun x hx => hok.2.1 x (h.mem_iff.1 hx), fun x hx => hok.2.2.1 x (h.mem_iff.1 hx), hok.2.2.2⟩
  rw [stepR_yes hc hk, hs, hm]
end Go.Proofs.YtichoidkemeibaaGreat

namespace Go.Proofs.YtichoidkemeibaaGreat

/-- A number's bytes, with fuel. -/
def numB : Nat → Nat → List UInt8
  | 0, n => [UInt8.ofNat n]
  | f + 1, n => if n < 128 then [UInt8.ofNat n] else UInt8.ofNat (128 + n % 128) :: numB f (n / 128)

/-- A number's bytes. -/
def numBytes (n : Nat) : List UInt8 := numB 4 n

def maxNum : Nat := 2147483647

/-- What digits in base 128 are worth, the lowest one first. -/
def valN : List UInt8 → Nat
  | [] => 0
  | c :: cs => c.toNat % 128 + 128 * valN cs

theorem numB_small (f n : Nat) (h : n < 128) : numB f n = [UInt8.ofNat n] := by
  cases f with
  | zero => rfl
  | succ f => simp [numB, h]

theorem numB_big (f n : Nat) (h : 128 ≤ n) : numB (f + 1) n = UInt8.ofNat (128 + n % 128) :: numB f (n / 128) := by
  simp only [numB]; rw [if_neg (by omega)]

theorem numB_len_le : ∀ (f n : Nat), (numB f n).length ≤ f + 1
  | 0, _ => by simp [numB]
  | f + 1, n => by
    simp only [numB]
    split
    · simp
    · have := numB_len_le f (n / 128); simp; omega
theorem numB_len_pos : ∀ (f n : Nat), 1 ≤ (numB f n).length
  | 0, _ => by simp [numB]
  | f + 1, n => by
    simp only [numB]
    split <;> simp

theorem numBytes_len (n : Nat) : 1 ≤ (numBytes n).length ∧ (numBytes n).length ≤ 5 := ⟨numB_len_pos 4 n, numB_len_le 4 n⟩

/-- Enough fuel is enough. -/
theorem numB_fuel : ∀ (f g n : Nat), n < 128 ^ (f + 1) → n < 128 ^ (g + 1) → numB f n = numB g n
  | 0, g, n, h, _ => by rw [numB_small g n (by simpa using h)]; rfl
  | f + 1, 0, n, _, h => by rw [numB_small (f + 1) n (by simpa using h)]; rfl
  | f + 1, g + 1, n, h1, h2 => by
    by_cases h : n < 128
    · rw [numB_small _ _ h, numB_small _ _ h]
    · rw [numB_big f n (by omega), numB_big g n (by omega)]
      congr 1
      refine numB_fuel f g (n / 128) ?_ ?_
      · rw [Nat.div_lt_iff_lt_mul (by omega)]; rw [Nat.pow_succ] at h1; exact h1
      · rw [Nat.div_lt_iff_lt_mul (by omega)]; rw [Nat.pow_succ] at h2; exact h2

theorem numBytes_big (n : Nat) (h : 128 ≤ n) (h2 : n ≤ maxNum) : numBytes n = UInt8.ofNat (128 + n % 128) :: numBytes (n / 128) := by
  unfold numBytes maxNum at *
  rw [numB_big 3 n h]
  congr 1
  refine numB_fuel 3 4 _ ?_ ?_
  · have : (128 : Nat) ^ (3 + 1) = 268435456 := by decide
    omega
  · have : (128 : Nat) ^ (4 + 1) = 34359738368 := by decide
    omega
theorem numBytes_small (n : Nat) (h : n < 128) : numBytes n = [UInt8.ofNat n] := numB_small 4 n h

theorem u8_ofNat (n : Nat) (h : n < 256) : (UInt8.ofNat n).toNat = n := by
  rw [UInt8.toNat_ofNat']; exact Nat.mod_eq_of_lt h

theorem valN_numB : ∀ (f n : Nat), n < 128 ^ (f + 1) → valN (numB f n) = n
  | 0, n, h => by
    have h' : n < 128 := by simpa using h
    simp only [numB, valN]; rw [u8_ofNat n (by omega)]; omega
  | f + 1, n, h => by
    by_cases h' : n < 128
    · rw [numB_small _ _ h']; simp only [valN]; rw [u8_ofNat n (by omega)]; omega
    · rw [numB_big f n (by omega)]
      simp only [valN]
      rw [valN_numB f (n / 128) (by rw [Nat.div_lt_iff_lt_mul (by omega)]; rw [Nat.pow_succ] at h; exact h), u8_ofNat _ (by omega)]
      omega

theorem maxNum_lt {n : Nat} (h : n ≤ maxNum) : n < 128 ^ (4 + 1) := by
  have : (128 : Nat) ^ (4 + 1) = 34359738368 := by decide
  unfold maxNum at h
  omega

theorem valN_numBytes (n : Nat) (h : n ≤ maxNum) : valN (numBytes n) = n := valN_numB 4 n (maxNum_lt h)

/-- The place of the first byte below 128, among the first ones. -/
def scan : Nat → List UInt8 → Option Nat
  | 0, _ => none
  | _ + 1, [] => none
  | f + 1, c :: cs => if c.toNat < 128 then some 0 else (scan f cs).map (· + 1)

theorem scan_some : ∀ (f : Nat) (l : List UInt8) (i : Nat) (c : UInt8), i < f → l[i]? = some c → c.toNat < 128 → (∀ j d, j < i → l[j]? = some d → 128 ≤ d.toNat) → scan f l = some i
  | 0, _, _, _, h, _, _, _ => absurd h (by omega)
  | f + 1, [], i, c, _, h, _, _ => by simp at h
  | f + 1, d :: ds, 0, c, _, h, hc, _ => by
    simp at h; subst h
    simp [scan, hc]
  | f + 1, d :: ds, i + 1, c, hi, h, hc, hj => by
    have hd : 128 ≤ d.toNat := hj 0 d (by omega) (by simp)
    simp only [scan]
    rw [if_neg (by omega), scan_some f ds i c (by omega) (by simpa using h) hc (fun j e h1 h2 => hj (j + 1) e (by omega) (by simpa using h2))]
    rfl

theorem scan_none : ∀ (f : Nat) (l : List UInt8), (∀ j d, j < f → l[j]? = some d → 128 ≤ d.toNat) → scan f l = none
  | 0, _, _ => rfl
  | f + 1, [], _ => rfl
  | f + 1, d :: ds, h => by
    have hd : 128 ≤ d.toNat := h 0 d (by omega) (by simp)
    simp only [scan]
    rw [if_neg (by omega), scan_none f ds (fun j e h1 h2 => h (j + 1) e (by omega) (by simpa using h2))]
    rfl

theorem scan_spec : ∀ (f : Nat) (l : List UInt8) (i : Nat), scan f l = some i → i < f ∧ (∃ c, l[i]? = some c ∧ c.toNat < 128) ∧ ∀ j d, j < i → l[j]? = some d → 128 ≤ d.toNat
  | 0, _, _, h => by simp [scan] at h
  | f + 1, [], i, h => by simp [scan] at h
  | f + 1, c :: cs, i, h => by
    simp only [scan] at h
    split at h
    · rename_i hc
      injection h with h; subst h
      exact ⟨by omega, ⟨c, by simp, hc⟩, fun j d hj _ => absurd hj (by omega)⟩
    · rename_i hc
      cases hs : scan f cs with
      | none => rw [hs] at h; simp at h
      | some k =>
        rw [hs] at h; simp at h; subst h
        obtain ⟨h1, ⟨d, h2, h3⟩, h4⟩ := scan_spec f cs k hs
        refine ⟨by omega, ⟨d, by simpa using h2, h3⟩, fun j e hj he => ?_⟩
        cases j with
        | zero => simp at he; subst he; omega
        | succ j => exact h4 j e (by omega) (by simpa using he)

/-- What is read of bytes: a number, and how many bytes it has. -/
def rdNum (l : List UInt8) : Option (Nat × Nat) :=
  match scan 5 l with
  | none => none
  | some i => if valN (l.take (i + 1)) ≤ maxNum ∧ numBytes (valN (l.take (i + 1))) = l.take (i + 1) then some (valN (l.take (i + 1)), i + 1) else none

theorem valN_snoc (c : UInt8) : ∀ l : List UInt8, valN (l ++ [c]) = valN l + 128 ^ l.length * (c.toNat % 128)
  | [] => by simp [valN]
  | d :: l => by
    simp only [List.cons_append, valN, List.length_cons]
    rw [valN_snoc c l, Nat.mul_add, Nat.pow_succ, ← Nat.mul_assoc, Nat.mul_comm 128 (128 ^ l.length)]
    omega

theorem valN_lt : ∀ l : List UInt8, valN l < 128 ^ l.length
  | [] => by simp [valN]
  | d :: l => by
    have := valN_lt l
    simp only [valN, List.length_cons, Nat.pow_succ]
    have := Nat.mod_lt d.toNat (show 0 < 128 by omega)
    omega

theorem numB_last : ∀ (f n : Nat), n < 128 ^ (f + 1) → 1 ≤ n → ∀ c, (numB f n).getLast? = some c → c.toNat ≠ 0
  | 0, n, h, h1, c, hc => by
    have h' : n < 128 := by simpa using h
    simp [numB] at hc
    rw [← hc, u8_ofNat n (by omega)]; omega
  | f + 1, n, h, h1, c, hc => by
    by_cases h' : n < 128
    · rw [numB_small _ _ h'] at hc
      simp at hc
      rw [← hc, u8_ofNat n (by omega)]; omega
    · rw [numB_big f n (by omega)] at hc
      have hne : numB f (n / 128) ≠ [] := fun e => by have := numB_len_pos f (n / 128); rw [e] at this; simp at this
      rw [List.getLast?_cons, List.getLast?_eq_some_getLast hne] at hc
      refine numB_last f (n / 128) (by rw [Nat.div_lt_iff_lt_mul (by omega)]; rw [Nat.pow_succ] at h; exact h) (by omega) c ?_
      rw [List.getLast?_eq_some_getLast hne]
      simpa using hc

/-- Digits that end in one that is not nought are the bytes of what they are worth. -/
theorem numB_of_digits : ∀ (p : List UInt8) (c : UInt8) (f : Nat), p.length ≤ f → c.toNat < 128 → (∀ d ∈ p, 128 ≤ d.toNat) → (p = [] ∨ c.toNat ≠ 0) → numB f (valN (p ++ [c])) = p ++ [c]
  | [], c, f, _, hc, _, _ => by
    simp only [List.nil_append, valN]
    rw [Nat.mul_zero, Nat.add_zero, Nat.mod_eq_of_lt hc, numB_small f _ hc]
    simp
  | d :: p, c, f, hf, hc, hd, h0 => by
    have h0' : c.toNat ≠ 0 := by rcases h0 with h | h; cases h; exact h
    obtain ⟨g, rfl⟩ : ∃ g, f = g + 1 := ⟨f - 1, by simp at hf; omega⟩
    have hpos : 1 ≤ valN (p ++ [c]) := by
      rw [valN_snoc, Nat.mod_eq_of_lt hc]
      have : 0 < 128 ^ p.length * c.toNat := Nat.mul_pos (Nat.pow_pos (by omega)) (by omega)
      omega
    have hdd := hd d (by simp)
    have hdl : d.toNat < 256 := d.toNat_lt
    simp only [List.cons_append, valN]
    have ih := numB_of_digits p c g (by simp at hf; omega) hc (fun e he => hd e (by simp [he])) (.inr h0')
    generalize valN (p ++ [c]) = m at hpos ih
    rw [numB_big g _ (by omega), show (d.toNat % 128 + 128 * m) / 128 = m by omega, ih, show 128 + (d.toNat % 128 + 128 * m) % 128 = d.toNat by omega]
    simp

theorem digits_bad (p : List UInt8) (c : UInt8) (hp : p ≠ []) (hc : c.toNat = 0) (hv : valN (p ++ [c]) ≤ maxNum) : numBytes (valN (p ++ [c])) ≠ p ++ [c] := by
  intro e
  by_cases h1 : 1 ≤ valN (p ++ [c])
  · exact numB_last 4 _ (maxNum_lt hv) h1 c (by rw [show numB 4 (valN (p ++ [c])) = p ++ [c] from e]; simp) hc
  · have h0 : valN (p ++ [c]) = 0 := by omega
    rw [h0, numBytes_small 0 (by omega)] at e
    have := congrArg List.length e
    simp at this
    exact hp this

/-- The program's test is the reference's. -/
theorem digits_iff (p : List UInt8) (c : UInt8) (hl : p.length ≤ 4) (hc : c.toNat < 128) (hd : ∀ d ∈ p, 128 ≤ d.toNat) :
    (valN (p ++ [c]) ≤ maxNum ∧ numBytes (valN (p ++ [c])) = p ++ [c]) ↔ (valN (p ++ [c]) ≤ maxNum ∧ ¬ (c.toNat = 0 ∧ 0 < p.length)) := by
  constructor
  · rintro ⟨h1, h2⟩
    refine ⟨h1, fun ⟨h3, h4⟩ => ?_⟩
    exact digits_bad p c (fun e => by rw [e] at h4; simp at h4) h3 h1 h2
  · rintro ⟨h1, h2⟩
    refine ⟨h1, numB_of_digits p c 4 hl hc hd ?_⟩
    by_cases hp : p = []
    · exact .inl hp
    · refine .inr (fun h0 => h2 ⟨h0, ?_⟩)
      cases p with
      | nil => exact absurd rfl hp
      | cons _ _ => simp

theorem numB_digits : ∀ (f n : Nat), n < 128 ^ (f + 1) → ∃ p c, numB f n = p ++ [c] ∧ c.toNat < 128 ∧ ∀ d ∈ p, 128 ≤ d.toNat
  | 0, n, h => ⟨[], UInt8.ofNat n, rfl, by have h' : n < 128 := by simpa using h
                                           rw [u8_ofNat n (by omega)]; exact h', fun d hd => by simp at hd⟩
  | f + 1, n, h => by
    by_cases h' : n < 128
    · exact ⟨[], UInt8.ofNat n, numB_small _ _ h', by rw [u8_ofNat n (by omega)]; exact h', fun d hd => by simp at hd⟩
    · obtain ⟨p, c, e, h1, h2⟩ := numB_digits f (n / 128) (by rw [Nat.div_lt_iff_lt_mul (by omega)]; rw [Nat.pow_succ] at h; exact h)
      refine ⟨UInt8.ofNat (128 + n % 128) :: p, c, by rw [numB_big f n (by omega), e]; rfl, h1, fun d hd => ?_⟩
      rcases List.mem_cons.1 hd with rfl | hd
      · rw [u8_ofNat _ (by omega)]; omega
      · exact h2 d hd

theorem scan_digits (p : List UInt8) (c : UInt8) (r : List UInt8) (hl : p.length ≤ 4) (hc : c.toNat < 128) (hd : ∀ d ∈ p, 128 ≤ d.toNat) : scan 5 (p ++ [c] ++ r) = some p.length := by
  refine scan_some 5 _ p.length c (by omega) (by simp) hc (fun j d hj hd' => ?_)
  rw [List.append_assoc, List.getElem?_append_left hj] at hd'
  exact hd d (List.mem_of_getElem? hd')

/-- What is laid is read as it. -/
theorem rdNum_back (n : Nat) (r : List UInt8) (h : n ≤ maxNum) : rdNum (numBytes n ++ r) = some (n, (numBytes n).length) := by
  obtain ⟨p, c, e, hc, hd⟩ := numB_digits 4 n (maxNum_lt h)
  have e' : numBytes n = p ++ [c] := e
  have hl : p.length ≤ 4 := by have := numB_len_le 4 n; rw [e] at this; simp at this; omega
  unfold rdNum
  rw [e', scan_digits p c r hl hc hd]
  have ht : (p ++ [c] ++ r).take (p.length + 1) = p ++ [c] := by
    rw [List.take_append_of_le_length (by simp)]
    exact List.take_of_length_le (by simp)
  have hv : valN (p ++ [c]) = n := by rw [← e']; exact valN_numBytes n h
  simp only [ht, hv]
  rw [if_pos ⟨h, e'⟩]
  simp

/-- What is read is laid as the same bytes. -/
theorem rdNum_same {l : List UInt8} {n k : Nat} (h : rdNum l = some (n, k)) : n ≤ maxNum ∧ numBytes n = l.take k ∧ 1 ≤ k ∧ k ≤ 5 ∧ k ≤ l.length := by
  unfold rdNum at h
  split at h
  · cases h
  · rename_i i hi
    split at h
    · rename_i hc
      cases h
      obtain ⟨h1, ⟨c, h2, _⟩, _⟩ := scan_spec 5 l i hi
      have := (List.getElem?_eq_some_iff.1 h2).1
      exact ⟨hc.1, hc.2, by omega, by omega, by omega⟩
    · cases h

end Go.Proofs.YtichoidkemeibaaGreat

namespace Go.Proofs.YtichoidkemeibaaGreat
open Go.RowKit Go.Shelf

def lays169_ren : Go.Shelf.Ren := ⟨fun | 169 => 82 | n => n, fun | 70 => 120 | 9 => 9 | 0 => 0 | 72 => 123 | 37 => 121 | 127 => 168 | 3 => 3 | 5 => 5 | n => n, fun | n => n⟩
theorem lays169 : Go.Proofs.Lays.n169 Tryz.prog lays169_ren := {
  mixed := by kernel_rfl
  f169 := Tryz.func82.trans (congrArg some (by kernel_rfl))
  t0 := Tryz.underlying0
  a0 := Tryz.isAgg0
  z0 := Tryz.sizeOf0
  v0 := Tryz.zeroValue0
  t3 := Tryz.underlying3
  a3 := Tryz.isAgg3
  z3 := Tryz.sizeOf3
  v3 := Tryz.zeroValue3
  t9 := Tryz.underlying9
  a9 := Tryz.isAgg9
  z9 := Tryz.sizeOf9
  v9 := Tryz.zeroValue9
  t37 := Tryz.underlying121
  a37 := Tryz.isAgg121
  z37 := Tryz.sizeOf121
  v37 := Tryz.zeroValue121
  t70 := Tryz.underlying120
  a70 := Tryz.isAgg120
  z70 := Tryz.sizeOf120
  v70 := Tryz.zeroValue120
  t72 := Tryz.underlying123
  a72 := Tryz.isAgg123
  z72 := Tryz.sizeOf123
  v72 := Tryz.zeroValue123
  t127 := Tryz.underlying168
  a127 := Tryz.isAgg168
  z127 := Tryz.sizeOf168
  v127 := Tryz.zeroValue168 }
theorem builder_Extra : Builder.Extra Tryz.prog lays169_ren := {
  sizeBuilder := by kernel_rfl
  liesBuilder := by kernel_rfl
  t5 := Tryz.underlying5
  a5 := Tryz.isAgg5
  z5 := Tryz.sizeOf5
  v5 := Tryz.zeroValue5
  infoByte := by kernel_rfl
  cellsByte := by kernel_rfl
  sizeByte := by kernel_rfl
  neB5 := by decide }

/-- String, whatever the builder holds. -/
theorem builderString_c (B b : Nat) (l : List UInt8) (w : World) (h : Lib.IsBuilder 123 5 B b (Lib.byteCells l) w) (hBw : B ≤ w.heap.size) :
    Calls Tryz.prog 82 #[.pointer (some ⟨b, 0, none⟩)] w fun e w' => e = .returned (.string ⟨l.toArray⟩) ∧ Below B w w' := Any.Builder_String_any lays169 builder_Extra B b l w h hBw

theorem sizeBuilder : (Tryz.prog.info? 123).map (·.size) = some 2 := by kernel_rfl

set_option maxRecDepth 100000 in
theorem copyCheck_used (b : Nat) (w : World) (h0 : w.cell? ⟨b, 0, none⟩ = some (.pointer (some ⟨b, 0, none⟩))) :
    Calls Tryz.prog 116 #[.pointer (some ⟨b, 0, none⟩)] w fun e w' => e = .returned (.tuple #[]) ∧ w' = w := by
  obtain ⟨j, hj, _⟩ := Option.map_eq_some_iff.1 sizeBuilder
  go_enter Tryz.func116, Tryz.ntmps116
  go_wp2
  rw [Lib.run_neq_ptr_same w _ Tryz.underlying120 hj]
  go_wp2
  go_end0
  exact ⟨rfl, rfl⟩

set_option maxRecDepth 100000 in
set_option maxHeartbeats 1000000 in
theorem copyCheck_fresh (b : Nat) (w : World) (h0 : w.cell? ⟨b, 0, none⟩ = some (.pointer none)) (hsh : w.shape? b = some (123, 2)) (hfz : w.frozen? ⟨b, 0, none⟩ = false) :
    Calls Tryz.prog 116 #[.pointer (some ⟨b, 0, none⟩)] w fun e w' => e = .returned (.tuple #[]) ∧ w' = w.setCell ⟨b, 0, none⟩ (.pointer (some ⟨b, 0, none⟩)) := by
  obtain ⟨j, hj, hjs⟩ := Option.map_eq_some_iff.1 sizeBuilder
  go_enter Tryz.func116, Tryz.ntmps116
  go_wp2
  rw [Lib.run_to_unsafe w ⟨b, 0, none⟩ Tryz.underlying120 Tryz.underlying190 hj (by rw [hjs]; decide) hsh (Nat.zero_lt_succ 1)]
  simp only [Result.andThen]
  rw [Oper.upon_value]
  go_wp2
  rw [run_callFunc_extern Tryz.func144 (by kernel_rfl) (by kernel_rfl) (by kernel_rfl) (e := Extern.AbiNoEscape.same) (by kernel_rfl)]
  rw [Lib.run_noEscape]
  simp only [Result.andThen]
  rw [Oper.upon_value]
  go_wp2
  rw [Lib.run_from_unsafe w ⟨b, 0, none⟩ Tryz.underlying190 Tryz.underlying120 hj hsh (by kernel_rfl)]
  simp only [Result.andThen]
  rw [Oper.upon_value]
  go_wp2
  go_end0
  exact ⟨rfl, rfl⟩

/-- A builder of the call's own, from block B on, at block b, that holds the bytes l. -/
def IsB (w : World) (B b : Nat) (l : List UInt8) : Prop := Lib.IsBuilder 123 5 B b (Lib.byteCells l) w

theorem infoByte : (Tryz.prog.info? 5).map (fun i => (i.zero, i.size, i.bytes)) = some (some (.int .u8 0), 1, 1) := by kernel_rfl

set_option maxRecDepth 100000 in
set_option maxHeartbeats 1000000 in
theorem writeString_c (B b : Nat) (l : List UInt8) (s : ByteArray) (w : World) (h : IsB w B b l) (hlen : l.length + s.size ≤ 140737488355328) (hBw : B ≤ w.heap.size) :
    Calls Tryz.prog 80 #[.pointer (some ⟨b, 0, none⟩), .string s] w fun e w' => e = .returned (.tuple #[.int .i64 s.size, .nilIface]) ∧ IsB w' B b (l ++ s.data.toList) ∧ Below B w w' := by
  obtain ⟨i0, hi, hz0, hz1, hz2⟩ := info_parts infoByte
  have hcc : Calls Tryz.prog 116 #[.pointer (some ⟨b, 0, none⟩)] w fun e w' => e = .returned (.tuple #[]) ∧ (Lib.BuilderAt 123 5 B b (.pointer (some ⟨b, 0, none⟩)) (Lib.byteCells l) w' ∧ Below B w w') := by
    rcases h with h | h
    · refine (copyCheck_fresh b w h.cell0 h.shape h.frozen0).mono ?_
      rintro e w' ⟨rfl, rfl⟩
      exact ⟨rfl, h.used _, (Below.refl B w).setCell (p := ⟨b, 0, none⟩) h.1 _⟩
    · refine (copyCheck_used b w h.cell0).mono ?_
      rintro e w' ⟨rfl, rfl⟩
      exact ⟨rfl, h, Below.refl B _⟩
  have HC := Lib.hid hcc
  clear hcc h
  have hll : (Lib.byteCells l).length = l.length := Lib.byteCells_length l
  go_enter Tryz.func80, Tryz.ntmps80
  go_wp2_with (go_at_call 116; refine HC.out.mono ?_)
  rintro e w1 ⟨rfl, h1, hb1⟩
  obtain ⟨hB, v, hbk, hown, hne⟩ := h1
  have c0 : w1.cell? ⟨b, 0, none⟩ = some (.pointer (some ⟨b, 0, none⟩)) := by rw [Lib.cell_of_heap hbk]; rfl
  have c1 : w1.cell? ⟨b, 1, none⟩ = some v := by rw [Lib.cell_of_heap hbk]; rfl
  have hBw1 := hb1.size
  go_wp2_with (at_builtin; refine Lib.wpList_append_own_string _ rfl _ _ 121 9 rfl B 5 i0 Tryz.underlying121 Tryz.underlying9 hi hz0 hz1 hz2 _ _ _ rfl hown s rfl ?c3 ?c4 ?c5 ?_)
  case c3 => unfold maxLen; omega
  case c4 => omega
  case c5 => omega
  intro v' w2 hown' hgrow _
  have hlt : b < w1.heap.size := by
    rcases Nat.lt_or_ge b w1.heap.size with h' | h'
    · exact h'
    · simp [Array.getElem?_eq_none h'] at hbk
  have hb2 : w2.heap[b]? = some (.cells #[.pointer (some ⟨b, 0, none⟩), v] 123 (0, 0)) := by
    rw [hgrow.block b hlt (fun e => hne e.symm)]
    exact hbk
  have d0 : w2.cell? ⟨b, 0, none⟩ = some (.pointer (some ⟨b, 0, none⟩)) := by rw [Lib.cell_of_heap hb2]; rfl
  have d1 : w2.cell? ⟨b, 1, none⟩ = some v := by rw [Lib.cell_of_heap hb2]; rfl
  have f1 : w2.frozen? ⟨b, 1, none⟩ = false := Lib.frozen_of_heap hb2 1
  obtain ⟨ao, n', cap, rfl⟩ : ∃ ao n' cap, v' = .slice ao n' cap := by
    rcases hown'.2 with ⟨hv, _⟩ | ⟨g, cap, cur, hv, _⟩
    · exact ⟨_, _, _, hv⟩
    · exact ⟨_, _, _, hv⟩
  have HOWN := Lib.hid hown'
  clear hown' hll
  go_wp2
  go_ret2
  refine ⟨rfl, ?_, ?_⟩
  · have hbs : Lib.byteCells (l ++ s.data.toList) = Lib.byteCells l ++ Lib.strCells s := by simp [Lib.byteCells, Lib.strCells]
    refine Or.inr ?_
    rw [hbs]
    exact Lib.BuilderAt.put (T := 123) (e := 5) hB hb2 (bs' := Lib.byteCells l ++ Lib.strCells s) (by have h := HOWN.out; simp only [Lib.byteCells_length, List.length_append, Lib.strCells_length] at h ⊢; exact h) (by decide)
  · exact (hb1.grown hgrow (by omega) (fun k hk => (hown.lt k hk).1)).setCell (p := ⟨b, 1, none⟩) hB _

theorem isB_fresh (w : World) : IsB (w.alloc (.cells #[.pointer none, .slice none 0 0] 123)) w.heap.size w.heap.size [] := Lib.fresh_isBuilder _ _ w

theorem isB_lt {w : World} {B b : Nat} {l : List UInt8} (h : IsB w B b l) : B ≤ b ∧ b < w.heap.size := by
  rcases h with h | h
  · exact ⟨h.1, h.lt⟩
  · exact ⟨h.1, h.lt⟩
end Go.Proofs.YtichoidkemeibaaGreat

namespace Go.Proofs.YtichoidkemeibaaGreat
open Go.RowKit

theorem elByte : Elem Tryz.prog 121 5 1 1 := Elem.mk_ Tryz.underlying121 (z := .int .u8 0) (by kernel_rfl) rfl (by decide)

theorem bytes_append (l m : List UInt8) : Lib.byteCells (l ++ m) = Lib.byteCells l ++ Lib.byteCells m := by simp [Lib.byteCells]
theorem bytes_one (n : Nat) (x : Int) (h : n < 256) (hx : x = (n : Int)) : #[Value.int .u8 x].toList = Lib.byteCells [UInt8.ofNat n] := by
  subst hx
  simp only [Lib.byteCells, List.map_cons, List.map_nil]
  rw [u8_ofNat n h]

set_option maxRecDepth 100000 in
/-- 'string(b)', b a row of the call's own that holds the bytes l. -/
theorem convert_own {w : World} {base n c : Nat} {A : Option Addr} {l : List UInt8} (h : w.ownsRow base 5 1 (.slice A n c) n (Lib.byteCells l)) (hn : 0 < n) :
    (convert 121 9 (.slice A n c)).run Tryz.prog w = .ok (.string ⟨l.toArray⟩) w := by
  have hl : l.length = n := by have := h.1; rw [Lib.byteCells_length] at this; omega
  obtain ⟨g, cap, hv, _⟩ := h.form hn
  injection hv with hA
  subst hA
  subst hl
  refine run_convert_bytes_back w _ _ 5 ⟨g, 0, none⟩ c l Tryz.underlying121 Tryz.underlying5 Tryz.underlying9 (fun j hj => ?_)
  rw [Addr.add_lit, Nat.zero_add, h.cellAt j (by omega)]
  simp [Lib.byteCells, hj]

end Go.Proofs.YtichoidkemeibaaGreat

namespace Go.Proofs.YtichoidkemeibaaGreat
open Go.RowKit Go.Shelf

theorem digits_c (n : Int) (w : World) :
    Calls Tryz.prog 145 #[.int .i64 n] w fun e w' => e = .returned (.func (.func 166) #[] #[.pointer (some ⟨w.heap.size, 0, none⟩)]) ∧ w' = w.alloc (.cells #[.int .i64 n] 3) := by
  go_enter Tryz.func145, Tryz.ntmps145
  go_wp2
  go_ret
  exact ⟨rfl, rfl⟩

/-- The iterator's rounds from n on. -/
inductive Digs : Nat → List (Nat × Bool) → Prop
  | last (n : Nat) (h : n / 128 = 0) : Digs n [(n % 128, false)]
  | more (n : Nat) (xs : List (Nat × Bool)) (h : n / 128 ≠ 0) (t : Digs (n / 128) xs) : Digs n ((n % 128, true) :: xs)

theorem digs_some (n : Nat) : ∃ xs, Digs n xs := by
  induction n using Nat.strongRecOn with
  | _ n ih =>
    by_cases h : n / 128 = 0
    · exact ⟨_, .last n h⟩
    · obtain ⟨xs, hx⟩ := ih (n / 128) (by omega)
      exact ⟨_, .more n xs h hx⟩

theorem digs_head (n : Nat) : ∃ xs, Digs n ((n % 128, decide (0 < n / 128)) :: xs) := by
  by_cases h : n / 128 = 0
  · exact ⟨[], by rw [show decide (0 < n / 128) = false by rw [h]; rfl]; exact .last n h⟩
  · obtain ⟨xs, hx⟩ := digs_some (n / 128)
    exact ⟨xs, by rw [show decide (0 < n / 128) = true by simp; omega]; exact .more n xs h hx⟩

abbrev dEncs (p : Nat × Bool) : Array Value := #[.int .i64 p.1, .bool p.2]

def cellNat (w : World) (Bn : Nat) : Nat := match w.cell? ⟨Bn, 0, none⟩ with
  | some (.int .i64 x) => x.toNat
  | _ => 0

theorem digits_gives (F : Fence) (k : Nat) (hF : F.fn 166) (hro : F.round = none) (hk : 1 ≤ k) (n : Nat) (w : World) (Bn : Nat) (hb : Boxed w Bn 3 (.int .i64 n)) (hmax : n ≤ maxNum) :
    GivesS F k Tryz.prog 166 #[.pointer (some ⟨Bn, 0, none⟩)] dEncs Bn (Digs n) w := by
  intro l J W hW hJs hY h0
  have hbW : Boxed W Bn 3 (.int .i64 n) := (hW.block Bn hb.lt).trans hb
  have hm' : n ≤ 2147483647 := hmax
  clear hb hW hmax
  refine callsIn_of_wp Tryz.func166 rfl hF ?_ hro
  simp only [Tryz.ntmps166, List.size_toArray, List.length_cons, List.length_nil, Nat.reduceAdd, Nat.reduceSub, Array.replicate_succ, Array.replicate_zero, List.push_toArray, List.append_toArray, List.nil_append, List.cons_append]
  gi_wp2_with (fail)
  gi_loopw [] (fun wr => ∃ (m : Nat) (pre : List (Nat × Bool)), m ≤ n ∧ Boxed wr Bn 3 (.int .i64 m) ∧ J pre wr ∧ Hid (∀ xs, Digs m xs → Digs n (pre ++ xs))) (fun wr => cellNat wr Bn)
  case atStart => exact ⟨n, [], Nat.le_refl _, hbW, h0, fun xs h => h⟩
  case round =>
    obtain ⟨m, pre, hm, hb, hj, hd⟩ := hrel
    have hc := hb.cell
    have hf := hb.frozen
    have hb' : Boxed (wr.setCell ⟨Bn, 0, none⟩ (.int .i64 ((m : Int) / 128))) Bn 3 (.int .i64 ((m : Int) / 128)) := hb.set _
    obtain ⟨f1, t1, a1, b1, hy, hR⟩ := hY pre (m % 128, decide (0 < m / 128)) _ (hJs _ _ (.int .i64 ((m : Int) / 128)) hj) (by obtain ⟨xs, hx⟩ := digs_head m; exact ⟨xs, hd.out _ hx⟩)
    have hdec : decide ((0 : Int) < (m : Int) / 128) = decide (0 < m / 128) := by congr 1; apply propext; constructor <;> intro h <;> omega
    dsimp only [dEncs] at hy
    rw [show ((m % 128 : Nat) : Int) = (m : Int) % 128 by omega, ← hdec] at hy
    clear hdec
    gi_wp2
    refine hR.mono ?_
    rintro e W1 ⟨rfl, hj1, hbk⟩
    have hb1 : Boxed W1 Bn 3 (.int .i64 ((m : Int) / 128)) := hbk.trans hb'
    have hc1 := hb1.cell
    have hf1 := hb1.frozen
    by_cases h0 : m / 128 = 0
    · have d1 : ((m : Int) / 128 = 0) := by omega
      gi_wp2_with (fail)
      refine bodyPost_ret (results_none rfl _ _ _) rfl ?_
      have hq : decide (0 < m / 128) = false := by rw [h0]; rfl
      rw [hq] at hj1
      exact ⟨⟨_, rfl⟩, _, hd.out _ (.last m h0), hj1⟩
    · have d1 : ¬ ((m : Int) / 128 = 0) := by omega
      gi_wp2_with (fail)
      have hq : decide (0 < m / 128) = true := by simp; omega
      rw [hq] at hj1
      refine ⟨⟨m / 128, _, by omega, by rw [show ((m / 128 : Nat) : Int) = (m : Int) / 128 by omega]; exact hb1, hj1, ?_⟩, ?_⟩
      · show ∀ xs, _
        intro xs hx
        have := hd.out _ (.more m xs h0 hx)
        rw [List.append_assoc]; exact this
      · unfold cellNat
        rw [hc, hc1]
        show ((m : Int) / 128).toNat < (m : Int).toNat
        omega

end Go.Proofs.YtichoidkemeibaaGreat

namespace Go.Proofs.YtichoidkemeibaaGreat
open Go.RowKit Go.Shelf

attribute [local go_sem] Oper.semAt_some

theorem number_no (n : Int) (w : World) (h : n < 0 ∨ 2147483647 < n) :
    Calls Tryz.prog 117 #[.int .i64 n] w fun e w' => e = .returned (.tuple #[.string ⟨#[]⟩, .int .i64 1]) ∧ w = w' := by
  rcases h with h | h
  · go_enter Tryz.func117, Tryz.ntmps117
    go_wp2
    go_ret2
    exact ⟨rfl, rfl⟩
  · have h' : ¬ n < 0 := by omega
    go_enter Tryz.func117, Tryz.ntmps117
    go_wp2
    go_ret2
    exact ⟨rfl, rfl⟩

/-- A round's byte. -/
def dByte (p : Nat × Bool) : UInt8 := UInt8.ofNat (if p.2 then p.1 + 128 else p.1)

theorem digs_bytes {n : Nat} {xs : List (Nat × Bool)} (h : Digs n xs) (hn : n ≤ maxNum) : xs.map dByte = numBytes n := by
  induction h with
  | last n h => rw [numBytes_small n (by omega)]; simp [dByte]; congr 1; omega
  | more n xs h t ih =>
    rw [numBytes_big n (by omega) hn, List.map_cons, ih (by omega)]
    simp [dByte, Nat.add_comm]

theorem digs_small {n : Nat} {xs : List (Nat × Bool)} (h : Digs n xs) (hn : n ≤ maxNum) : ∀ p ∈ xs, p.1 < 128 := by
  induction h with
  | last n h => intro p hp; simp at hp; subst hp; show n % 128 < 128; omega
  | more n xs h t ih =>
    intro p hp
    rcases List.mem_cons.1 hp with rfl | hp
    · show n % 128 < 128; omega
    · exact ih (by omega) p hp

/-- A round's end: the longer row is stored into the box. -/
theorem round_end {B0 d : Nat} {mo : Bool} {w W w3 : World} {A : Option Addr} {c g3 c3 : Nat} {pre : List (Nat × Bool)} {u : Value} (hB : Below w.heap.size w W) (hsz : w.heap.size + 2 ≤ W.heap.size)
    (hbx : Boxed W w.heap.size 121 (.slice A pre.length c)) (ho : W.ownsRow (w.heap.size + 2) 5 1 (.slice A pre.length c) pre.length (Lib.byteCells (pre.map dByte)))
    (hne : some w.heap.size ≠ (Value.slice A pre.length c).ownBlock)
    (ho3 : w3.ownsRow (w.heap.size + 2) 5 1 (.slice (some ⟨g3, 0, none⟩) (pre.length + 1) c3) (pre.length + 1) (Lib.byteCells (pre.map dByte) ++ [u]))
    (hg3 : (W.alloc (.cells #[u] 5)).grownBy w3 (Value.slice A pre.length c).ownBlock) (hu : #[u].toList = Lib.byteCells [UInt8.ofNat B0]) (hd : UInt8.ofNat B0 = dByte (d, mo)) :
    KeepsOthers W (w3.setCell ⟨w.heap.size, 0, none⟩ (.slice (some ⟨g3, 0, none⟩) (pre.length + 1) c3)) ∧
    (w3.setCell ⟨w.heap.size, 0, none⟩ (.slice (some ⟨g3, 0, none⟩) (pre.length + 1) c3)).heap[w.heap.size + 1]? = W.heap[w.heap.size + 1]? ∧
    Below w.heap.size w (w3.setCell ⟨w.heap.size, 0, none⟩ (.slice (some ⟨g3, 0, none⟩) (pre.length + 1) c3)) ∧
    w.heap.size + 2 ≤ (w3.setCell ⟨w.heap.size, 0, none⟩ (.slice (some ⟨g3, 0, none⟩) (pre.length + 1) c3)).heap.size ∧
    ∃ A' c', Boxed (w3.setCell ⟨w.heap.size, 0, none⟩ (.slice (some ⟨g3, 0, none⟩) (pre.length + 1) c3)) w.heap.size 121 (.slice A' (pre ++ [(d, mo)]).length c') ∧
      (w3.setCell ⟨w.heap.size, 0, none⟩ (.slice (some ⟨g3, 0, none⟩) (pre.length + 1) c3)).ownsRow (w.heap.size + 2) 5 1 (.slice A' (pre ++ [(d, mo)]).length c') (pre ++ [(d, mo)]).length (Lib.byteCells ((pre ++ [(d, mo)]).map dByte)) := by
  have hgr : (W.alloc (.cells #[u] 5)).heap.size ≤ w3.heap.size := hg3.size
  rw [World.size_alloc] at hgr
  have hb3 : Boxed w3 w.heap.size 121 (.slice A pre.length c) := (hbx.alloc _).kept hg3 hne
  have hown : ∀ k, (Value.slice A pre.length c).ownBlock = some k → w.heap.size + 2 ≤ k ∧ ∃ cs t fr, W.heap[k]? = some (.cells cs t fr) := by
    intro k hk
    rcases ho.2 with ⟨h1, _⟩ | ⟨g, cap, cur, h1, h2, hgb, _⟩
    · rw [h1] at hk; cases hk
    · rw [h1] at hk
      simp [Value.ownBlock] at hk
      subst hk
      exact ⟨h2, _, _, _, hgb⟩
  have hkeep : ∀ k, k < W.heap.size → some k ≠ (Value.slice A pre.length c).ownBlock → k ≠ w.heap.size → (w3.setCell ⟨w.heap.size, 0, none⟩ (.slice (some ⟨g3, 0, none⟩) (pre.length + 1) c3)).heap[k]? = W.heap[k]? := by
    intro k hk h1 h2
    rw [heap_setCell_ne _ _ _ _ h2, hg3.block k (by simp; omega) h1]
    exact Below.heap_alloc W _ k hk
  refine ⟨⟨by simp; omega, fun k o hk hoc => ?_⟩, ?_, ?_, by simp; omega, some ⟨g3, 0, none⟩, c3, ?_, ?_⟩
  · refine (hkeep k (Array.getElem?_eq_some_iff.1 hk).1 (fun e => ?_) (fun e => ?_)).trans hk
    · obtain ⟨_, cs, t, fr, h3⟩ := hown k e.symm
      rw [hk] at h3; cases h3; cases hoc
    · subst e
      rw [show W.heap[w.heap.size]? = _ from hbx] at hk; cases hk; cases hoc
  · refine hkeep _ (by omega) (fun e => ?_) (by omega)
    have := (hown _ e.symm).1
    omega
  · refine ⟨?_, ?_, ?_, ?_, ?_⟩
    · exact hg3.os.trans hB.os
    · exact hg3.tape.trans hB.tape
    · exact hg3.output.trans hB.output
    · have := hB.size; simp; omega
    · intro k hk
      refine (hkeep k (by omega) (fun e => ?_) (by omega)).trans (hB.block k hk)
      have := (hown _ e.symm).1
      omega
  · have := hb3.set (.slice (some ⟨g3, 0, none⟩) (pre.length + 1) c3)
    simpa using this
  · have hl : (pre ++ [(d, mo)]).length = pre.length + 1 := by simp
    rw [hl, List.map_append, bytes_append, List.map_singleton, ← hd, ← hu]
    exact ho3.kept (grownBy_setCell' w3 w.heap.size _) (.inr (by simp [Value.ownBlock]; have := (own_lt ho3 _ rfl).1; simp at this; omega))

set_option maxRecDepth 100000 in
set_option maxHeartbeats 2000000 in
theorem number_c (n : Nat) (w : World) (h : n ≤ maxNum) :
    Calls Tryz.prog 117 #[.int .i64 n] w fun e w' => e = .returned (.tuple #[.string ⟨(numBytes n).toArray⟩, .int .i64 0]) ∧ Below w.heap.size w w' := by
  rw [← callsIn_wide (n := 10)]
  have hmax : n ≤ 2147483647 := h
  have d1 : decide ((n : Int) < 0) = false := by simp
  refine callsIn_of_wp_marks Tryz.func117 rfl trivial ?_ rfl
  simp only [Tryz.ntmps117, List.size_toArray, List.length_cons, List.length_nil, Nat.reduceAdd, Nat.reduceSub, Array.replicate_succ, Array.replicate_zero, List.push_toArray, List.append_toArray, List.nil_append, List.cons_append]
  have HM := Lib.hid h
  gi_wp2_with (fail)
  refine ⟨trivial, (callsIn_wide.2 (digits_c n _)).mono ?_⟩
  rintro e w' ⟨rfl, rfl⟩
  gi_wp2_with (fail)
  have hB0 : Below w.heap.size w ((w.alloc (.cells #[.slice none 0 0] 121)).alloc (.cells #[.int .i64 n] 3)) := ((Below.refl _ w).alloc (Nat.le_refl _) _).alloc (by simp) _
  have hbox : Boxed ((w.alloc (.cells #[.slice none 0 0] 121)).alloc (.cells #[.int .i64 n] 3)) w.heap.size 121 (.slice none 0 0) := (Boxed.new w 121 _).alloc _
  have hbn : Boxed ((w.alloc (.cells #[.slice none 0 0] 121)).alloc (.cells #[.int .i64 n] 3)) (w.heap.size + 1) 3 (.int .i64 n) := by
    have := Boxed.new (w.alloc (.cells #[.slice none 0 0] 121)) 3 (.int .i64 n)
    simpa using this
  refine wpIn_range_state rfl (by omega) (gf := 166) (lb := #[.pointer (some ⟨w.heap.size + 1, 0, none⟩)]) rfl trivial (enters_of Tryz.func166 (by kernel_rfl) rfl)
    (encs := dEncs) (Bn := w.heap.size + 1) (S := Digs n) (digits_gives _ _ trivial rfl (by omega) n _ _ hbn h) (by simp) (fun _ => rfl)
    (fun pre X => Below w.heap.size w X ∧ w.heap.size + 2 ≤ X.heap.size ∧ ∃ A c, Boxed X w.heap.size 121 (.slice A pre.length c) ∧ X.ownsRow (w.heap.size + 2) 5 1 (.slice A pre.length c) pre.length (Lib.byteCells (pre.map dByte)))
    ?own ?set ?start (fun x => { tmps := #[.int .i64 n, undef, .string ⟨#[]⟩, .int .i64 0, .pointer (some ⟨w.heap.size, 0, none⟩), .int .i64 x.1, .bool x.2, .int .i64 n, .bool false, .bool false, .int .i64 n,
      .bool (decide (2147483647 < (n : Int))), .bool (decide (2147483647 < (n : Int))), .int .i64 n, .func (.func 166) #[] #[.pointer (some ⟨w.heap.size + 1, 0, none⟩)],
      .int .i64 x.1, .bool x.2, undef, undef, undef, undef, undef, undef, undef, undef, undef, undef], defers := [] }) ?assign ?body ?done
  case assign =>
    intro l x W K hK
    gi_wp2_with (fail)
    exact hK
  case start => exact ⟨hB0, by simp, none, 0, hbox, own_nil⟩
  case set =>
    rintro pre X v ⟨hB, hsz, A, c, hbx, ho⟩
    refine ⟨hB.setCell (by simp) v, by simpa using hsz, A, c, hbx.kept (grownBy_setCell' X _ v) (by simp), ho.kept (grownBy_setCell' X _ v) ?_⟩
    rw [own_block]
    cases hA : A with
    | none => simp
    | some a => right; have := (own_lt ho a hA).1; simp; omega
  case own =>
    rintro pre X Y row ⟨hB, hsz, A, c, hbx, ho⟩ hg hr
    have hcl : ∀ g : Nat, g < X.heap.size → (∃ cs t fr, X.heap[g]? = some (.cells cs t fr)) → some g ≠ row := by
      rintro g _ ⟨cs, t, fr, hx⟩ e'
      obtain ⟨_, o, ho', hc'⟩ := hr g e'.symm
      rw [hx] at ho'; cases ho'; cases hc'
    refine ⟨hB.grown hg hB.size (fun k e => by have := (hr k e).1; simp at this; omega), Nat.le_trans hsz hg.size, A, c, hbx.kept hg (hcl _ hbx.lt ⟨_, _, _, hbx⟩), ho.kept hg ?_⟩
    rw [own_block]
    cases hA : A with
    | none => simp
    | some a =>
      right
      subst hA
      rcases ho.2 with ⟨h1, _⟩ | ⟨g, cap, cur, h1, _, hgb, _⟩
      · cases h1
      · cases h1
        exact hcl _ (Array.getElem?_eq_some_iff.1 hgb).1 ⟨_, _, _, hgb⟩
  case body =>
    rintro l pre ⟨d, mo⟩ W ⟨hB, hsz, A, c, hbx, ho⟩ ⟨xs, hdx⟩
    have hd : d < 128 := digs_small hdx h (d, mo) (by simp)
    have hlen : pre.length ≤ 4 := by
      have h1 := digs_bytes hdx h
      have h2 := (numBytes_len n).2
      rw [← h1] at h2
      simp at h2; omega
    have hc := hbx.cell
    have hf := hbx.frozen
    have hne : some w.heap.size ≠ (Value.slice A pre.length c).ownBlock := by
      rw [own_block]
      cases hA : A with
      | none => simp
      | some a => have := (own_lt ho a hA).1; simp; omega
    obtain ⟨i0, z0, hi, hz, hsz0, hby, hzs⟩ := elByte.info
    cases mo
    · gi_wp2_with (gi_at_builtin; refine wpListIn_append_own _ rfl _ _ 121 rfl (w.heap.size + 2) 5 i0 z0 1 1 elByte.under hi hz hsz0 hby hzs elByte.pos _ _ _ rfl (ho.alloc _) ⟨W.heap.size, 0, none⟩ 1 1 [.int .u8 d] rfl rfl (cell_one_new _ _ _) (by simp [Value.oneCell']) (by unfold maxLen; omega) (by omega) (by simp; omega) ?_; intro v' w3 ho3 hg3 _; obtain ⟨g3, c3, rfl⟩ := ownsRow_succ ho3; have hb3 : Boxed w3 w.heap.size 121 (.slice A pre.length c) := (hbx.alloc _).kept hg3 hne; have hc3 := hb3.cell; have hf3 := hb3.frozen)
      have R := round_end (d := d) (mo := false) hB hsz hbx ho hne ho3 hg3 (bytes_one d _ (by omega) (by simp)) rfl
      simpa using R
    · gi_wp2_with (gi_at_builtin; refine wpListIn_append_own _ rfl _ _ 121 rfl (w.heap.size + 2) 5 i0 z0 1 1 elByte.under hi hz hsz0 hby hzs elByte.pos _ _ _ rfl (ho.alloc _) ⟨W.heap.size, 0, none⟩ 1 1 [.int .u8 (d + 128)] rfl rfl (cell_one_new _ _ _) (by simp [Value.oneCell']) (by unfold maxLen; omega) (by omega) (by simp; omega) ?_; intro v' w3 ho3 hg3 _; obtain ⟨g3, c3, rfl⟩ := ownsRow_succ ho3; have hb3 : Boxed w3 w.heap.size 121 (.slice A pre.length c) := (hbx.alloc _).kept hg3 hne; have hc3 := hb3.cell; have hf3 := hb3.frozen)
      have R := round_end (d := d) (mo := true) hB hsz hbx ho hne ho3 hg3 (bytes_one (d + 128) _ (by omega) (by simp)) rfl
      simpa using R
  case done =>
    rintro D xs W hD hS ⟨hB, hsz, A, c, hbx, ho⟩ hK
    have hx := digs_bytes hS h
    have hlen : 0 < xs.length := by
      have h2 := (numBytes_len n).1
      rw [← hx] at h2
      have h3 : xs.length = (xs.map dByte).length := by simp
      omega
    rw [hx] at ho
    have hcv := convert_own ho hlen
    have hc := hbx.cell
    have hf := hbx.frozen
    gi_wp2_with (fail)
    refine ⟨by simp, .inl ⟨_, _, rfl, run_takeDeferred hK, ?_⟩⟩
    refine ⟨_, results_tmp2 rfl _ _ _, rfl, ?_⟩
    exact hB.grown (grownBy_putObj' W D (.deferred none)) hB.size (fun k e => by cases e; simp at hD; omega)
end Go.Proofs.YtichoidkemeibaaGreat

namespace Go.Proofs.YtichoidkemeibaaGreat
open Go.RowKit

theorem cat_bytes (l : List UInt8) (s : ByteArray) : (⟨l.toArray⟩ : ByteArray) ++ s = ⟨(l ++ s.data.toList).toArray⟩ := by
  apply ByteArray.ext
  rw [ByteArray.data_append]
  apply Array.ext'
  simp

/-- May it be laid? -/
def good (x : Int) : Prop := 0 ≤ x ∧ x ≤ 2147483647
instance (x : Int) : Decidable (good x) := by unfold good; infer_instance

theorem number_any (x : Int) (w : World) :
    Calls Tryz.prog 117 #[.int .i64 x] w fun e w' => e = .returned (if good x then .tuple #[.string ⟨(numBytes x.toNat).toArray⟩, .int .i64 0] else .tuple #[.string ⟨#[]⟩, .int .i64 1]) ∧ Below w.heap.size w w' := by
  by_cases h : good x
  · obtain ⟨h1, h2⟩ := id h
    rw [if_pos h]
    obtain ⟨n, rfl⟩ : ∃ n : Nat, x = n := ⟨x.toNat, by omega⟩
    exact number_c n w (by unfold maxNum; omega)
  · rw [if_neg h]
    refine (number_no x w (by unfold good at h; omega)).mono ?_
    rintro e w' ⟨rfl, rfl⟩
    exact ⟨rfl, Below.refl _ _⟩

def numStr (x : Int) : ByteArray := if good x then ⟨(numBytes x.toNat).toArray⟩ else ⟨#[]⟩
def numErr (x : Int) : Int := if good x then 0 else 1
def numV (x : Int) : Value := .tuple #[.string (numStr x), .int .i64 (numErr x)]

theorem num_val (x : Int) : (if good x then Value.tuple #[.string ⟨(numBytes x.toNat).toArray⟩, .int .i64 0] else .tuple #[.string ⟨#[]⟩, .int .i64 1]) = numV x := by
  unfold numV numStr numErr
  by_cases h : good x
  · simp only [if_pos h]
  · simp only [if_neg h]

theorem numberT (x : Int) (w : World) : Calls Tryz.prog 117 #[.int .i64 x] w fun e w' => e = .returned (numV x) ∧ Below w.heap.size w w' := by
  rw [← num_val]; exact number_any x w
theorem size_list (s : ByteArray) : s.data.toList.length = s.size := by rw [Array.length_toList]; rfl

theorem bytes_ext {s t : ByteArray} (h : s.data.toList = t.data.toList) : s = t := ByteArray.ext (Array.ext' h)

theorem good_max {x : Int} (h : good x) : x.toNat ≤ maxNum := by have := h.2; unfold maxNum; omega

theorem numBytes_front {n m : Nat} (hn : n ≤ maxNum) (hm : m ≤ maxNum) {r r' : List UInt8} (h : numBytes n ++ r = numBytes m ++ r') : n = m ∧ r = r' := by
  have h1 := rdNum_back n r hn
  rw [h, rdNum_back m r' hm] at h1
  injection h1 with h1
  injection h1 with h1 h2
  subst h1
  exact ⟨rfl, List.append_cancel_left h⟩

theorem numStr_list {n : Int} (h : good n) : (numStr n).data.toList = numBytes n.toNat := by unfold numStr; rw [if_pos h]
theorem numErr_good {n : Int} (h : good n) : numErr n = 0 := by unfold numErr; rw [if_pos h]
theorem numStr_len (n : Int) : (numStr n).size ≤ 5 := by
  by_cases h : good n
  · rw [← size_list, numStr_list h]; exact (numBytes_len _).2
  · unfold numStr; rw [if_neg h]; exact Nat.zero_le _
end Go.Proofs.YtichoidkemeibaaGreat

namespace Go.Proofs.YtichoidkemeibaaGreat
open Go.RowKit

/-- What is read from a place on: a number, and the place behind it. -/
def rdAt (s : ByteArray) (p : Int) : Option (Nat × Nat) :=
  if 0 ≤ p ∧ p ≤ s.size then (rdNum (s.data.toList.drop p.toNat)).map fun x => (x.1, p.toNat + x.2) else none

def numAns : Option (Nat × Nat) → Value
  | some (n, q) => .tuple #[.int .i64 n, .int .i64 q, .bool true]
  | none => .tuple #[.int .i64 0, .int .i64 0, .bool false]

theorem extract_list (s : ByteArray) (p j : Nat) (l : List UInt8) (hl : s.data.toList.drop p = l) : (s.extract p (p + j)).toList = l.take j := by
  rw [Go.ByteArray.toList_eq, ByteArray.data_extract, Array.toList_extract, ← hl]
  simp [List.extract]

theorem rdNum_at (l : List UInt8) (j N : Nat) (c : UInt8) (h5 : j < 5) (hc : l[j]? = some c) (hlt : c.toNat < 128) (hd : ∀ k d, k < j → l[k]? = some d → 128 ≤ d.toNat) (hN : valN (l.take (j + 1)) = N) :
    rdNum l = if N ≤ maxNum ∧ numBytes N = l.take (j + 1) then some (N, j + 1) else none := by
  unfold rdNum
  rw [scan_some 5 l j c h5 hc hlt hd]
  simp only [hN]

theorem rdAt_spec {s : ByteArray} {p : Int} {n q : Nat} (h : rdAt s p = some (n, q)) : 0 ≤ p ∧ p < q ∧ q ≤ s.size ∧ n ≤ maxNum ∧ ∃ k, q = p.toNat + k ∧ k ≤ 5 ∧ numBytes n = (s.data.toList.drop p.toNat).take k := by
  unfold rdAt at h
  split at h
  · rename_i hp
    cases hr : rdNum (s.data.toList.drop p.toNat) with
    | none => rw [hr] at h; cases h
    | some x =>
      obtain ⟨m, k⟩ := x
      rw [hr] at h
      simp at h
      obtain ⟨rfl, rfl⟩ := h
      obtain ⟨h1, h2, h3, h4, h5⟩ := rdNum_same hr
      rw [List.length_drop] at h5
      have h6 : s.data.toList.length = s.size := by rw [Array.length_toList]; rfl
      exact ⟨hp.1, by omega, by omega, h1, k, rfl, h4, h2⟩
  · cases h

def anNum : Option (Nat × Nat) → Int
  | some (n, _) => n
  | none => 0
def anPlace {α : Type} : Option (α × Nat) → Int
  | some (_, q) => q
  | none => 0
theorem numAns_all (o : Option (Nat × Nat)) : numAns o = .tuple #[.int .i64 (anNum o), .int .i64 (anPlace o), .bool o.isSome] := by
  rcases o with _ | ⟨n, q⟩ <;> rfl
theorem extract_data (s : ByteArray) (p k : Nat) : (s.extract p (p + k)).data.toList = (s.data.toList.drop p).take k := by
  have := extract_list s p k _ rfl
  rw [Go.ByteArray.toList_eq] at this
  exact this

theorem rdAt_back {s : ByteArray} {p n : Nat} {r : List UInt8} (h : s.data.toList.drop p = numBytes n ++ r) (hn : n ≤ maxNum) :
    rdAt s p = some (n, p + (numBytes n).length) := by
  have hp : p ≤ s.size := by
    rcases Nat.lt_or_ge s.size p with h1 | h1
    · have h2 : s.data.toList.drop p = [] := List.drop_of_length_le (by rw [size_list]; omega)
      rw [h2] at h
      have := (numBytes_len n).1
      have h3 := congrArg List.length h
      simp at h3
      omega
    · exact h1
  unfold rdAt
  rw [if_pos ⟨by omega, by omega⟩, Int.toNat_natCast, h, rdNum_back n r hn]
  rfl

theorem rdAt_same {s : ByteArray} {p : Int} {n q : Nat} (h : rdAt s p = some (n, q)) : 0 ≤ p ∧ p < q ∧ q ≤ s.size ∧ good n ∧ numStr n = s.extract p.toNat q := by
  obtain ⟨h1, h2, h3, h4, k, rfl, h5, h6⟩ := rdAt_spec h
  have hg : good (n : Int) := ⟨by omega, by unfold maxNum at h4; omega⟩
  refine ⟨h1, h2, h3, hg, ?_⟩
  unfold numStr
  rw [if_pos hg]
  apply bytes_ext
  rw [extract_data, ← h6]
  simp

end Go.Proofs.YtichoidkemeibaaGreat

namespace Go.Proofs.YtichoidkemeibaaGreat
open Go Go.RowKit

theorem ofInt_64 (a : Nat) (ha : a < 18446744073709551616) : (BitVec.ofInt 64 (a : Int)).toNat = a := by
  rw [BitVec.ofInt_natCast, BitVec.toNat_ofNat]; exact Nat.mod_eq_of_lt (by omega)

theorem i64_or_nat (a b : Nat) (ha : a < 9223372036854775808) (hb : b < 9223372036854775808) : bits .or .i64 (a : Int) (b : Int) = ((a ||| b : Nat) : Int) := by
  have hx : a ||| b < 2 ^ 63 := Nat.or_lt_two_pow (by omega) (by omega)
  have h63 : (2 : Nat) ^ 63 = 9223372036854775808 := by decide
  show IntKind.i64.wrap ((BitVec.ofInt 64 (a : Int) ||| BitVec.ofInt 64 (b : Int)).toNat : Int) = _
  rw [BitVec.toNat_or, ofInt_64 a (by omega), ofInt_64 b (by omega)]
  exact IntWalk.i64_in _ (by omega)

theorem or_digit (V d j : Nat) (hV : V < 128 ^ j) (hd : d < 128) (hj : j < 5) :
    bits .or .i64 (V : Int) (wrap64 ((d : Int) * 2 ^ (7 * j))) = ((V + 128 ^ j * d : Nat) : Int) := by
  have hp : (128 : Nat) ^ j = 2 ^ (7 * j) := by rw [Nat.pow_mul]
  have hle : (128 : Nat) ^ j ≤ 268435456 := by
    have h3 := Nat.pow_le_pow_right (show 0 < 128 by omega) (show j ≤ 4 by omega)
    simpa using h3
  have hprod : 128 ^ j * d ≤ 268435456 * 128 := Nat.mul_le_mul hle (by omega)
  have e : (d : Int) * 2 ^ (7 * j) = ((128 ^ j * d : Nat) : Int) := by
    rw [hp]; push_cast; exact Int.mul_comm _ _
  rw [e, IntWalk.wrap64_in _ (by omega), i64_or_nat _ _ (by omega) (by omega)]
  congr 1
  rw [hp] at hV ⊢
  have := Nat.two_pow_add_eq_or_of_lt hV d
  rw [Nat.or_comm, ← this]
  omega
end Go.Proofs.YtichoidkemeibaaGreat
