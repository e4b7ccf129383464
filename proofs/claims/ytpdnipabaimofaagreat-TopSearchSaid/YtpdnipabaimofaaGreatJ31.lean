/-
  prog.Check of a keyword query of words: the walk. job.check of it.
-/
import Derived.Test.YtpdnipabaimofaaGreatJ27
namespace Go.Proofs.YtpdnipabaimofaaGreat
open Go.RowKit

set_option maxRecDepth 100000 in
set_option maxHeartbeats 2000000 in
theorem indexAllW_c (A : Option Addr) (n c : Nat) (l : List ByteArray) (w : World) (h1 : Reads w w.heap.size 1 A n (sv l)) (hn : n ≤ maxLen) (hb : Hid (bounded l)) (hw : ∀ s ∈ l, isWord s) :
    Calls Tryz.prog 81 #[.slice A n c, .func (.func 44) #[] #[]] w fun e w' => e = .returned (.int .i64 (-1)) ∧ Below w.heap.size w w' := by
  have l1 := h1.str_len
  have HW := Lib.hid hw
  clear hw
  unfold maxLen at hn
  go_enter Tryz.func81, Tryz.ntmps81
  go_wp2_with (fail)
  go_loopw [8] (fun i wr => ∃ k : Nat, k ≤ n ∧ i = .int .i64 k ∧ Below w.heap.size w wr) (fun i _ => n - (intOf i).toNat)
  case atStart => exact ⟨0, Nat.zero_le _, rfl, Below.refl _ _⟩
  case round =>
    obtain ⟨k, hk, rfl, hB⟩ := hrel
    by_cases hlt : k < n
    · obtain ⟨a1, o1, x, rfl, hx, hc1⟩ := (h1.below hB).str_at hlt
      clear h1
      have L1 := Lib.hid l1
      clear l1
      have hm : isWord x := HW.out x (List.mem_of_getElem? hx.out)
      go_wp2_with (fail)
      refine (oddWord_c x _ (bounded_at hb.out hx.out)).mono ?_
      rintro e w3 ⟨rfl, hB3⟩
      have hBB := hB.trans (hB3.mono hB.size)
      clear hB3
      rw [decide_eq_true hm]
      clear hm
      go_wp2_with (fail)
      go_roundw
      case rel => exact ⟨k + 1, by omega, by go_num, hBB⟩
      case measure => simp [intOf]; omega
    · obtain rfl : k = n := by omega
      clear l1
      go_wp2_with (fail)
      go_ret
      exact ⟨rfl, hB⟩
theorem containsAllW_c (A : Option Addr) (n c : Nat) (l : List ByteArray) (w : World) (h1 : Reads w w.heap.size 1 A n (sv l)) (hn : n ≤ maxLen) (hb : Hid (bounded l)) (hw : ∀ s ∈ l, isWord s) :
    Calls Tryz.prog 46 #[.slice A n c, .func (.func 44) #[] #[]] w fun e w' => e = .returned (.bool false) ∧ Below w.heap.size w w' := by
  go_enter Tryz.func46, Tryz.ntmps46
  go_wp2_with (fail)
  refine (indexAllW_c A n c l w h1 hn hb hw).mono ?_
  rintro e w1 ⟨rfl, hB⟩
  go_wp2_with (fail)
  go_ret
  exact ⟨rfl, hB⟩
set_option maxRecDepth 100000 in
set_option maxHeartbeats 4000000 in
theorem check18_word (q : QuA) (n : Int) (w : World) (l : List ByteArray) (h1 : Reads w w.heap.size 1 q.W q.nw (sv l)) (hs : bounded l) (hw : ∀ s ∈ l, isWord s) (hk : q.kind = 3) (hn : 1 ≤ q.nw ∧ q.nw ≤ 8) (hsr : 0 ≤ q.src ∧ q.src < n) (hr : 0 ≤ q.radius ∧ q.radius ≤ 200) (hm : 1 ≤ q.most ∧ q.most ≤ 100) :
    Calls Tryz.prog 21 #[quVal q, .int .i64 n] w fun e w' => e = .returned (.int .i64 0) ∧ Below w.heap.size w w' := by
  show Calls Tryz.prog 21 #[.agg #[.int .i64 q.kind, .int .i64 q.src, .int .i64 q.dst, .slice q.W q.nw q.cw, .int .i64 q.radius, .int .i64 q.most], .int .i64 n] w _
  have hmf : ∀ (fn : Fn) (first cap : Array Value) (w : World), (Instr.makeFunc fn first cap).run Tryz.prog w = .ok (.func fn first cap) w := fun _ _ _ _ => rfl
  have hx := chkAt_new w q n
  obtain ⟨q0, q1, q2, q3, q4, q5⟩ := hx.qc
  have n0 := hx.nc
  unfold quBox at q0 q1 q2 q3 q4 q5 n0
  have HX := Lib.hid hx
  have HS := Lib.hid hs
  have HR := Lib.hid h1
  have HW := Lib.hid hw
  have HSR := Lib.hid hsr
  have g1 : (q.kind == 1) = false := by simp; omega
  have g2 : (q.kind == 2) = false := by simp; omega
  have g3 : (q.kind == 3) = true := by simpa using hk
  clear hx hs h1 hk hw hsr
  have k1' : (1 : Int) ≤ (q.nw : Int) := by omega
  have k2' : (q.nw : Int) ≤ 8 := by omega
  go_enter Tryz.func21, Tryz.ntmps21
  go_wp2_with (fail)
  refine (containsAllW_c q.W q.nw q.cw l _ ((HR.out.below HX.out.bel).more HX.out.bel.size) (by unfold maxLen; omega) HS HW.out).mono ?_
  rintro e w0 ⟨rfl, hB0⟩
  have HX0 := Lib.hid (HX.out.step hB0)
  clear hB0 q0 q1 q2 q3 q4 q5 n0 HX
  obtain ⟨q0, q1, q2, q3, q4, q5⟩ := HX0.out.qc
  go_wp2_with (fail)
  refine (place18_c q.src n (w.heap.size + 1) _ HX0.out.nc).mono ?_
  rintro e w1 ⟨rfl, hB1⟩
  have HX1 := Lib.hid (HX0.out.step hB1)
  clear hB1 q0 q1 q2 q3 q4 q5 HX0
  obtain ⟨q0, q1, q2, q3, q4, q5⟩ := HX1.out.qc
  rw [decide_eq_true HSR.out]
  obtain ⟨r1, r2⟩ := hr
  obtain ⟨r3, r4⟩ := hm
  go_wp2_with (fail)
  go_ret
  exact ⟨rfl, HX1.out.bel⟩
set_option maxRecDepth 100000 in
set_option maxHeartbeats 4000000 in
theorem jobCheckWord_c (q : QuA) (a : RwA) (w : World) (ha : RwIn w w.heap.size a) (hc : chkR a.r) (l : List ByteArray) (h1 : Reads w w.heap.size 1 q.W q.nw (sv l)) (hs : bounded l) (hw : ∀ s ∈ l, isWord s) (hk : q.kind = 3) (hn : 1 ≤ q.nw ∧ q.nw ≤ 8) (hsr : 0 ≤ q.src ∧ q.src < (a.r.n : Int)) (hrad : 0 ≤ q.radius ∧ q.radius ≤ 200) (hm : 1 ≤ q.most ∧ q.most ≤ 100) :
    Calls Tryz.prog 10 #[quVal q, rwVal a] w fun e w' => e = .returned (.int .i64 0) ∧ Below w.heap.size w w' := by
  show Calls Tryz.prog 10 #[.agg #[.int .i64 q.kind, .int .i64 q.src, .int .i64 q.dst, .slice q.W q.nw q.cw, .int .i64 q.radius, .int .i64 q.most], .agg #[.slice a.A1 a.n1 a.c1, .slice a.A2 a.n2 a.c2, .slice a.A3 a.n3 a.c3, .slice a.A4 a.n4 a.c4]] w _
  have hb := below_two w (quBox q) (rwBox a)
  have HQ : Hid (((w.alloc (quBox q)).alloc (rwBox a)).heap[w.heap.size]? = some (quBox q)) := (Below.heap_alloc _ _ _ (by simp)).trans (World.alloc_heap_new w _)
  have HR : Hid (((w.alloc (quBox q)).alloc (rwBox a)).heap[w.heap.size + 1]? = some (rwBox a)) := by
    have := World.alloc_heap_new (w.alloc (quBox q)) (rwBox a)
    rw [World.size_alloc] at this
    exact this
  have HCF : Hid (∀ W, Below w.heap.size w W → Calls Tryz.prog 21 #[quVal q, .int .i64 ((a.n1 : Int) - 1)] W fun e w' => e = .returned (.int .i64 0) ∧ Below W.heap.size W w') := fun W hB => by
    rw [rw_n ha hc]
    exact check18_word q _ W l ((h1.below hB).more hB.size) hs hw hk hn hsr hrad hm
  have HB := Lib.hid hb
  have HA := Lib.hid ha
  have HC := Lib.hid hc
  have hm1 := ha.m1
  unfold maxLen at hm1
  unfold quBox rwBox at HQ HR HB
  clear hb ha h1 hs hw hn hsr hrad hm hc hk
  go_enter Tryz.func10, Tryz.ntmps10
  go_wp2_with (fail)
  refine (rowsCheck_c a _ ((HA.out.below HB.out).more HB.out.size)).mono ?_
  rintro e w1 ⟨rfl, hB1⟩
  have HQ1 : Hid (w1.heap[w.heap.size]? = some (quBox q)) := (hB1.block _ (Array.getElem?_eq_some_iff.1 HQ.out).1).trans HQ.out
  have HR1 : Hid (w1.heap[w.heap.size + 1]? = some (rwBox a)) := (hB1.block _ (Array.getElem?_eq_some_iff.1 HR.out).1).trans HR.out
  have HB1 := Lib.hid (HB.out.trans (hB1.mono HB.out.size))
  clear hB1 HQ HR HB
  rw [decide_eq_true HC.out]
  obtain ⟨q0, q1, q2, q3, q4, q5⟩ : w1.cell? ⟨w.heap.size, 0, none⟩ = some (.int .i64 q.kind) ∧ w1.cell? ⟨w.heap.size, 1, none⟩ = some (.int .i64 q.src) ∧ w1.cell? ⟨w.heap.size, 2, none⟩ = some (.int .i64 q.dst) ∧ w1.cell? ⟨w.heap.size, 3, none⟩ = some (.slice q.W q.nw q.cw) ∧ w1.cell? ⟨w.heap.size, 4, none⟩ = some (.int .i64 q.radius) ∧ w1.cell? ⟨w.heap.size, 5, none⟩ = some (.int .i64 q.most) := by
    refine ⟨?_, ?_, ?_, ?_, ?_, ?_⟩ <;> · rw [Lib.cell_of_heap HQ1.out]; rfl
  have r0 : w1.cell? ⟨w.heap.size + 1, 0, none⟩ = some (.slice a.A1 a.n1 a.c1) := by rw [Lib.cell_of_heap HR1.out]; rfl
  go_wp2_with (fail)
  refine (HCF.out w1 HB1.out).mono ?_
  rintro e w2 ⟨rfl, hB2⟩
  have HB2 := Lib.hid (HB1.out.trans (hB2.mono HB1.out.size))
  clear hB2 q0 q1 q2 q3 q4 q5 r0
  go_wp2_with (fail)
  go_ret
  exact ⟨rfl, HB2.out⟩

end Go.Proofs.YtpdnipabaimofaaGreat
