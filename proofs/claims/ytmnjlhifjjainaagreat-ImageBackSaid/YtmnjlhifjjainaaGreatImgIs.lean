/-
  Is a graph one that may be: the walk of the program.
-/
import Derived.Test.YtmnjlhifjjainaaGreatImgRise
namespace Go.Proofs.YtmnjlhifjjainaaGreat
open Go.RowKit

theorem odd_c (A : Option Addr) (n c : Nat) (l : List ByteArray) (w : World) (h : Reads w w.heap.size 1 A n (sv l)) (hn : n ≤ maxLen) :
    Calls Tryz.prog 43 #[.slice A n c] w fun e w' => e = .returned (.bool (!decide (riseW l))) ∧ Below w.heap.size w w' := by
  go_enter Tryz.func43, Tryz.ntmps43
  go_wp2_with (fail)
  refine (words_c _).mono ?_
  rintro e w1 ⟨rfl, hB1⟩
  go_wp2_with (fail)
  refine (riseW_c A n c l _ ((h.below hB1).more hB1.size) hn).mono ?_
  rintro e w2 ⟨rfl, hB2⟩
  have hB := Lib.hid (hB1.trans (hB2.mono hB1.size))
  clear hB1 hB2 h
  go_wp2_with (fail)
  go_ret
  exact ⟨rfl, hB.out⟩

def allRise (ws : List (List ByteArray)) : Prop := ∀ l ∈ ws, riseW l
instance (ws : List (List ByteArray)) : Decidable (allRise ws) := by unfold allRise; infer_instance

set_option maxRecDepth 100000 in
set_option maxHeartbeats 2000000 in
theorem indexR_c (g : Gr) (A1 A2 : Option Addr) (n1 n2 c2 : Nat) (vs : List Value) (w : World) (h : GrIn w w.heap.size g A1 n1 A2 n2 vs) :
    Calls Tryz.prog 62 #[.slice A2 n2 c2, .func (.func 43) #[] #[]] w fun e w' => ∃ i : Int, e = .returned (.int .i64 i) ∧ decide (0 ≤ i) = !decide (allRise g.ws) ∧ Below w.heap.size w w' := by
  have L2 := Lib.hid h.len2
  have hm2 := h.m2
  unfold maxLen at hm2
  go_enter Tryz.func62, Tryz.ntmps62
  go_wp2_with (fail)
  go_loopw [8] (fun i wr => ∃ k : Nat, k ≤ n2 ∧ i = .int .i64 k ∧ Hid (∀ d ∈ g.ws.take k, riseW d) ∧ Below w.heap.size w wr) (fun i _ => n2 - (intOf i).toNat)
  case atStart => exact ⟨0, Nat.zero_le _, rfl, fun c hc => by simp at hc, Below.refl _ _⟩
  case round =>
    obtain ⟨k, hk, rfl, hl, hB⟩ := hrel
    by_cases hlt : k < n2
    · obtain ⟨b2, o2, A, n, c, l, rfl, hxl, d0, hn, hr⟩ := (h.below hB).row_at hlt
      have HR := Lib.hid (hr.more hB.size)
      have HN := Lib.hid hn
      clear h hr hn
      go_wp2_with (fail)
      refine (odd_c A n c l _ HR.out HN.out).mono ?_
      rintro e w3 ⟨rfl, hB3⟩
      have hBB := hB.trans (hB3.mono hB.size)
      clear hB3 d0 HR
      by_cases hm : riseW l
      · rw [decide_eq_true hm]
        have H := Lib.hid (all_more hl.out hxl.out hm)
        clear hm
        go_wp2_with (fail)
        go_roundw
        case rel => exact ⟨k + 1, by omega, by go_num, H.out, hBB⟩
        case measure => simp [intOf]; omega
      · rw [decide_eq_false hm]
        have H : Hid (¬ allRise g.ws) := all_not hxl.out hm
        clear hm
        go_wp2_with (fail)
        go_ret
        exact ⟨_, rfl, by rw [decide_eq_false H.out]; simp, hBB⟩
    · obtain rfl : k = n2 := by omega
      have H : Hid (allRise g.ws) := all_full hl.out (by rw [L2.out]; exact Nat.le_refl _)
      clear h
      go_wp2_with (fail)
      go_ret
      exact ⟨_, rfl, by rw [decide_eq_true H.out]; simp, hB⟩

theorem containsR_c (g : Gr) (A1 A2 : Option Addr) (n1 n2 c2 : Nat) (vs : List Value) (w : World) (h : GrIn w w.heap.size g A1 n1 A2 n2 vs) :
    Calls Tryz.prog 46 #[.slice A2 n2 c2, .func (.func 43) #[] #[]] w fun e w' => e = .returned (.bool (!decide (allRise g.ws))) ∧ Below w.heap.size w w' := by
  go_enter Tryz.func46, Tryz.ntmps46
  go_wp2_with (fail)
  refine (indexR_c g A1 A2 n1 n2 c2 vs w h).mono ?_
  rintro e w1 ⟨i, rfl, hi, hB⟩
  have H := Lib.hid hi
  clear hi
  go_wp2_with (fail)
  go_ret
  refine ⟨ret_bool ?_, hB⟩
  rw [← H.out]

/-- A contract that ends in 'Below', met in any world behind w. -/
theorem regrown_call {P : Program} {f : FuncId} {args : Array Value} {w : World} {v : Value} (h : ∀ w', Below w.heap.size w w' → Calls P f args w' fun e w'' => e = .returned v ∧ Below w'.heap.size w' w'') (d : Nat) (os : Array Obj) :
    Calls P f args (Sort.grow (redrawn w d) os) fun e w'' => e = .returned v ∧ ∃ p : Regrown, w'' = Sort.grow (redrawn w p.d) p.os :=
  Calls.regrown_of (h _ (below_regrown w d os))

theorem isG_parts (g : Gr) : decide (isG g) = (decide (checkG g) && decide (riseE g.es) && decide (allRise g.ws)) := by
  rw [Bool.eq_iff_iff]
  simp only [Bool.and_eq_true, decide_eq_true_iff, and_assoc]
  exact Iff.rfl

set_option maxRecDepth 100000 in
set_option maxHeartbeats 4000000 in
theorem is_c (g : Gr) (A1 A2 : Option Addr) (n1 n2 c1 c2 : Nat) (vs : List Value) (w : World) (h : GrIn w w.heap.size g A1 n1 A2 n2 vs) (hb : Hid (sized g)) :
    Calls Tryz.prog 15 #[.agg #[.int .i64 g.n, .slice A1 n1 c1, .slice A2 n2 c2]] w fun e w' => e = .returned (.bool (decide (isG g))) ∧ Below w.heap.size w w' := by
  have hmf : ∀ (fn : Fn) (first cap : Array Value) (w : World), (Instr.makeFunc fn first cap).run Tryz.prog w = .ok (.func fn first cap) w := fun _ _ _ _ => rfl
  have HX := Lib.hid (boxed_new h c1 c2)
  have hp := isG_parts g
  obtain ⟨x1, hx1⟩ : ∃ b, decide (checkG g) = b := ⟨_, rfl⟩
  obtain ⟨x2, hx2⟩ : ∃ b, decide (riseE g.es) = b := ⟨_, rfl⟩
  obtain ⟨x3, hx3⟩ : ∃ b, decide (allRise g.ws) = b := ⟨_, rfl⟩
  rw [hx1, hx2, hx3] at hp
  have HP := Lib.hid hp
  have H1 := Lib.hid hx1
  have H2 := Lib.hid hx2
  have H3 := Lib.hid hx3
  clear hp hx1 hx2 hx3 h
  go_enter Tryz.func15, Tryz.ntmps15
  go_wp2_with (fail)
  generalize w.alloc (.cells #[.int .i64 g.n, .slice A1 n1 c1, .slice A2 n2 c2] 25) = W at HX ⊢
  obtain ⟨c0, d1, d2⟩ := HX.out.box.cells
  have q0 := cell_regrown c0
  have q1 := cell_regrown d1
  have q2 := cell_regrown d2
  clear c0 d1 d2
  have HC1 := Lib.hid (regrown_call (w := W) (P := Tryz.prog) (f := 10) (v := .bool x1) (fun w' hB => (check_c g A1 A2 n1 n2 c1 c2 vs w' (HX.out.step hB).in_ hb).mono (fun e w'' h => by rw [H1.out] at h; exact h)))
  have HC2 := Lib.hid (regrown_call (w := W) (P := Tryz.prog) (f := 12) (args := #[]) (v := .agg #[.func (.func 36) #[] #[]]) (fun w' _ => edges_c w'))
  have HC3 := Lib.hid (regrown_call (w := W) (P := Tryz.prog) (f := 45) (v := .bool x2) (fun w' hB => (riseE_c A1 n1 c1 g.es w' (HX.out.step hB).in_.es HX.out.gr.m1).mono (fun e w'' h => by rw [H2.out] at h; exact h)))
  have HC4 := Lib.hid (regrown_call (w := W) (P := Tryz.prog) (f := 46) (v := .bool (!x3)) (fun w' hB => (containsR_c g A1 A2 n1 n2 c2 vs w' (HX.out.step hB).in_).mono (fun e w'' h => by rw [H3.out] at h; exact h)))
  clear H1 H2 H3
  rcases x1 with _ | _
  · refine wp_region_quiet_below (by kernel_rfl) (by kernel_rfl) ?_
    repeat (quiet_step (first | (go_at_call 10; exact HC1.out _ _)))
    refine wpQuiet_nil ?_
    intro _ hw'
    obtain ⟨⟨dq, osq⟩, hw''⟩ := hw'
    have HY := Lib.hid (HX.out.step (below_regrown W dq osq))
    rw [← hw''] at HY
    clear hw'' HC1 HC2 HC3 HC4 q0 q1 q2
    go_wp2_with (fail)
    go_ret
    exact ⟨ret_bool HP.out.symm, HY.out.bel⟩
  · rcases x2 with _ | _
    · refine wp_region_quiet_below (by kernel_rfl) (by kernel_rfl) ?_
      repeat (quiet_step (first | (go_at_call 10; exact HC1.out _ _) | (go_at_call 12; exact HC2.out _ _) | (go_at_call 45; exact HC3.out _ _)))
      refine wpQuiet_nil ?_
      intro _ hw'
      obtain ⟨⟨dq, osq⟩, hw''⟩ := hw'
      have HY := Lib.hid (HX.out.step (below_regrown W dq osq))
      rw [← hw''] at HY
      clear hw'' HC1 HC2 HC3 HC4 q0 q1 q2
      go_wp2_with (fail)
      go_ret
      exact ⟨ret_bool HP.out.symm, HY.out.bel⟩
    · refine wp_region_quiet_below (by kernel_rfl) (by kernel_rfl) ?_
      repeat (quiet_step (first | (go_at_call 10; exact HC1.out _ _) | (go_at_call 12; exact HC2.out _ _) | (go_at_call 45; exact HC3.out _ _) | (go_at_call 46; exact HC4.out _ _)))
      refine wpQuiet_nil ?_
      intro _ hw'
      obtain ⟨⟨dq, osq⟩, hw''⟩ := hw'
      have HY := Lib.hid (HX.out.step (below_regrown W dq osq))
      rw [← hw''] at HY
      clear hw'' HC1 HC2 HC3 HC4 q0 q1 q2
      go_wp2_with (fail)
      go_ret
      exact ⟨ret_bool (by rw [HP.out]; cases x3 <;> rfl), HY.out.bel⟩
end Go.Proofs.YtmnjlhifjjainaaGreat
