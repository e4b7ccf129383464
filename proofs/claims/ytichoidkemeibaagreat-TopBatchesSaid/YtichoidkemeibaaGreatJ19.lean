/-
  The reference's check of rows.
  The reference's Out, In and Next where rows and state are right: the walks.
-/
import Derived.Test.YtichoidkemeibaaGreatJ18
import Derived.Test.YtichoidkemeibaaGreatJ03
import Derived.Test.YtichoidkemeibaaGreatJ10
import Derived.Deep.RegionLaw
namespace Go.Proofs.YtichoidkemeibaaGreat
open Go.RowKit

set_option maxRecDepth 100000 in
set_option maxHeartbeats 4000000 in
theorem check04_c (a : RwA) (w : World) (h : RwIn w w.heap.size a) :
    Calls Tryz.prog 56 #[rwVal a] w fun e w' => e = .returned (.bool (decide (chkR a.r))) ∧ Below w.heap.size w w' := by
  show Calls Tryz.prog 56 #[.agg #[.slice a.A1 a.n1 a.c1, .slice a.A2 a.n2 a.c2, .slice a.A3 a.n3 a.c3, .slice a.A4 a.n4 a.c4]] w _
  have hl1 := h.off.int_len
  have hl2 := h.to.int_len
  have hl3 := h.roff.int_len
  have hl4 := h.rev.int_len
  have hx := rboxed_new h
  obtain ⟨d0, d1, d2, d3⟩ := hx.box.cells
  have HX := Lib.hid hx
  clear hx h
  by_cases p1 : (a.n1 : Int) = (a.n3 : Int)
  rotate_left
  · have hf : ¬ chkR a.r := fun h => by have := h.1; omega
    have p1' : ((a.n1 : Int) != (a.n3 : Int)) = true := by simpa using p1
    go_enter Tryz.func56, Tryz.ntmps56
    go_wp2_with (fail)
    go_ret
    exact ⟨ret_bool (decide_eq_false hf).symm, HX.out.bel⟩
  have p1' : ((a.n1 : Int) != (a.n3 : Int)) = false := by simpa using p1
  go_enter Tryz.func56, Tryz.ntmps56
  go_wp2_with (fail)
  refine (half04_c a.A1 a.A2 a.n1 a.c1 a.n2 a.c2 a.r.off a.r.to _ HX.out.in_.off HX.out.in_.to HX.out.in_.m1 HX.out.in_.m2).mono ?_
  rintro e w1 ⟨rfl, hB1⟩
  have hx1 := HX.out.step hB1
  clear d0 d1 d2 d3
  obtain ⟨d0, d1, d2, d3⟩ := hx1.box.cells
  have HX1 := Lib.hid hx1
  clear hB1 HX hx1
  by_cases q1 : halfR a.r.off a.r.to
  rotate_left
  · rw [decide_eq_false q1]
    have hf : Hid (¬ chkR a.r) := fun h => q1 h.2.2.1
    clear q1
    go_wp2_with (fail)
    go_ret
    exact ⟨ret_bool (decide_eq_false hf.out).symm, HX1.out.bel⟩
  rw [decide_eq_true q1]
  have Q1 := Lib.hid q1
  clear q1
  go_wp2_with (fail)
  refine (half04_c a.A3 a.A4 a.n3 a.c3 a.n4 a.c4 a.r.roff a.r.rev _ HX1.out.in_.roff HX1.out.in_.rev HX1.out.in_.m3 HX1.out.in_.m4).mono ?_
  rintro e w2 ⟨rfl, hB2⟩
  have hx2 := HX1.out.step hB2
  clear d0 d1 d2 d3
  obtain ⟨d0, d1, d2, d3⟩ := hx2.box.cells
  have HX2 := Lib.hid hx2
  clear hB2 HX1 hx2
  by_cases q2 : halfR a.r.roff a.r.rev
  rotate_left
  · rw [decide_eq_false q2]
    have hf : Hid (¬ chkR a.r) := fun h => q2 h.2.2.2.1
    clear q2
    go_wp2_with (fail)
    go_ret
    exact ⟨ret_bool (decide_eq_false hf.out).symm, HX2.out.bel⟩
  rw [decide_eq_true q2]
  have Q2 := Lib.hid q2
  clear q2
  by_cases p2 : (a.n2 : Int) = (a.n4 : Int)
  rotate_left
  · have hf : Hid (¬ chkR a.r) := fun h => by have := h.2.1; omega
    have p2' : ((a.n2 : Int) != (a.n4 : Int)) = true := by simpa using p2
    go_wp2_with (fail)
    go_ret
    exact ⟨ret_bool (decide_eq_false hf.out).symm, HX2.out.bel⟩
  have p2' : ((a.n2 : Int) != (a.n4 : Int)) = false := by simpa using p2
  go_wp2_with (fail)
  clear d0 d1 d2 d3
  go_loopw [3] (fun i wr => ∃ j : Nat, j + 1 ≤ a.n1 ∧ i = .int .i64 j ∧ Hid (∀ u : Nat, u < j → ∀ x ∈ rowR a.r.off a.r.to u, (u : Int) ∈ rowR a.r.roff a.r.rev x.toNat) ∧ RBoxed w w.heap.size a wr) (fun i _ => a.n1 - (intOf i).toNat)
  case atStart => exact ⟨0, by have := Q1.out.1.1.1; omega, rfl, fun u hu => by omega, HX2.out⟩
  case round =>
    clear HX2
    obtain ⟨j, hj, rfl, hT, hx⟩ := hrel
    have hm := hx.in_.m1
    unfold maxLen at hm
    obtain ⟨d0, d1, d2, d3⟩ := hx.box.cells
    have HX := Lib.hid hx
    clear hx
    by_cases hlt : j + 1 < a.n1
    · have f1 : (j : Int) + 1 < (a.n1 : Int) := by omega
      have hk2 : a.n2 ≤ 2000 := by have := Q1.out.1.2.1; omega
      have hk4 : a.n4 ≤ 2000 := by have := Q2.out.1.2.1; omega
      have hb := row_bounds Q1.out.1 (v := j) (by omega)
      have HBD := Lib.hid hb
      clear hb
      go_wp2_with (fail)
      refine (row04_c a.A1 a.A2 a.n1 a.c1 a.n2 a.c2 a.r.off a.r.to j _ HX.out.in_.off HX.out.in_.to HX.out.in_.m1 (by omega) HX.out.in_.k2 hlt HBD.out.1 HBD.out.2.1 HBD.out.2.2).mono ?_
      rintro e w3 ⟨A5, k5, c5, rfl, hk5, ho5, hB3⟩
      have HX3 := Lib.hid (HX.out.step hB3)
      have HR5 := Lib.hid (own_reads ho5)
      have HK5 := Lib.hid hk5
      have hk5' : k5 ≤ 2000 := by rw [hk5]; exact Nat.le_trans (row_len_le _ _ _) Q1.out.1.2.1
      clear ho5 hk5 hB3 HX d0 d1 d2 d3 HBD
      obtain ⟨wo, rfl⟩ : ∃ wo : World, wo = wr := ⟨_, rfl⟩
      go_wp2_with (fail)
      go_loopw [5] (fun i wr => ∃ m : Nat, m ≤ k5 ∧ i = .int .i64 m ∧ Hid (∀ x ∈ (rowR a.r.off a.r.to j).take m, (j : Int) ∈ rowR a.r.roff a.r.rev x.toNat) ∧ RBoxed w w.heap.size a wr ∧ Below w3.heap.size w3 wr) (fun i _ => k5 - (intOf i).toNat)
      case atStart => exact ⟨0, Nat.zero_le _, rfl, fun x hx => by simp at hx, HX3.out, Below.refl _ _⟩
      case round =>
        clear HX3
        obtain ⟨m, hm5, rfl, hT5, hx, hB⟩ := hrel
        by_cases hlt5 : m < k5
        · obtain ⟨b, o, x, rfl, hx5, dx⟩ := (HR5.out.below hB).int_at hlt5
          obtain ⟨d0, d1, d2, d3⟩ := hx.box.cells
          have hmem : x ∈ rowR a.r.off a.r.to j := List.mem_of_getElem? hx5.out
          have hgx := (Q1.out.2 j (List.mem_range.2 (by omega))).1 x hmem
          obtain ⟨u, hu⟩ : ∃ u : Nat, x = (u : Int) := ⟨x.toNat, by omega⟩
          subst hu
          have hun : u + 1 < a.n3 := by omega
          have hbu := row_bounds Q2.out.1 (v := u) (by omega)
          have HT5 := Lib.hid hT5.out
          have HX5 := Lib.hid hx5.out
          have HX := Lib.hid hx
          have HBW := Lib.hid hB
          have HROW : Hid (Calls Tryz.prog 96 #[.slice a.A3 a.n3 a.c3, .slice a.A4 a.n4 a.c4, .int .i64 u] wr.drew fun e w' => ∃ A' c', e = .returned (.slice A' (rowR a.r.roff a.r.rev u).length c') ∧ Reads w' w'.heap.size 1 A' (rowR a.r.roff a.r.rev u).length (iv (rowR a.r.roff a.r.rev u)) ∧ Below wr.drew.heap.size wr.drew w') :=
            (row04_c a.A3 a.A4 a.n3 a.c3 a.n4 a.c4 a.r.roff a.r.rev u wr.drew (HX.out.in_.roff.below ((Below.refl _ _).drew)) (HX.out.in_.rev.below ((Below.refl _ _).drew)) HX.out.in_.m3 (by omega) HX.out.in_.k4 hun hbu.1 hbu.2.1 hbu.2.2).mono fun e w' ⟨A', k, c', h1, h2, h3, h4⟩ => by
              subst h2
              exact ⟨A', c', h1, own_reads h3, h4⟩
          have hlr : (rowR a.r.roff a.r.rev u).length ≤ 2000 := Nat.le_trans (row_len_le _ _ _) Q2.out.1.2.1
          have HLR := Lib.hid hlr
          obtain ⟨L, hL⟩ : ∃ L, L = (rowR a.r.roff a.r.rev u).length := ⟨_, rfl⟩
          rw [← hL] at HROW HLR
          clear hL hlr hx5 hmem hgx hbu hT5 hx hB
          have f3 : (0 : Int) ≤ (m : Int) := by omega
          have f4 : (m : Int) < (k5 : Int) := by omega
          by_cases hin : (j : Int) ∈ rowR a.r.roff a.r.rev u
          · have hN : Hid (∀ x ∈ (rowR a.r.off a.r.to j).take (m + 1), (j : Int) ∈ rowR a.r.roff a.r.rev x.toNat) := fun x hx => by
              rw [List.take_add_one, HX5.out] at hx
              rcases List.mem_append.1 hx with hx | hx
              · exact HT5.out x hx
              · simp at hx
                subst hx
                simpa using hin
            have hdec : Hid (decide ((j : Int) ∈ rowR a.r.roff a.r.rev u) = true) := decide_eq_true hin
            clear hin
            go_wp2_with (fail)
            go_region_law (go_simp; first
              | (go_at_call 96; refine Calls.mono HROW.out ?_; rintro e w2 ⟨A6, c6, rfl, hr6, hB6⟩)
              | (go_at_call 97; refine (in04_c _ _ _ (rowR a.r.roff a.r.rev u) _ _ hr6 (by have := HLR.out; unfold maxLen; omega)).mono ?_; rintro e w4 ⟨rfl, hB7⟩; rw [hdec.out]))
            all_goals
              have HB8 : Hid (Below wr.heap.size wr w4) := ((Below.refl wr.heap.size wr).drew).trans (hB6.trans (hB7.mono hB6.size))
              clear hB6 hB7 hr6 d0 d1 d2 d3 dx f3 f4
              have HX8 := Lib.hid (HX.out.step HB8.out)
              have HBW8 := Lib.hid (HBW.out.trans (HB8.out.mono HBW.out.size))
              clear HX HB8 HBW
              go_wp2_with (fail)
              go_roundw
              case rel => exact ⟨m + 1, by omega, by go_num, hN, HX8.out, HBW8.out⟩
              case measure => simp [intOf]; omega
          · have hf : Hid (¬ chkR a.r) := fun h => hin (by
              have := h.2.2.2.2 j (List.mem_range.2 (by unfold Rws.n; omega)) _ (List.mem_of_getElem? HX5.out)
              simpa using this)
            have hdec : Hid (decide ((j : Int) ∈ rowR a.r.roff a.r.rev u) = false) := decide_eq_false hin
            clear hin
            go_wp2_with (fail)
            go_region_law (go_simp; first
              | (go_at_call 96; refine Calls.mono HROW.out ?_; rintro e w2 ⟨A6, c6, rfl, hr6, hB6⟩)
              | (go_at_call 97; refine (in04_c _ _ _ (rowR a.r.roff a.r.rev u) _ _ hr6 (by have := HLR.out; unfold maxLen; omega)).mono ?_; rintro e w4 ⟨rfl, hB7⟩; rw [hdec.out]))
            all_goals
              have HB8 : Hid (Below wr.heap.size wr w4) := ((Below.refl wr.heap.size wr).drew).trans (hB6.trans (hB7.mono hB6.size))
              clear hB6 hB7 hr6 d0 d1 d2 d3 dx f3 f4
              have HX8 := Lib.hid (HX.out.step HB8.out)
              clear HX HB8 HBW
              go_wp2_with (fail)
              go_ret
              exact ⟨ret_bool (decide_eq_false hf.out).symm, HX8.out.bel⟩
        · obtain rfl : m = k5 := by omega
          have hT6 : Hid (∀ u : Nat, u < j + 1 → ∀ x ∈ rowR a.r.off a.r.to u, (u : Int) ∈ rowR a.r.roff a.r.rev x.toNat) := fun u hu x hxu => by
            by_cases e : u = j
            · subst e
              refine hT5.out x ?_
              rw [List.take_of_length_le (by rw [HK5.out]; exact Nat.le_refl _)]
              exact hxu
            · exact hT.out u (by omega) x hxu
          have HXE := Lib.hid hx
          clear hx hT5
          go_wp2_with (fail)
          go_roundw
          case rel => exact ⟨j + 1, by omega, by go_num, hT6, HXE.out⟩
          case measure => simp [intOf]; omega
    · have f1 : ¬ (j : Int) + 1 < (a.n1 : Int) := by omega
      have hfin : Hid (chkR a.r) := by
        refine ⟨by omega, by omega, Q1.out, Q2.out, fun v hv => hT.out v ?_⟩
        have h1 := List.mem_range.1 hv
        unfold Rws.n at h1
        omega
      go_wp2_with (fail)
      go_ret
      exact ⟨ret_bool (decide_eq_true hfin.out).symm, HX.out.bel⟩
end Go.Proofs.YtichoidkemeibaaGreat

namespace Go.Proofs.YtichoidkemeibaaGreat
open Go.RowKit

set_option maxRecDepth 100000 in
set_option maxHeartbeats 2000000 in
theorem out04_c (a : RwA) (v : Nat) (w : World) (h : RwIn w w.heap.size a) (hc : chkR a.r) (hv : v < a.r.n) :
    Calls Tryz.prog 99 #[rwVal a, .int .i64 v] w fun e w' => ∃ A' k c', e = .returned (.tuple #[.slice A' k c', .bool true]) ∧ k = (rowR a.r.off a.r.to v).length ∧ w'.ownsRow w.heap.size 3 1 (.slice A' k c') k (iv (rowR a.r.off a.r.to v)) ∧ Below w.heap.size w w' := by
  show Calls Tryz.prog 99 #[.agg #[.slice a.A1 a.n1 a.c1, .slice a.A2 a.n2 a.c2, .slice a.A3 a.n3 a.c3, .slice a.A4 a.n4 a.c4], .int .i64 v] w _
  have hl1 := h.off.int_len
  have hl2 := h.to.int_len
  unfold Rws.n at hv
  have hb := row_bounds hc.2.2.1.1 (v := v) hv
  have hk2 : a.n2 ≤ 2000 := by have := hc.2.2.1.1.2.1; omega
  have HV : Hid (v + 1 < a.n1) := by show _ < _; omega
  have hx := rboxed_new h
  obtain ⟨d0, d1, d2, d3⟩ := hx.box.cells
  have HX := Lib.hid hx
  have HC := Lib.hid hc
  have HBD := Lib.hid hb
  have hm1 := h.m1
  unfold maxLen at hm1
  have g1 : ¬ ((a.n1 : Int) - 1 ≤ (v : Int)) := by omega
  have g2 : ¬ ((v : Int) < 0) := by omega
  clear hx h hc hl1 hl2 hb hv
  go_enter Tryz.func99, Tryz.ntmps99
  go_wp2_with (fail)
  refine (check04_c a _ HX.out.in_).mono ?_
  rintro e w1 ⟨rfl, hB1⟩
  rw [decide_eq_true HC.out]
  have hx1 := HX.out.step hB1
  clear d0 d1 d2 d3
  obtain ⟨d0, d1, d2, d3⟩ := hx1.box.cells
  have HX1 := Lib.hid hx1
  clear hx1 hB1 HX
  go_wp2_with (fail)
  refine (row04_c a.A1 a.A2 a.n1 a.c1 a.n2 a.c2 a.r.off a.r.to v _ HX1.out.in_.off HX1.out.in_.to HX1.out.in_.m1 (by omega) HX1.out.in_.k2 HV.out HBD.out.1 HBD.out.2.1 HBD.out.2.2).mono ?_
  rintro e w2 ⟨A', k, c', rfl, hk, ho, hB2⟩
  have HO := Lib.hid (own_more (base := w.heap.size) ho HX1.out.bel.size)
  have HB := Lib.hid (HX1.out.bel.trans (hB2.mono HX1.out.bel.size))
  have HK := Lib.hid hk
  clear d0 d1 d2 d3 ho hB2 hk
  go_wp2_with (fail)
  go_ret2
  exact ⟨_, _, _, rfl, HK.out, HO.out, HB.out⟩

set_option maxRecDepth 100000 in
set_option maxHeartbeats 2000000 in
theorem in04R_c (a : RwA) (v : Nat) (w : World) (h : RwIn w w.heap.size a) (hc : chkR a.r) (hv : v < a.r.n) :
    Calls Tryz.prog 100 #[rwVal a, .int .i64 v] w fun e w' => ∃ A' k c', e = .returned (.tuple #[.slice A' k c', .bool true]) ∧ k = (rowR a.r.roff a.r.rev v).length ∧ w'.ownsRow w.heap.size 3 1 (.slice A' k c') k (iv (rowR a.r.roff a.r.rev v)) ∧ Below w.heap.size w w' := by
  show Calls Tryz.prog 100 #[.agg #[.slice a.A1 a.n1 a.c1, .slice a.A2 a.n2 a.c2, .slice a.A3 a.n3 a.c3, .slice a.A4 a.n4 a.c4], .int .i64 v] w _
  have hl1 := h.off.int_len
  have hl3 := h.roff.int_len
  have hl4 := h.rev.int_len
  unfold Rws.n at hv
  have e1 := hc.1
  have hb := row_bounds hc.2.2.2.1.1 (v := v) (by omega)
  have hk2 : a.n4 ≤ 2000 := by have := hc.2.2.2.1.1.2.1; omega
  have HV : Hid (v + 1 < a.n3) := by show _ < _; omega
  have hx := rboxed_new h
  obtain ⟨d0, d1, d2, d3⟩ := hx.box.cells
  have HX := Lib.hid hx
  have HC := Lib.hid hc
  have HBD := Lib.hid hb
  have hm1 := h.m1
  unfold maxLen at hm1
  have g1 : ¬ ((a.n1 : Int) - 1 ≤ (v : Int)) := by omega
  have g2 : ¬ ((v : Int) < 0) := by omega
  clear hx h hc hl1 hl3 hl4 hb hv e1
  go_enter Tryz.func100, Tryz.ntmps100
  go_wp2_with (fail)
  refine (check04_c a _ HX.out.in_).mono ?_
  rintro e w1 ⟨rfl, hB1⟩
  rw [decide_eq_true HC.out]
  have hx1 := HX.out.step hB1
  clear d0 d1 d2 d3
  obtain ⟨d0, d1, d2, d3⟩ := hx1.box.cells
  have HX1 := Lib.hid hx1
  clear hx1 hB1 HX
  go_wp2_with (fail)
  refine (row04_c a.A3 a.A4 a.n3 a.c3 a.n4 a.c4 a.r.roff a.r.rev v _ HX1.out.in_.roff HX1.out.in_.rev HX1.out.in_.m3 (by omega) HX1.out.in_.k4 HV.out HBD.out.1 HBD.out.2.1 HBD.out.2.2).mono ?_
  rintro e w2 ⟨A', k, c', rfl, hk, ho, hB2⟩
  have HO := Lib.hid (own_more (base := w.heap.size) ho HX1.out.bel.size)
  have HB := Lib.hid (HX1.out.bel.trans (hB2.mono HX1.out.bel.size))
  have HK := Lib.hid hk
  clear d0 d1 d2 d3 ho hB2 hk
  go_wp2_with (fail)
  go_ret2
  exact ⟨_, _, _, rfl, HK.out, HO.out, HB.out⟩
end Go.Proofs.YtichoidkemeibaaGreat
