/-
  The reference's half of a check.
-/
import Derived.Test.YtichoidkemeibaaGreatJ17
namespace Go.Proofs.YtichoidkemeibaaGreat
open Go.RowKit

set_option maxRecDepth 100000 in
set_option maxHeartbeats 4000000 in
theorem half04_c (A1 A2 : Option Addr) (n1 c1 n2 c2 : Nat) (off to : List Int) (w : World) (h1 : Reads w w.heap.size 1 A1 n1 (iv off)) (h2 : Reads w w.heap.size 1 A2 n2 (iv to)) (hm1 : n1 ≤ maxLen) (hm2 : n2 ≤ maxLen) :
    Calls Tryz.prog 95 #[.slice A1 n1 c1, .slice A2 n2 c2] w fun e w' => e = .returned (.bool (decide (halfR off to))) ∧ Below w.heap.size w w' := by
  unfold maxLen at hm1 hm2
  have hl1 := h1.int_len
  have hl2 := h2.int_len
  by_cases a1 : n1 < 2
  · have a1' : (n1 : Int) < 2 := by omega
    have hf : ¬ halfR off to := fun h => by have := h.1.1.1; omega
    rw [decide_eq_false hf]
    go_enter Tryz.func95, Tryz.ntmps95
    go_wp2
    go_ret
    exact ⟨rfl, Below.refl _ _⟩
  by_cases a2 : 201 < n1
  · have a2' : (201 : Int) < (n1 : Int) := by omega
    have hf : ¬ halfR off to := fun h => by have := h.1.1.2; omega
    rw [decide_eq_false hf]
    go_enter Tryz.func95, Tryz.ntmps95
    go_wp2
    go_ret
    exact ⟨rfl, Below.refl _ _⟩
  obtain ⟨b, o, x0, rfl, hx0, d0⟩ := h1.int_at (k := 0) (by omega)
  have e0 := nth_is hx0.out
  obtain ⟨b', o', xl, he, hxl, d1⟩ := h1.int_at (k := n1 - 1) (by omega)
  cases he
  have e1 := nth_is hxl.out
  obtain ⟨q, rfl⟩ : ∃ q : Nat, n1 = q + 2 := ⟨n1 - 2, by omega⟩
  rw [show q + 2 - 1 = q + 1 by omega] at d1 e1
  have g1 : ((q + 2 : Nat) : Int) - 1 = (q : Int) + 1 := by omega
  have g2 : (0 : Int) ≤ (q : Int) + 1 := by omega
  have g3 : (q : Int) + 1 < ((q + 2 : Nat) : Int) := by omega
  have g4 : (0 : Int) < ((q + 2 : Nat) : Int) := by omega
  have g5 : IntKind.i64.wrap ((q : Int) + 1) = (q : Int) + 1 := IntWalk.i64_in _ (by omega)
  have g6 : ((q : Int) + 1).toNat = q + 1 := by omega
  rw [Nat.add_zero] at d0
  by_cases a3 : x0 = 0
  rotate_left
  · have hf : ¬ halfR off to := fun h => by have := h.1.2.2.1; omega
    rw [decide_eq_false hf]
    have a3' : (x0 != 0) = true := by simpa using a3
    have HR1 := Lib.hid h1
    have HR2 := Lib.hid h2
    clear h1 h2
    go_enter Tryz.func95, Tryz.ntmps95
    go_wp2
    go_ret
    exact ⟨rfl, Below.refl _ _⟩
  subst a3
  by_cases a4 : xl = (n2 : Int)
  rotate_left
  · have hf : ¬ halfR off to := fun h => by have h3 := h.1.2.2.2.1; rw [hl1, show q + 2 - 1 = q + 1 by omega] at h3; omega
    rw [decide_eq_false hf]
    have a4' : (xl != (n2 : Int)) = true := by simpa using a4
    have HR1 := Lib.hid h1
    have HR2 := Lib.hid h2
    clear h1 h2
    go_enter Tryz.func95, Tryz.ntmps95
    go_wp2
    go_ret
    exact ⟨rfl, Below.refl _ _⟩
  subst a4
  by_cases a5 : 2000 < n2
  · have hf : ¬ halfR off to := fun h => by have h3 := h.1.2.1; omega
    rw [decide_eq_false hf]
    have a5' : (2000 : Int) < (n2 : Int) := by omega
    have HR1 := Lib.hid h1
    have HR2 := Lib.hid h2
    clear h1 h2
    go_enter Tryz.func95, Tryz.ntmps95
    go_wp2
    go_ret
    exact ⟨rfl, Below.refl _ _⟩
  have a5' : ¬ (2000 : Int) < (n2 : Int) := by omega
  have HR1 := Lib.hid h1
  have HR2 := Lib.hid h2
  have E0 := Lib.hid e0
  have E1 := Lib.hid e1
  clear h1 h2 e0 e1 hx0 hxl
  go_enter Tryz.func95, Tryz.ntmps95
  go_wp2
  clear d0 d1
  go_loopw [5] (fun i wr => ∃ j : Nat, j ≤ q + 1 ∧ i = .int .i64 ((j : Int) + 1) ∧ Hid (∀ v : Nat, v < j → nth off v ≤ nth off (v + 1)) ∧ Below w.heap.size w wr) (fun i _ => q + 2 - (intOf i).toNat)
  case atStart => exact ⟨0, Nat.zero_le _, by go_num, fun v hv => by omega, Below.refl _ _⟩
  case round =>
    obtain ⟨j, hj, rfl, hT, hB⟩ := hrel
    by_cases hlt : j < q + 1
    · obtain ⟨b1, o1, x, e, hx, d0⟩ := (HR1.out.below hB).int_at (k := j) (by omega)
      cases e
      obtain ⟨b1, o1, y, e, hy, d1⟩ := (HR1.out.below hB).int_at (k := j + 1) (by omega)
      cases e
      have f1 : (0 : Int) ≤ (j : Int) := by omega
      have f2 : (j : Int) < ((q + 2 : Nat) : Int) := by omega
      have f3 : (0 : Int) ≤ (j : Int) + 1 := by omega
      have f4 : (j : Int) + 1 < ((q + 2 : Nat) : Int) := by omega
      have f5 : IntKind.i64.wrap (j : Int) = (j : Int) := IntWalk.i64_in _ (by omega)
      have f6 : ((j : Int) + 1).toNat = j + 1 := by omega
      have f7 : (j : Int) + 1 < (q : Int) + 2 := by omega
      have f8 : (j : Int) < (q : Int) + 2 := by omega
      have HX := Lib.hid (nth_is hx.out)
      have HY := Lib.hid (nth_is hy.out)
      clear hx hy
      go_wp2
      go_quiet (fail)
      rename_i nq
      have HB := Lib.hid (below_drewN hB nq)
      clear f1 f2 f3 f4 f5 f6 f7 f8 d0 d1 hB
      by_cases hyx : y < x
      · have hf : ¬ halfR off to := fun h => by have h3 := h.1.2.2.2.2 j (by omega); rw [HX.out, HY.out] at h3; omega
        have HF := Lib.hid hf
        clear hf
        go_wp2
        go_ret
        exact ⟨ret_bool (decide_eq_false HF.out).symm, HB.out⟩
      · go_wp2
        go_roundw
        case rel =>
          refine ⟨j + 1, by omega, by go_num, fun v hv => ?_, HB.out⟩
          by_cases e : v = j
          · rw [e, HX.out, HY.out]; omega
          · exact hT.out v (by omega)
        case measure => simp [intOf]; omega
    · obtain rfl : j = q + 1 := by omega
      have hcl : climbs off := fun v hv => hT.out v (by omega)
      have hsh : shapeR off to := ⟨⟨by omega, by omega⟩, by omega, E0.out, by rw [hl1, show q + 2 - 1 = q + 1 by omega, E1.out, hl2], hcl⟩
      have HS := Lib.hid hsh
      have HB := Lib.hid hB
      clear hT hcl hsh hB
      go_wp2
      obtain ⟨wo, hwo⟩ : ∃ wo : World, wo = wr := ⟨_, rfl⟩
      subst hwo
      go_loopw [6] (fun i wr => ∃ j : Nat, j ≤ q + 1 ∧ i = .int .i64 ((j : Int) + 1) ∧ Hid (∀ u : Nat, u < j → goodRowI (q + 1) (rowR off to u)) ∧ Below w.heap.size w wr) (fun i _ => q + 2 - (intOf i).toNat)
      case atStart => exact ⟨0, Nat.zero_le _, by go_num, fun u hu => by omega, HB.out⟩
      case round =>
        clear HB
        obtain ⟨j, hj, rfl, hT, hB⟩ := hrel
        by_cases hlt : j < q + 1
        · obtain ⟨b1, o1, x, e, hx, d0⟩ := (HR1.out.below hB).int_at (k := j) (by omega)
          cases e
          obtain ⟨b1, o1, y, e, hy, d1⟩ := (HR1.out.below hB).int_at (k := j + 1) (by omega)
          cases e
          have ex := nth_is hx.out
          have ey := nth_is hy.out
          have hbd := row_bounds HS.out (v := j) (by omega)
          have hrl := row_len HS.out (v := j) (by omega)
          rw [ex, ey] at hbd hrl
          obtain ⟨hb0, hb1, hb2⟩ := hbd
          obtain ⟨a, rfl⟩ : ∃ a : Nat, x = (a : Int) := ⟨x.toNat, by omega⟩
          obtain ⟨z, rfl⟩ : ∃ z : Nat, y = (z : Int) := ⟨y.toNat, by omega⟩
          have hrl2 : (rowR off to j).length = z - a := by omega
          have hrg : Hid (∀ k : Nat, k < z - a → (rowR off to j)[k]? = to[a + k]?) := fun k hk => by
            unfold rowR
            rw [ex, ey]
            have := cutI_get (l := to) (a := (a : Int)) (b := (z : Int)) (by omega) (by omega) (i := k) (by omega)
            simpa using this
          have HL := Lib.hid hrl2
          have HT := Lib.hid hT
          have hza : a ≤ z := by omega
          have hzn : z ≤ n2 := by omega
          have HEX := Lib.hid ex
          have HEY := Lib.hid ey
          have f1 : (0 : Int) ≤ (j : Int) := by omega
          have f2 : (j : Int) < ((q + 2 : Nat) : Int) := by omega
          have f5 : IntKind.i64.wrap (j : Int) = (j : Int) := IntWalk.i64_in _ (by omega)
          have f7 : (j : Int) + 1 < (q : Int) + 2 := by omega
          have f8 : (j : Int) < (q : Int) + 2 := by omega
          clear hx hy ex ey hrl hrl2 hT hb0 hb1 hb2 d1
          go_wp2
          clear d0
          obtain ⟨wi, hwi⟩ : ∃ wi : World, wi = wr := ⟨_, rfl⟩
          subst hwi
          go_loopw [7] (fun v wr => ∃ i : Nat, (a ≤ i ∧ i ≤ z) ∧ v = .int .i64 (i : Int) ∧ Hid (goodRowI (q + 1) ((rowR off to j).take (i - a))) ∧ Below w.heap.size w wr) (fun v _ => z - (intOf v).toNat)
          case atStart => exact ⟨a, ⟨Nat.le_refl _, hza⟩, rfl, ⟨fun x hx => by simp at hx, by simp [incr]⟩, hB⟩
          case round =>
            clear hB
            obtain ⟨i, hi, rfl, hG, hB⟩ := hrel
            obtain ⟨b1, o1, y, e, hy, d1⟩ := (HR1.out.below hB).int_at (k := j + 1) (by omega)
            cases e
            obtain rfl : (z : Int) = y := by rw [← HEY.out]; exact nth_is hy.out
            clear hy
            have f3 : (0 : Int) ≤ (j : Int) + 1 := by omega
            have f4 : (j : Int) + 1 < ((q + 2 : Nat) : Int) := by omega
            have f6 : ((j : Int) + 1).toNat = j + 1 := by omega
            by_cases hiz : i < z
            · obtain ⟨b2, o2, v, rfl, hv, c0⟩ := (HR2.out.below hB).int_at (k := i) (by omega)
              obtain ⟨b1, o1, x, e, hx, d0⟩ := (HR1.out.below hB).int_at (k := j) (by omega)
              cases e
              obtain rfl : (a : Int) = x := by rw [← HEX.out]; exact nth_is hx.out
              clear hx
              have HG := Lib.hid hG
              have HV := Lib.hid hv
              have hrv : Hid ((rowR off to j)[i - a]? = some v) := by
                show _ = _
                rw [hrg.out (i - a) (by omega), show a + (i - a) = i by omega]
                exact hv.out
              clear hv hG
              have i1 : (0 : Int) ≤ (i : Int) := by omega
              have i2 : (i : Int) < (n2 : Int) := by omega
              have i3 : (i : Int) < (z : Int) := by omega
              have hmem : Hid (v ∈ rowR off to j) := List.mem_of_getElem? hrv.out
              go_wp2
              clear d1
              by_cases v0 : v < 0
              · have HF : Hid (¬ halfR off to) := fun h => by have := (h.2 j (List.mem_range.2 (by omega))).1 v hmem.out; omega
                go_quiet (fail)
                rename_i nq
                have HB := Lib.hid (below_drewN hB nq)
                clear hB
                go_wp2
                go_ret
                exact ⟨ret_bool (decide_eq_false HF.out).symm, HB.out⟩
              by_cases v1 : (q : Int) + 2 - 1 ≤ v
              · have HF : Hid (¬ halfR off to) := fun h => by have h3 := (h.2 j (List.mem_range.2 (by omega))).1 v hmem.out; rw [hl1] at h3; omega
                go_quiet (fail)
                rename_i nq
                have HB := Lib.hid (below_drewN hB nq)
                clear hB
                go_wp2
                go_ret
                exact ⟨ret_bool (decide_eq_false HF.out).symm, HB.out⟩
              have hgv : Hid (0 ≤ v ∧ v < ((q + 1 : Nat) : Int)) := by show _ ∧ _; omega
              have htk : Hid ((rowR off to j).take (i + 1 - a) = (rowR off to j).take (i - a) ++ [v]) := by
                show _ = _
                rw [show i + 1 - a = (i - a) + 1 by omega, List.take_add_one, hrv.out]
                rfl
              by_cases hia : i = a
              · subst hia
                go_quiet (fail)
                rename_i nq
                have HB := Lib.hid (below_drewN hB nq)
                clear hB
                go_wp2
                go_roundw
                case rel =>
                  refine ⟨i + 1, ⟨by omega, by omega⟩, by go_num, ?_, HB.out⟩
                  rw [htk.out, Nat.sub_self]
                  exact ⟨fun x hx => by simp at hx; rw [hx]; exact hgv.out, by simp [incr]⟩
                case measure => simp [intOf]; omega
              obtain ⟨b3, o3, p, e, hp, c1⟩ := (HR2.out.below hB).int_at (k := i - 1) (by omega)
              cases e
              have hrp : Hid ((rowR off to j)[i - 1 - a]? = some p) := by
                show _ = _
                rw [hrg.out (i - 1 - a) (by omega), show a + (i - 1 - a) = i - 1 by omega]
                exact hp.out
              clear hp
              have k1 : (0 : Int) ≤ (i : Int) - 1 := by omega
              have k2 : (i : Int) - 1 < (n2 : Int) := by omega
              have k3 : ((i : Int) - 1).toNat = i - 1 := by omega
              have k4 : IntKind.i64.wrap ((i : Int) - 1) = (i : Int) - 1 := IntWalk.i64_in _ (by omega)
              have k5 : (a : Int) < (i : Int) := by omega
              by_cases hvp : v ≤ p
              · have HF : Hid (¬ halfR off to) := fun h => by
                  have h3 := incr_pair (h.2 j (List.mem_range.2 (by omega))).2 hrp.out (by rw [show i - 1 - a + 1 = i - a by omega]; exact hrv.out)
                  omega
                go_quiet (fail)
                rename_i nq
                have HB := Lib.hid (below_drewN hB nq)
                clear hB
                go_wp2
                go_ret
                exact ⟨ret_bool (decide_eq_false HF.out).symm, HB.out⟩
              go_quiet (fail)
              rename_i nq
              have HB := Lib.hid (below_drewN hB nq)
              clear hB
              go_wp2
              go_roundw
              case rel =>
                refine ⟨i + 1, ⟨by omega, by omega⟩, by go_num, ?_, HB.out⟩
                rw [htk.out]
                refine ⟨fun x hx => ?_, incr_snoc HG.out.2 fun y hy => ?_⟩
                · rcases List.mem_append.1 hx with hx | hx
                  · exact HG.out.1 x hx
                  · rw [List.mem_singleton.1 hx]; exact hgv.out
                · rw [List.getLast?_eq_getElem?, List.getElem?_take_of_lt (by rw [List.length_take, HL.out]; omega), List.length_take, HL.out, show min (i - a) (z - a) - 1 = i - 1 - a by omega, hrp.out] at hy
                  injection hy with hy
                  omega
              case measure => simp [intOf]; omega
            · obtain rfl : i = z := by omega
              have HG := Lib.hid hG
              have HB := Lib.hid hB
              have hlast : Hid (goodRowI (q + 1) (rowR off to j)) := by
                have h := HG.out
                rw [List.take_of_length_le (by rw [HL.out]; exact Nat.le_refl _)] at h
                exact h
              clear hG hB
              go_wp2
              clear d1
              go_roundw
              case rel =>
                refine ⟨j + 1, by omega, by go_num, fun u hu => ?_, HB.out⟩
                by_cases e : u = j
                · rw [e]; exact hlast.out
                · exact HT.out u (by omega)
              case measure => simp [intOf]; omega
        · obtain rfl : j = q + 1 := by omega
          have HF : Hid (halfR off to) := ⟨HS.out, fun u hu => by
            rw [hl1, show q + 2 - 1 = q + 1 by omega] at hu ⊢
            exact hT.out u (List.mem_range.1 hu)⟩
          have HB := Lib.hid hB
          clear hT hB
          go_wp2
          go_ret
          exact ⟨ret_bool (decide_eq_true HF.out).symm, HB.out⟩
end Go.Proofs.YtichoidkemeibaaGreat
