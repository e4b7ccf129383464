/-
  The reference of chapter 19: there, Fresh, within: the walks.
  The reference's rows: a place's part, halves, the check.
-/
import Derived.Test.YtichoidkemeibaaGreatJ16
import Derived.Test.YtichoidkemeibaaGreatJ07
import Derived.Test.YtichoidkemeibaaGreatJ03
import Derived.BigQuiet
import Derived.StillTailTactics
namespace Go.Proofs.YtichoidkemeibaaGreat
open Go.RowKit

theorem key_box {w : World} {b : Nat} {x : Msg} (h : w.heap[b]? = some (.cells #[.int .i64 x.slot, .int .i64 x.dir, .int .i64 x.v] 41 (0, 0))) :
    w.cell? ⟨b, 0, none⟩ = some (.int .i64 x.slot) ∧ w.cell? ⟨b, 1, none⟩ = some (.int .i64 x.dir) ∧ w.cell? ⟨b, 2, none⟩ = some (.int .i64 x.v) := by
  refine ⟨?_, ?_, ?_⟩ <;> · rw [Lib.cell_of_heap h]; rfl

set_option maxRecDepth 100000 in
set_option maxHeartbeats 2000000 in
theorem there_c (A : Option Addr) (n c : Nat) (S : List Msg) (y : Msg) (w : World) (hr : Reads w w.heap.size 4 A n (mv S)) (hn : n ≤ maxLen) :
    Calls Tryz.prog 69 #[.slice A n c, .agg #[.int .i64 y.slot, .int .i64 y.dir, .int .i64 y.v]] w fun e w' => e = .returned (.bool (hasK S y)) ∧ Below w.heap.size w w' := by
  have hl := Lib.hid hr.mail_len
  unfold maxLen at hn
  have HR := Lib.hid hr
  clear hr
  go_enter Tryz.func69, Tryz.ntmps69
  go_wp2_with (fail)
  go_loopw [5] (fun i wr => ∃ j : Nat, j ≤ n ∧ i = .int .i64 j ∧ Hid (∀ z ∈ S.take j, ¬ kEq z y) ∧ Below w.heap.size w wr ∧ wr.heap[w.heap.size]? = some (.cells #[.int .i64 y.slot, .int .i64 y.dir, .int .i64 y.v] 41 (0, 0))) (fun i _ => n - (intOf i).toNat)
  case atStart => exact ⟨0, Nat.zero_le _, rfl, fun z hz => by simp at hz, below_one _ _, Array.getElem?_push_size⟩
  case round =>
    obtain ⟨j, hj, rfl, hT, hB, hbx⟩ := hrel
    by_cases hlt : j < n
    · obtain ⟨b, o, x, rfl, hx, c0, c1, c2, c3⟩ := (HR.out.below hB).mail_at hlt
      obtain ⟨d0, d1, d2⟩ := key_box hbx
      have HX := Lib.hid hx.out
      have HB := Lib.hid hB
      have HBX := Lib.hid hbx
      clear hx hB hbx
      have f1 : (0 : Int) ≤ (j : Int) := by omega
      have f2 : (j : Int) < (n : Int) := by omega
      by_cases hkey : kEq x y
      · have hf : Hid (hasK S y = true) := by
          show _ = _
          unfold hasK
          rw [List.any_eq_true]
          exact ⟨x, List.mem_of_getElem? HX.out, decide_eq_true hkey⟩
        obtain ⟨e1, e2, e3⟩ := id hkey
        rw [e1] at c0
        rw [e2] at c1
        rw [e3] at c2
        clear e1 e2 e3 hkey
        go_wp2_with (fail)
        go_quiet (fail)
        rename_i nq
        have HB2 := Lib.hid (below_drewN HB.out nq)
        generalize wr.drewN nq = w2 at *
        clear c0 c1 c2 c3 d0 d1 d2
        go_wp2_with (fail)
        go_ret
        exact ⟨ret_bool hf.out.symm, HB2.out⟩
      · have hrun := run_eql_key x y hkey
        have hT' : Hid (∀ z ∈ S.take (j + 1), ¬ kEq z y) := fun z hz => by
          rw [List.take_add_one, HX.out, Option.toList_some] at hz
          rcases List.mem_append.1 hz with hz | hz
          · exact hT.out z hz
          · rw [List.mem_singleton.1 hz]; exact hkey
        clear hkey
        go_wp2_with (fail)
        go_quiet (fail)
        rename_i nq
        have HB2 := Lib.hid (below_drewN HB.out nq)
        have HBX2 : Hid ((wr.drewN nq).heap[w.heap.size]? = some (.cells #[.int .i64 y.slot, .int .i64 y.dir, .int .i64 y.v] 41 (0, 0))) := HBX.out
        generalize wr.drewN nq = w2 at *
        clear c0 c1 c2 c3 d0 d1 d2 hrun
        go_wp2_with (fail)
        go_roundw
        case rel => exact ⟨j + 1, by omega, by go_num, hT', HB2.out, HBX2.out⟩
        case measure => simp [intOf]; omega
    · obtain rfl : j = n := by omega
      have hf : Hid (hasK S y = false) := by
        show _ = _
        refine hasK_iff.2 fun z hz => hT.out z ?_
        rw [List.take_of_length_le (by rw [hl.out]; exact Nat.le_refl _)]
        exact hz
      go_wp2_with (fail)
      go_ret
      exact ⟨ret_bool hf.out.symm, hB⟩

set_option maxRecDepth 100000 in
set_option maxHeartbeats 2000000 in
theorem fresh19_c (A1 A2 : Option Addr) (n1 c1 n2 c2 : Nat) (S M : List Msg) (w : World) (h1 : Reads w w.heap.size 4 A1 n1 (mv S)) (h2 : Reads w w.heap.size 4 A2 n2 (mv M)) (hn1 : n1 ≤ 1000000) (hn2 : n2 ≤ 100000) :
    Calls Tryz.prog 28 #[.slice A1 n1 c1, .slice A2 n2 c2] w fun e w' => ∃ A' k c', e = .returned (.slice A' k c') ∧ k = (freshL S M).length ∧ w'.ownsRow w.heap.size 44 4 (.slice A' k c') k (mv (freshL S M)) ∧ Below w.heap.size w w' := by
  have hl2 := Lib.hid h2.mail_len
  have HR1 := Lib.hid h1
  have HR2 := Lib.hid h2
  clear h1 h2
  go_enter Tryz.func28, Tryz.ntmps28
  go_wp2_with (fail)
  refine (combine16_c A2 n2 c2 M _ HR2.out hn2).mono ?_
  rintro e w1 ⟨A3, n3, c3, rfl, hlen, ho3, hB1⟩
  have hn3 : n3 ≤ 100000 := by
    have h1 := combine_lenR M
    have h2 := hl2.out
    omega
  have HL3 := Lib.hid hlen
  have HR3 := Lib.hid (own_reads ho3)
  have HB1 := Lib.hid hB1
  clear hlen ho3 hB1
  go_wp2_with (fail)
  go_loopw [7, 6] (fun i out wr => ∃ (j k : Nat) (A : Option Addr) (c : Nat), j ≤ n3 ∧ k ≤ j ∧ i = .int .i64 j ∧ out = .slice A k c ∧ wr.ownsRow w1.heap.size 44 4 (.slice A k c) k (mv (((combine M).take j).filter fun m => !hasK S m)) ∧ Below w1.heap.size w1 wr) (fun i _ _ => n3 - (intOf i).toNat)
  case atStart => exact ⟨0, 0, none, 0, Nat.zero_le _, Nat.le_refl _, rfl, rfl, by simpa [mv] using own_nil, Below.refl _ _⟩
  case round =>
    obtain ⟨j, k, A, c, hj, hkj, rfl, rfl, ho, hB⟩ := hrel
    by_cases hlt : j < n3
    · obtain ⟨b, o, x, rfl, hx, d0, d1, d2, d3⟩ := (HR3.out.below hB).mail_at hlt
      have HX := Lib.hid hx.out
      have HB := Lib.hid hB
      have HO := Lib.hid ho
      clear hx hB ho
      have f1 : (0 : Int) ≤ (j : Int) := by omega
      have f2 : (j : Int) < (n3 : Int) := by omega
      go_wp2_with (fail)
      refine (there_c A1 n1 c1 S x _ ((HR1.out.below (HB1.out.trans (HB.out.mono HB1.out.size))).more (Nat.le_trans HB1.out.size HB.out.size)) (by unfold maxLen; omega)).mono ?_
      rintro e w2 ⟨rfl, hB2⟩
      have HB2 := Lib.hid (HB.out.trans (hB2.mono HB.out.size))
      have HO2 := Lib.hid (own_below HO.out hB2)
      clear hB2 d0 d1 d2 d3 HB HO
      by_cases hh : hasK S x = true
      · rw [hh]
        have hT : Hid (((combine M).take (j + 1)).filter (fun m => !hasK S m) = ((combine M).take j).filter (fun m => !hasK S m)) := by
          show _ = _
          rw [List.take_add_one, HX.out, Option.toList_some, List.filter_append]
          simp [hh]
        clear hh
        go_wp2_with (fail)
        go_roundw
        case rel => exact ⟨j + 1, k, A, c, by omega, by omega, by go_num, rfl, by rw [hT.out]; exact HO2.out, HB2.out⟩
        case measure => simp [intOf]; omega
      · have hh : hasK S x = false := by simpa using hh
        rw [hh]
        have hT : Hid (((combine M).take (j + 1)).filter (fun m => !hasK S m) = ((combine M).take j).filter (fun m => !hasK S m) ++ [x]) := by
          show _ = _
          rw [List.take_add_one, HX.out, Option.toList_some, List.filter_append]
          simp [hh]
        clear hh
        obtain ⟨b', o', x', he, hx', d0, d1, d2, d3⟩ := (HR3.out.below HB2.out).mail_at hlt
        cases he
        have hxx := HX.out
        rw [hx'.out] at hxx
        cases hxx
        clear hx'
        go_wp2_with (at_builtin; refine wpList_push elMail rfl _ _ rfl HO2.out rfl _ rfl rfl (mc_one x) (by unfold maxLen; omega) (by omega) HB2.out.size ?_; intro A4 c4 w4 hoo4 p4)
        have HB4 := Lib.hid (p4.below HO2.out HB2.out (Nat.le_refl _) HB2.out.size)
        have HO4 := Lib.hid hoo4
        clear p4 hoo4 d0 d1 d2 d3
        go_wp2_with (fail)
        go_roundw
        case rel =>
          refine ⟨j + 1, k + 1, A4, c4, by omega, by omega, by go_num, rfl, ?_, HB4.out⟩
          rw [hT.out, mv_append]
          simpa [mv, mc] using HO4.out
        case measure => simp [intOf]; omega
    · obtain rfl : j = n3 := by omega
      have hT : Hid (((combine M).take j).filter (fun m => !hasK S m) = freshL S M) := by
        show _ = _
        rw [List.take_of_length_le (by rw [HL3.out]; exact Nat.le_refl _), freshL_filter]
      rw [hT.out] at ho
      have HO := Lib.hid (own_more (base := w.heap.size) ho HB1.out.size)
      have HK := Lib.hid (own_reads ho).mail_len
      have HB := Lib.hid (HB1.out.trans (hB.mono HB1.out.size))
      clear ho hB
      go_wp2_with (fail)
      go_ret
      exact ⟨A, k, c, rfl, HK.out.symm, HO.out, HB.out⟩

set_option maxRecDepth 100000 in
set_option maxHeartbeats 2000000 in
theorem within19_c (A1 A2 : Option Addr) (n1 c1 n2 c2 : Nat) (S M : List Msg) (m : Int) (w : World) (h1 : Reads w w.heap.size 4 A1 n1 (mv S)) (h2 : Reads w w.heap.size 4 A2 n2 (mv M)) (hn1 : n1 ≤ maxLen) (hn2 : n2 ≤ maxLen) :
    Calls Tryz.prog 58 #[.slice A1 n1 c1, .slice A2 n2 c2, .int .i64 m] w fun e w' => e = .returned (.bool (decide ((∀ x ∈ S, x.v < m) ∧ ∀ x ∈ M, x.v < m))) ∧ Below w.heap.size w w' := by
  have hl1 := Lib.hid h1.mail_len
  have hl2 := Lib.hid h2.mail_len
  unfold maxLen at hn1 hn2
  have HR1 := Lib.hid h1
  have HR2 := Lib.hid h2
  clear h1 h2
  go_enter Tryz.func58, Tryz.ntmps58
  go_wp2_with (fail)
  go_loopw [7] (fun i wr => ∃ j : Nat, j ≤ n1 ∧ i = .int .i64 j ∧ Hid (∀ x ∈ S.take j, x.v < m) ∧ Below w.heap.size w wr) (fun i _ => n1 - (intOf i).toNat)
  case atStart => exact ⟨0, Nat.zero_le _, rfl, fun z hz => by simp at hz, Below.refl _ _⟩
  case round =>
    obtain ⟨j, hj, rfl, hT, hB⟩ := hrel
    by_cases hlt : j < n1
    · obtain ⟨b, o, x, rfl, hx, c0, c1', c2', c3⟩ := (HR1.out.below hB).mail_at hlt
      have HX := Lib.hid hx.out
      have HB := Lib.hid hB
      clear hx hB
      have f1 : (0 : Int) ≤ (j : Int) := by omega
      have f2 : (j : Int) < (n1 : Int) := by omega
      by_cases hv : m ≤ x.v
      · have hf : Hid (decide ((∀ x ∈ S, x.v < m) ∧ ∀ x ∈ M, x.v < m) = false) := decide_eq_false fun h => by
          have := h.1 x (List.mem_of_getElem? HX.out)
          omega
        go_wp2_with (fail)
        go_ret
        exact ⟨ret_bool hf.out.symm, HB.out⟩
      · have hT' : Hid (∀ z ∈ S.take (j + 1), z.v < m) := fun z hz => by
          rw [List.take_add_one, HX.out, Option.toList_some] at hz
          rcases List.mem_append.1 hz with hz | hz
          · exact hT.out z hz
          · rw [List.mem_singleton.1 hz]; omega
        go_wp2_with (fail)
        go_roundw
        case rel => exact ⟨j + 1, by omega, by go_num, hT', HB.out⟩
        case measure => simp [intOf]; omega
    · obtain rfl : j = n1 := by omega
      have hA : Hid (∀ x ∈ S, x.v < m) := fun z hz => hT.out z (by rw [List.take_of_length_le (by rw [hl1.out]; exact Nat.le_refl _)]; exact hz)
      have HBA := Lib.hid hB
      obtain ⟨wo, rfl⟩ : ∃ wo : World, wo = wr := ⟨_, rfl⟩
      clear hB hT
      go_wp2_with (fail)
      go_loopw [8] (fun i wr => ∃ j : Nat, j ≤ n2 ∧ i = .int .i64 j ∧ Hid (∀ x ∈ M.take j, x.v < m) ∧ Below w.heap.size w wr) (fun i _ => n2 - (intOf i).toNat)
      case atStart => exact ⟨0, Nat.zero_le _, rfl, fun z hz => by simp at hz, HBA.out⟩
      case round =>
        clear HBA
        obtain ⟨i, hi, rfl, hT, hB⟩ := hrel
        by_cases hlt : i < n2
        · obtain ⟨b, o, x, rfl, hx, c0, c1', c2', c3⟩ := (HR2.out.below hB).mail_at hlt
          have HX := Lib.hid hx.out
          have HB := Lib.hid hB
          clear hx hB
          have f1 : (0 : Int) ≤ (i : Int) := by omega
          have f2 : (i : Int) < (n2 : Int) := by omega
          by_cases hv : m ≤ x.v
          · have hf : Hid (decide ((∀ x ∈ S, x.v < m) ∧ ∀ x ∈ M, x.v < m) = false) := decide_eq_false fun h => by
              have := h.2 x (List.mem_of_getElem? HX.out)
              omega
            go_wp2_with (fail)
            go_ret
            exact ⟨ret_bool hf.out.symm, HB.out⟩
          · have hT' : Hid (∀ z ∈ M.take (i + 1), z.v < m) := fun z hz => by
              rw [List.take_add_one, HX.out, Option.toList_some] at hz
              rcases List.mem_append.1 hz with hz | hz
              · exact hT.out z hz
              · rw [List.mem_singleton.1 hz]; omega
            go_wp2_with (fail)
            go_roundw
            case rel => exact ⟨i + 1, by omega, by go_num, hT', HB.out⟩
            case measure => simp [intOf]; omega
        · obtain rfl : i = n2 := by omega
          have hf : Hid (decide ((∀ x ∈ S, x.v < m) ∧ ∀ x ∈ M, x.v < m) = true) := decide_eq_true ⟨hA.out, fun z hz => hT.out z (by rw [List.take_of_length_le (by rw [hl2.out]; exact Nat.le_refl _)]; exact hz)⟩
          go_wp2_with (fail)
          go_ret
          exact ⟨ret_bool hf.out.symm, hB⟩
end Go.Proofs.YtichoidkemeibaaGreat

namespace Go.Proofs.YtichoidkemeibaaGreat
open Go.RowKit

theorem own01_c (A : Option Addr) (n c : Nat) (xs : List Int) (w : World) (h1 : Reads w w.heap.size 1 A n (iv xs)) (hn : n * 8 ≤ 140737488355328) :
    Calls Tryz.prog 135 #[.slice A n c] w fun e w' => ∃ A' c', e = .returned (.slice A' n c') ∧ w'.ownsRow w.heap.size 3 1 (.slice A' n c') n (iv xs) ∧ Below w.heap.size w w' := by
  go_enter Tryz.func135, Tryz.ntmps135
  go_wp2_with (at_builtin; refine wpList_cat elInt rfl _ _ rfl (own_nil (base := w.heap.size)) rfl h1 rfl (iv_one _) (by unfold maxLen; omega) (by omega) (Nat.le_refl _) ?_; intro A1 c1 w1 hown p1)
  go_ret
  exact ⟨A1, c1, rfl, by simpa using hown, p1.below0 (Below.refl _ _) (Nat.le_refl _)⟩

set_option maxRecDepth 100000 in
set_option maxHeartbeats 1000000 in
theorem row04_c (A1 A2 : Option Addr) (n1 c1 n2 c2 : Nat) (off to : List Int) (v : Nat) (w : World) (h1 : Reads w w.heap.size 1 A1 n1 (iv off)) (h2 : Reads w w.heap.size 1 A2 n2 (iv to)) (hm1 : n1 ≤ maxLen) (hm2 : n2 ≤ 1000000) (hcap : n2 ≤ c2) (hv : v + 1 < n1)
    (ha : 0 ≤ nth off v) (hab : nth off v ≤ nth off (v + 1)) (hb : nth off (v + 1) ≤ (to.length : Int)) :
    Calls Tryz.prog 96 #[.slice A1 n1 c1, .slice A2 n2 c2, .int .i64 v] w fun e w' => ∃ A' k c', e = .returned (.slice A' k c') ∧ k = (rowR off to v).length ∧ w'.ownsRow w.heap.size 3 1 (.slice A' k c') k (iv (rowR off to v)) ∧ Below w.heap.size w w' := by
  unfold maxLen at hm1
  have hl1 := h1.int_len
  have hl2 := h2.int_len
  obtain ⟨b, o, x, rfl, hx, d0⟩ := h1.int_at (k := v) (by omega)
  obtain ⟨b', o', y, he, hy, d1⟩ := h1.int_at (k := v + 1) hv
  cases he
  have ex := nth_is hx.out
  have ey := nth_is hy.out
  rw [ex] at ha hab
  rw [ey] at hab hb
  have HX := Lib.hid ex
  have HY := Lib.hid ey
  have HR2 := Lib.hid h2
  clear ex ey hx hy h1 h2
  have f1 : (0 : Int) ≤ (v : Int) := by omega
  have f2 : (v : Int) < (n1 : Int) := by omega
  have f3 : (0 : Int) ≤ (v : Int) + 1 := by omega
  have f4 : (v : Int) + 1 < (n1 : Int) := by omega
  have f5 : IntKind.i64.wrap ((v : Int) + 1) = (v : Int) + 1 := IntWalk.i64_in _ (by omega)
  have f6 : ((v : Int) + 1).toNat = v + 1 := by omega
  have g1 : (y : Int) ≤ (c2 : Int) := by omega
  go_enter Tryz.func96, Tryz.ntmps96
  go_wp2_with (fail)
  refine wp_region_still_tail 11 (by kernel_rfl) (by kernel_rfl) ?_
  simp only [List.take_succ_cons, List.take_zero, List.drop_succ_cons, List.drop_zero]
  obtain ⟨w3, hw3⟩ : ∃ w3, w3 = w.drew := ⟨_, rfl⟩
  change w.drew.cell? _ = _ at d0 d1
  rw [← hw3] at d0 d1
  change wpStill _ _ w.drew (fun a' => wpList _ _ _ _ a' w.drew) _ _
  rw [← hw3]
  have HW := Lib.hid hw3
  clear hw3
  have hr3 : Reads w3 w3.heap.size 1 (if c2 = x.toNat then A2 else A2.map fun p => p.add x.toNat) (y.toNat - x.toNat) (iv (cutI to x y)) := by
    rw [HW.out]
    exact reads_part (HR2.out.below ((Below.refl _ _).drew)) ha hab (by omega) hcap
  have HB3 : Hid (Below w.heap.size w w3) := by rw [HW.out]; exact (Below.refl _ _).drew
  have HR3 := Lib.hid hr3
  clear hr3
  repeat still_step
  have er : rowR off to v = cutI to x y := by unfold rowR; rw [HX.out, HY.out]
  have el : y.toNat - x.toNat = (rowR off to v).length := by
    rw [er]
    have := cutI_len ha hab hb
    omega
  have hk8 : (rowR off to v).length ≤ n2 := by rw [← hl2]; exact row_len_le off to v
  have HE := Lib.hid el
  have HER := Lib.hid er
  generalize (if c2 = x.toNat then A2 else Option.map (fun x_1 => x_1.add x.toNat) A2) = A3 at HR3 ⊢
  generalize y.toNat - x.toNat = k3 at HR3 HE ⊢
  generalize c2 - x.toNat = c3
  have hk3 : k3 ≤ 1000000 := by rw [HE.out]; omega
  clear er el hk8
  refine wpStill_nil ?_
  go_wp2_with (fail)
  refine (own01_c _ _ _ (cutI to x y) _ HR3.out (by omega)).mono ?_
  rintro e w4 ⟨A5, c5, rfl, ho, hB4⟩
  have hs3 : w.heap.size ≤ w3.heap.size := HB3.out.size
  have ho5 := own_more (base := w.heap.size) ho hs3
  have hB5 := HB3.out.trans (hB4.mono hs3)
  rw [← HER.out] at ho5
  have HO := Lib.hid ho5
  have HB := Lib.hid hB5
  clear ho hB4 ho5 hB5 d0 d1 f1 f2 f3 f4 f5 f6 g1
  go_wp2_with (fail)
  go_ret
  exact ⟨_, _, _, rfl, HE.out, HO.out, HB.out⟩
end Go.Proofs.YtichoidkemeibaaGreat
