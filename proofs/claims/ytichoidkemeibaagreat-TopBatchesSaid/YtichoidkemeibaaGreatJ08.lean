/-
  round.right: the walk.
  Split refused: the program's and the reference's.
  Split: the program's and the reference's; the same of rows of rows.
  Plain laws of chapter 17: picks, and what is ordered by them. No program in sight.
  The walks of the picks.
-/
import Derived.Test.YtichoidkemeibaaGreatJ04
import Derived.Test.YtichoidkemeibaaGreatJ02
import Derived.Test.YtichoidkemeibaaGreatJ05
import Derived.Test.YtichoidkemeibaaGreatProg
import Derived.Test.YtichoidkemeibaaGreatJ01
import Derived.Lib.QuietBelow
import Derived.BigQuiet
import Derived.Deep.RegionLaw
import Derived.Handy
import Derived.WalkLawsBesides
import Derived.WalkSpells
namespace Go.Proofs.YtichoidkemeibaaGreat
open Go.RowKit Go.Sort Go.Lib

/-- States are right, of so many places. -/
def rightP (l : List Msg) (n : Int) : Prop := (∀ x ∈ l, mayM x ∧ x.v < n) ∧ l.Pairwise kless
instance (l : List Msg) (n : Int) : Decidable (rightP l n) := by unfold rightP; infer_instance
theorem rise_snocR {o : List Msg} {x : Msg} (h : o.Pairwise kless) (hl : ∀ y, o.getLast? = some y → kless y x) : (o ++ [x]).Pairwise kless := by
  rw [List.pairwise_append]
  refine ⟨h, by simp, fun a ha b hb => ?_⟩
  rw [List.mem_singleton.1 hb]
  rcases List.eq_nil_or_concat o with h0 | ⟨o', y, h0⟩
  · rw [h0] at ha; simp at ha
  · rw [List.concat_eq_append] at h0
    subst h0
    have hy := hl y (by simp)
    rcases List.mem_append.1 ha with ha | ha
    · rw [List.pairwise_append] at h
      exact kless_trans (h.2.2 a ha y (by simp)) hy
    · rw [List.mem_singleton.1 ha]; exact hy
theorem cmp_neg (x y : Msg) : cmpM x y < 0 ↔ kless x y := by
  have h := lt_cmpM x y
  unfold ltOf at h
  rw [decide_eq_decide] at h
  exact h
theorem below_grownQ (W : World) (q : Nat) (os : Array Obj) : Below W.heap.size W (grow (W.drewN q) os) := below_regrown W (W.drawn + q) os
theorem rightP_take {l : List Msg} {n : Int} (j : Nat) (h : rightP l n) : rightP (l.take j) n := ⟨fun x hx => h.1 x (List.mem_of_mem_take hx), h.2.sublist (List.take_sublist _ _)⟩

set_option maxRecDepth 100000 in
set_option maxHeartbeats 4000000 in
theorem right_c (A : Option Addr) (n c : Nat) (l : List Msg) (m : Int) (w : World) (hr : Reads w w.heap.size 4 A n (mv l)) (hn : n ≤ 1000000) :
    Calls Tryz.prog 45 #[.slice A n c, .int .i64 m] w fun e w' => e = .returned (.bool (decide (rightP l m))) ∧ Below w.heap.size w w' := by
  have hl := Lib.hid hr.mail_len
  have HR := Lib.hid hr
  clear hr
  go_enter Tryz.func45, Tryz.ntmps45
  go_wp2_with (fail)
  go_loopw [9] (fun i wr => ∃ j : Nat, j ≤ n ∧ i = .int .i64 j ∧ Hid (rightP (l.take j) m) ∧ Below w.heap.size w wr) (fun i _ => n - (intOf i).toNat)
  case atStart => exact ⟨0, Nat.zero_le _, rfl, ⟨fun x hx => by simp at hx, by simp⟩, Below.refl _ _⟩
  case round =>
    obtain ⟨j, hj, rfl, hT, hB⟩ := hrel
    by_cases hlt : j < n
    · obtain ⟨b, o, x, rfl, hx, d0, d1, d2, d3⟩ := (HR.out.below hB).mail_at hlt
      have HX := Lib.hid hx.out
      have hbx : (wr.alloc (.cells #[.int .i64 x.slot, .int .i64 x.dir, .int .i64 x.v, .int .i64 x.d] 43)).heap[wr.heap.size]? = _ := wr.alloc_heap_new _
      have hBx : Below w.heap.size w (wr.alloc (.cells #[.int .i64 x.slot, .int .i64 x.dir, .int .i64 x.v, .int .i64 x.d] 43)) := hB.trans ((below_one _ _).mono hB.size)
      have hbad : Hid (¬ (mayM x ∧ x.v < m) → ¬ rightP l m) := fun hno h => hno (h.1 x (List.mem_of_getElem? HX.out))
      have hnext : Hid ((mayM x ∧ x.v < m) → (∀ y, (l.take j).getLast? = some y → kless y x) → rightP (l.take (j + 1)) m) := fun h1 h2 => by
        rw [List.take_add_one, HX.out, Option.toList_some]
        refine ⟨fun y hy => ?_, rise_snocR hT.out.2 h2⟩
        rcases List.mem_append.1 hy with hy | hy
        · exact hT.out.1 y hy
        · rw [List.mem_singleton.1 hy]; exact h1
      have HB0 := Lib.hid hB
      have HBX := Lib.hid hBx
      clear hx hB hBx
      have f1 : (0 : Int) ≤ (j : Int) := by omega
      have f2 : (j : Int) < (n : Int) := by omega
      go_wp2_with (fail)
      clear d0 d1 d2 d3
      obtain ⟨wb, hwb⟩ : ∃ wb, wb = wr.alloc (.cells #[.int .i64 x.slot, .int .i64 x.dir, .int .i64 x.v, .int .i64 x.d] 43) := ⟨_, rfl⟩
      rw [← hwb] at hbx HBX
      rw [← hwb]
      have hsz : wr.heap.size < wb.heap.size := by rw [hwb]; simp
      clear hwb
      obtain ⟨e0, e1, e2, e3⟩ : wb.cell? ⟨wr.heap.size, 0, none⟩ = some (.int .i64 x.slot) ∧ wb.cell? ⟨wr.heap.size, 1, none⟩ = some (.int .i64 x.dir) ∧ wb.cell? ⟨wr.heap.size, 2, none⟩ = some (.int .i64 x.v) ∧ wb.cell? ⟨wr.heap.size, 3, none⟩ = some (.int .i64 x.d) := by
        refine ⟨?_, ?_, ?_, ?_⟩ <;> · rw [Lib.cell_of_heap hbx]; rfl
      have e0 := cell_regrown e0
      have e1 := cell_regrown e1
      have e2 := cell_regrown e2
      have e3 := cell_regrown e3
      clear hbx
      have HM := Lib.hid (regrown_call (w := wb) (P := Tryz.prog) (f := 62) (args := #[.agg #[.int .i64 x.slot, .int .i64 x.dir, .int .i64 x.v, .int .i64 x.d]]) (v := .bool (decide (mayM x))) (fun w' _ => (roundMay_c x w').mono fun e w'' hh => hh))
      by_cases hmay : mayM x
      rotate_left
      · have hf : Hid (decide (rightP l m) = false) := decide_eq_false (hbad.out fun h => hmay h.1)
        rw [decide_eq_false hmay] at HM
        clear hmay
        refine wp_region_quiet_below (by kernel_rfl) (by kernel_rfl) ?_
        quiet_step (fail)
        quiet_step ((go_at_call 62; exact HM.out _ _))
        quiet_step (fail)
        quiet_step (fail)
        go_big_quiet_skip
        go_big_quiet_skip
        go_big_quiet_skip
        go_big_quiet_skip
        go_big_quiet_skip
        quiet_step (fail)
        quiet_step (fail)
        go_big_quiet_skip
        go_big_quiet_skip
        go_big_quiet_skip
        go_big_quiet_skip
        go_big_quiet_skip
        go_big_quiet_skip
        go_big_quiet_skip
        go_big_quiet_skip
        go_big_quiet_skip
        go_big_quiet_skip
        go_big_quiet_skip
        go_big_quiet_skip
        go_big_quiet_skip
        go_big_quiet_skip
        quiet_step (fail)
        refine wpQuiet_nil ?_
        intro _ hw'
        obtain ⟨⟨dq, osq⟩, hw''⟩ := hw'
        have HZ := Lib.hid (HBX.out.trans ((below_regrown wb dq osq).mono HBX.out.size))
        rw [← hw''] at HZ
        clear hw''
        go_wp2_with (fail)
        go_ret
        exact ⟨ret_bool hf.out.symm, HZ.out⟩
      rw [decide_eq_true hmay] at HM
      by_cases hvm : m ≤ x.v
      · have hf : Hid (decide (rightP l m) = false) := decide_eq_false (hbad.out fun h => by have := h.2; omega)
        clear hmay
        refine wp_region_quiet_below (by kernel_rfl) (by kernel_rfl) ?_
        quiet_step (fail)
        quiet_step ((go_at_call 62; exact HM.out _ _))
        quiet_step (fail)
        quiet_step (fail)
        quiet_step (fail)
        quiet_step (fail)
        quiet_step (fail)
        quiet_step (fail)
        quiet_step (fail)
        quiet_step (fail)
        quiet_step (fail)
        go_big_quiet_skip
        go_big_quiet_skip
        go_big_quiet_skip
        go_big_quiet_skip
        go_big_quiet_skip
        go_big_quiet_skip
        go_big_quiet_skip
        go_big_quiet_skip
        go_big_quiet_skip
        go_big_quiet_skip
        go_big_quiet_skip
        go_big_quiet_skip
        go_big_quiet_skip
        go_big_quiet_skip
        quiet_step (fail)
        refine wpQuiet_nil ?_
        intro _ hw'
        obtain ⟨⟨dq, osq⟩, hw''⟩ := hw'
        have HZ := Lib.hid (HBX.out.trans ((below_regrown wb dq osq).mono HBX.out.size))
        rw [← hw''] at HZ
        clear hw''
        go_wp2_with (fail)
        go_ret
        exact ⟨ret_bool hf.out.symm, HZ.out⟩
      have hok : Hid (mayM x ∧ x.v < m) := ⟨hmay, by omega⟩
      clear hmay
      rcases Nat.eq_zero_or_pos j with h0 | h0
      · have hj0 : ¬ (0 : Int) < (j : Int) := by omega
        have hN : Hid (rightP (l.take (j + 1)) m) := hnext.out hok.out (fun y hy => by rw [h0] at hy; simp at hy)
        subst h0
        refine wp_region_quiet_below (by kernel_rfl) (by kernel_rfl) ?_
        quiet_step (fail)
        quiet_step ((go_at_call 62; exact HM.out _ _))
        quiet_step (fail)
        quiet_step (fail)
        quiet_step (fail)
        quiet_step (fail)
        quiet_step (fail)
        quiet_step (fail)
        quiet_step (fail)
        quiet_step (fail)
        quiet_step (fail)
        quiet_step (fail)
        quiet_step (fail)
        quiet_step (fail)
        go_big_quiet_skip
        go_big_quiet_skip
        go_big_quiet_skip
        go_big_quiet_skip
        go_big_quiet_skip
        go_big_quiet_skip
        go_big_quiet_skip
        go_big_quiet_skip
        go_big_quiet_skip
        go_big_quiet_skip
        quiet_step (fail)
        quiet_step (fail)
        refine wpQuiet_nil ?_
        intro _ hw'
        obtain ⟨⟨dq, osq⟩, hw''⟩ := hw'
        have HZ := Lib.hid (HBX.out.trans ((below_regrown wb dq osq).mono HBX.out.size))
        rw [← hw''] at HZ
        clear hw''
        go_wp2_with (fail)
        go_roundw
        case rel => exact ⟨1, by omega, by go_num, hN, HZ.out⟩
        case measure => simp [intOf]; omega
      · obtain ⟨j, rfl⟩ : ∃ i, j = i + 1 := ⟨j - 1, by omega⟩
        obtain ⟨b', o', y, he, hy, d0, d1, d2, d3⟩ := (HR.out.below HBX.out).mail_at (k := j) (by omega)
        cases he
        have d0 := cell_regrown d0
        have d1 := cell_regrown d1
        have d2 := cell_regrown d2
        have d3 := cell_regrown d3
        have HY := Lib.hid hy.out
        clear hy
        have k1 : (0 : Int) ≤ (j : Int) := by omega
        have k2 : (j : Int) < (n : Int) := by omega
        have k3 : (0 : Int) < (j : Int) + 1 := by omega
        have k4 : IntKind.i64.wrap (j : Int) = (j : Int) := IntWalk.i64_in _ (by omega)
        have HC := Lib.hid (regrown_call (w := wb) (P := Tryz.prog) (f := 53) (args := #[.agg #[.int .i64 y.slot, .int .i64 y.dir, .int .i64 y.v], .agg #[.int .i64 x.slot, .int .i64 x.dir, .int .i64 x.v]]) (v := .int .i64 (cmpM y x)) (fun w' _ => (compared_c y x w').mono fun e w'' hh => ⟨hh.1, by obtain ⟨q, os', h2⟩ := hh.2; rw [h2]; exact below_grownQ _ _ _⟩))
        have hlast : Hid ((l.take (j + 1)).getLast? = some y) := by
          show _ = _
          rw [List.take_add_one, HY.out]
          simp
        obtain ⟨cm, hcm⟩ : ∃ cm, cm = cmpM y x := ⟨_, rfl⟩
        rw [← hcm] at HC
        have HCM := Lib.hid hcm
        clear hcm
        by_cases hlt2 : 0 ≤ cm
        · have hf : Hid (decide (rightP l m) = false) := decide_eq_false (fun h => by
            have h2 := rightP_take (j + 1 + 1) h
            rw [List.take_add_one, HX.out, Option.toList_some] at h2
            have h3 := List.pairwise_append.1 h2.2
            have h4 := h3.2.2 y (List.mem_of_getLast? hlast.out) x (by simp)
            have h5 := (cmp_neg y x).2 h4
            have := HCM.out
            omega)
          refine wp_region_quiet_below (by kernel_rfl) (by kernel_rfl) ?_
          quiet_step (fail)
          quiet_step ((go_at_call 62; exact HM.out _ _))
          quiet_step (fail)
          quiet_step (fail)
          quiet_step (fail)
          quiet_step (fail)
          quiet_step (fail)
          quiet_step (fail)
          quiet_step (fail)
          quiet_step (fail)
          quiet_step (fail)
          quiet_step (fail)
          quiet_step (fail)
          quiet_step (fail)
          quiet_step (fail)
          quiet_step (fail)
          quiet_step (fail)
          quiet_step (fail)
          quiet_step (fail)
          quiet_step (fail)
          quiet_step (fail)
          quiet_step (fail)
          quiet_step ((go_at_call 53; exact HC.out _ _))
          quiet_step (fail)
          quiet_step (fail)
          quiet_step (fail)
          refine wpQuiet_nil ?_
          intro _ hw'
          obtain ⟨⟨dq, osq⟩, hw''⟩ := hw'
          have HZ := Lib.hid (HBX.out.trans ((below_regrown wb dq osq).mono HBX.out.size))
          rw [← hw''] at HZ
          clear hw''
          go_wp2_with (fail)
          go_ret
          exact ⟨ret_bool hf.out.symm, HZ.out⟩
        · have hN : Hid (rightP (l.take (j + 1 + 1)) m) := hnext.out hok.out (fun z hz => by
            rw [hlast.out] at hz
            injection hz with hz
            subst hz
            exact (cmp_neg y x).1 (by have := HCM.out; omega))
          refine wp_region_quiet_below (by kernel_rfl) (by kernel_rfl) ?_
          quiet_step (fail)
          quiet_step ((go_at_call 62; exact HM.out _ _))
          quiet_step (fail)
          quiet_step (fail)
          quiet_step (fail)
          quiet_step (fail)
          quiet_step (fail)
          quiet_step (fail)
          quiet_step (fail)
          quiet_step (fail)
          quiet_step (fail)
          quiet_step (fail)
          quiet_step (fail)
          quiet_step (fail)
          quiet_step (fail)
          quiet_step (fail)
          quiet_step (fail)
          quiet_step (fail)
          quiet_step (fail)
          quiet_step (fail)
          quiet_step (fail)
          quiet_step (fail)
          quiet_step ((go_at_call 53; exact HC.out _ _))
          quiet_step (fail)
          quiet_step (fail)
          quiet_step (fail)
          refine wpQuiet_nil ?_
          intro _ hw'
          obtain ⟨⟨dq, osq⟩, hw''⟩ := hw'
          have HZ := Lib.hid (HBX.out.trans ((below_regrown wb dq osq).mono HBX.out.size))
          rw [← hw''] at HZ
          clear hw''
          go_wp2_with (fail)
          go_roundw
          case rel => exact ⟨j + 1 + 1, by omega, by go_num, hN, HZ.out⟩
          case measure => simp [intOf]; omega
    · obtain rfl : j = n := by omega
      have hT2 : Hid (rightP l m) := by have h := hT.out; rw [List.take_of_length_le (by rw [hl.out]; exact Nat.le_refl _)] at h; exact h
      go_wp2_with (fail)
      go_ret
      exact ⟨ret_bool (decide_eq_true hT2.out).symm, hB⟩
end Go.Proofs.YtichoidkemeibaaGreat

namespace Go.Proofs.YtichoidkemeibaaGreat
open Go.RowKit

def splitOk (k : Int) (xs : List Msg) : Prop := (1 ≤ k ∧ k ≤ 16) ∧ allMay xs

theorem split_no (A : Option Addr) (n c : Nat) (k : Int) (xs : List Msg) (w : World) (hr : Reads w w.heap.size 4 A n (mv xs)) (hn : n ≤ maxLen) (h : ¬ splitOk k xs) :
    Calls Tryz.prog 40 #[.slice A n c, .int .i64 k] w fun e w' => e = .returned (.tuple #[.slice none 0 0, .int .i64 1]) ∧ Below w.heap.size w w' := by
  by_cases hk : homeOk 0 k
  · have hm : ¬ allMay xs := fun hm => h ⟨hk.2, hm⟩
    go_enter Tryz.func40, Tryz.ntmps40
    go_wp2_with (fail)
    refine (home_c 0 k _).mono ?_
    rintro e w1 ⟨rfl, hB1⟩
    rw [decide_eq_true hk]
    clear hk h
    go_wp2_with (fail)
    refine (check_c A n c xs _ ((hr.below hB1).more hB1.size) hn).mono ?_
    rintro e w2 ⟨rfl, hB2⟩
    rw [decide_eq_false hm]
    go_wp2_with (fail)
    go_ret2
    exact ⟨rfl, hB1.trans (hB2.mono hB1.size)⟩
  · go_enter Tryz.func40, Tryz.ntmps40
    go_wp2_with (fail)
    refine (home_c 0 k _).mono ?_
    rintro e w1 ⟨rfl, hB1⟩
    rw [decide_eq_false hk]
    clear hk h
    go_wp2_with (fail)
    go_ret2
    exact ⟨rfl, hB1⟩

end Go.Proofs.YtichoidkemeibaaGreat

namespace Go.Proofs.YtichoidkemeibaaGreat
open Go.RowKit

theorem elRow : Elem Tryz.prog 79 34 1 24 := Elem.mk_ Tryz.underlying79 (z := .slice none 0 0) (by kernel_rfl) rfl (by decide)
theorem infoRow : (Tryz.prog.info? 34).map (fun i => (i.zero, i.size, i.bytes)) = some (some (.slice none 0 0), 1, 24) := by kernel_rfl

def homeN (m : Msg) (k : Nat) : Nat := (homeI m.v k).toNat
/-- The messages whose home is worker i. -/
def ofHome (l : List Msg) (k i : Nat) : List Msg := l.filter fun m => homeN m k == i
def parted (l : List Msg) (k : Nat) : List (List Msg) := (List.range k).map fun i => ofHome l k i
def mvs (l : List (List Msg)) : List (List Value) := l.map mv

theorem parted_len (l : List Msg) (k : Nat) : (parted l k).length = k := by simp [parted]
theorem parted_get (l : List Msg) (k i : Nat) (h : i < k) : (parted l k)[i]? = some (ofHome l k i) := by
  rw [parted, List.getElem?_map, List.getElem?_range h]; rfl
theorem parted_nil (k : Nat) : parted [] k = List.replicate k [] := by
  apply List.ext_getElem?
  intro i
  by_cases h : i < k
  · rw [parted_get _ _ _ h, List.getElem?_replicate, if_pos h]; rfl
  · rw [List.getElem?_eq_none (by rw [parted_len]; omega), List.getElem?_eq_none (by simp; omega)]
theorem ofHome_snoc (l : List Msg) (x : Msg) (k i : Nat) : ofHome (l ++ [x]) k i = if homeN x k = i then ofHome l k i ++ [x] else ofHome l k i := by
  unfold ofHome
  rw [List.filter_append]
  by_cases h : homeN x k = i
  · simp [h]
  · simp [h]
theorem parted_snoc (l : List Msg) (x : Msg) (k : Nat) (h : homeN x k < k) : parted (l ++ [x]) k = (parted l k).set (homeN x k) (ofHome l k (homeN x k) ++ [x]) := by
  apply List.ext_getElem?
  intro i
  by_cases hi : i < k
  · rw [parted_get _ _ _ hi, List.getElem?_set, ofHome_snoc]
    by_cases he : homeN x k = i
    · subst he
      rw [if_pos rfl, if_pos rfl, if_pos (by rw [parted_len]; exact h)]
    · rw [if_neg he, if_neg he, parted_get _ _ _ hi]
  · rw [List.getElem?_eq_none (by rw [parted_len]; omega), List.getElem?_eq_none (by rw [List.length_set, parted_len]; omega)]
theorem ofHome_le (l : List Msg) (k i : Nat) : (ofHome l k i).length ≤ l.length := List.length_filter_le _ _

theorem home_lt {m : Msg} {k : Nat} (h : mayM m) (h1 : 1 ≤ k) (h2 : k ≤ 16) : homeOk m.v k ∧ homeI m.v k = (homeN m k : Int) ∧ homeN m k < k := by
  have hv := h.1.2.2
  have ho : homeOk m.v k := ⟨⟨by omega, by omega⟩, by omega, by omega⟩
  have hk : (k : Int) ≠ 0 := by omega
  have e : homeI m.v k = (m.v * 40503 + 12345) % 65536 % k := by unfold homeI; rw [if_pos ho]
  have g1 := Int.emod_nonneg ((m.v * 40503 + 12345) % 65536) hk
  have g2 := Int.emod_lt_of_pos ((m.v * 40503 + 12345) % 65536) (show (0 : Int) < k by omega)
  unfold homeN
  rw [e]
  exact ⟨ho, by omega, by omega⟩

set_option maxRecDepth 100000 in
set_option maxHeartbeats 4000000 in
theorem split_c (A : Option Addr) (n c k : Nat) (ms : List Msg) (w : World) (hk1 : 1 ≤ k) (hk2 : k ≤ 16) (hr : Reads w w.heap.size 4 A n (mv ms)) (hn : n ≤ 100000) (hm : allMay ms) :
    Calls Tryz.prog 40 #[.slice A n c, .int .i64 k] w fun e w' =>
      ∃ A' c' vs, e = .returned (.tuple #[.slice A' k c', .int .i64 0]) ∧ w'.ownsRow w.heap.size 34 1 (.slice A' k c') k vs ∧ RowsOwn w' w.heap.size 44 4 vs (mvs (parted ms k)) ∧ Below w.heap.size w w' := by
  have hl := Lib.hid hr.mail_len
  have hml : n ≤ maxLen := by unfold maxLen; omega
  have hk0 : homeOk 0 k := ⟨⟨by omega, by omega⟩, by omega, by omega⟩
  obtain ⟨i0, hi0, hz0, hz1, hz2⟩ := info_parts infoRow
  go_enter Tryz.func40, Tryz.ntmps40
  go_wp2_with (fail)
  refine (home_c 0 k _).mono ?_
  rintro e w1 ⟨rfl, hB1⟩
  rw [decide_eq_true hk0]
  clear hk0
  go_wp2_with (fail)
  refine (check_c A n c ms _ ((hr.below hB1).more hB1.size) hml).mono ?_
  rintro e w2 ⟨rfl, hB2⟩
  rw [decide_eq_true hm]
  have HM := Lib.hid hm
  have hB := hB1.trans (hB2.mono hB1.size)
  clear hm hB1 hB2
  go_wp2_with (at_make; refine wpList_make_full _ rfl _ _ 79 rfl w2.heap.size 34 i0 _ 1 Tryz.underlying79 hi0 hz0 hz1 _ _ _ _ k rfl rfl rfl rfl (by rw [hz2]; omega) (by unfold maxLen; omega) (Nat.le_refl _) ?_; intro w3 hown1 hg1)
  have hown : w3.ownsRow w2.heap.size 34 1 (.slice (some ⟨w2.heap.size, 0, none⟩) k k) k (List.replicate k (.slice none 0 0)) := by
    have e := toList_madeCells_one (.slice none 0 0) k
    rw [Nat.mul_one] at hown1
    exact e ▸ hown1
  have hB3 : Below w.heap.size w w3 := hB.grown hg1 hB.size (fun _ h => by cases h)
  have hbw := hB.size
  clear hown1 hg1 hB
  generalize w2.heap.size = b at hown hbw ⊢
  go_loopw [29] (fun i wr => ∃ (j : Nat) (vs : List Value), j ≤ n ∧ i = .int .i64 j ∧ wr.ownsRow b 34 1 (.slice (some ⟨b, 0, none⟩) k k) k vs ∧
      RowsOwn wr (b + 1) 44 4 vs (mvs (parted (ms.take j) k)) ∧ Below w.heap.size w wr) (fun i _ => n - (intOf i).toNat)
  case atStart =>
    refine ⟨0, _, Nat.zero_le _, rfl, hown, ?_, hB3⟩
    rw [List.take_zero, parted_nil, mvs, List.map_replicate]
    exact rowsOwn_nils _ _ _ _ _
  case round =>
    clear hown hB3
    obtain ⟨j, vs, hj, rfl, ho, hrs, hB⟩ := hrel
    have hsz := hB.size
    by_cases hlt : j < n
    · obtain ⟨b1, o1, x, rfl, hx, c0, c1, c2, c3⟩ := (hr.below hB).mail_at hlt
      obtain ⟨hok, hhome, hlt2⟩ := home_lt (HM.out x (List.mem_of_getElem? hx.out)) hk1 hk2
      obtain ⟨r, hrk⟩ : ∃ r, Hid (homeN x k = r) := ⟨_, rfl⟩
      rw [hrk.out] at hhome hlt2
      go_wp2_with (fail)
      refine (home_c x.v k _).mono ?_
      rintro e w4 ⟨rfl, hB4⟩
      rw [decide_eq_true hok, hhome]
      have hbx : w4.heap[wr.heap.size]? = some (.cells #[.int .i64 x.slot, .int .i64 x.dir, .int .i64 x.v, .int .i64 x.d] 44 (0, 0)) := (hB4.block _ (by simp)).trans Array.getElem?_push_size
      have ho4 := own_below (ho.alloc (.cells #[.int .i64 x.slot, .int .i64 x.dir, .int .i64 x.v, .int .i64 x.d] 44)) hB4
      have hrs4 := (hrs.below (below_one wr (.cells #[.int .i64 x.slot, .int .i64 x.dir, .int .i64 x.v, .int .i64 x.d] 44))).below hB4
      have hBB := (hB.alloc hB.size (.cells #[.int .i64 x.slot, .int .i64 x.dir, .int .i64 x.v, .int .i64 x.d] 44)).trans (hB4.mono (by simp; omega))
      obtain ⟨d0, d1, d2, d3⟩ := mail_box hbx
      have hsz4 : w.heap.size ≤ w4.heap.size := hBB.size
      clear hok hhome hbx ho hrs hB hB4 c0 c1 c2 c3
      have hrow : (mvs (parted (ms.take j) k))[r]? = some (mv (ofHome (ms.take j) k r)) := by rw [mvs, List.getElem?_map, parted_get _ _ _ hlt2]; rfl
      obtain ⟨Ar, mr, cr, hvr, hor⟩ := hrs4.at_ hrow
      have hcr := own_slice_at ho4 hvr
      have hfr := ho4.frozenAt r
      have hg := (own_lt ho4 _ rfl).2
      have f3 : (0 : Int) ≤ (r : Int) := by omega
      have f4 : (r : Int) < (k : Int) := by omega
      have hmr : mr ≤ n := by
        have h1 := hor.1
        rw [mv_len] at h1
        have h2 := ofHome_le (ms.take j) k r
        have h3 := List.length_take_le j ms
        omega
      have hapo : Apart (some ⟨b, 0, none⟩) Ar := own_ne ho4 hor (by decide)
      have hfin : Hid (∀ (A4 : Option Addr) (c4 : Nat) (w5 : World), w5.ownsRow (b + 1) 44 4 (.slice A4 (mr + 1) c4) (mr + 1) (mv (ofHome (ms.take j) k r) ++ (mc x).toArray.toList) → Pushed w4 w5 Ar A4 →
          w5.cell? ⟨b, r, none⟩ = some (.slice Ar mr cr) ∧ w5.frozen? ⟨b, r, none⟩ = false) := fun A4 c4 w5 _ p5 => by
        have h := p5.keep ho4 hapo
        exact ⟨own_slice_at h hvr, h.frozenAt r⟩
      have hend : Hid (∀ (A4 : Option Addr) (c4 : Nat) (w5 : World), w5.ownsRow (b + 1) 44 4 (.slice A4 (mr + 1) c4) (mr + 1) (mv (ofHome (ms.take j) k r) ++ (mc x).toArray.toList) → Pushed w4 w5 Ar A4 →
          (w5.setCell ⟨b, r, none⟩ (.slice A4 (mr + 1) c4)).ownsRow b 34 1 (.slice (some ⟨b, 0, none⟩) k k) k (vs.set r (.slice A4 (mr + 1) c4)) ∧
          RowsOwn (w5.setCell ⟨b, r, none⟩ (.slice A4 (mr + 1) c4)) (b + 1) 44 4 (vs.set r (.slice A4 (mr + 1) c4)) (mvs (parted (ms.take (j + 1)) k)) ∧
          Below w.heap.size w (w5.setCell ⟨b, r, none⟩ (.slice A4 (mr + 1) c4))) := fun A4 c4 w5 ho5 p5 => by
        have h := (p5.keep ho4 hapo).stored r (.slice A4 (mr + 1) c4)
        refine ⟨h.1, ?_, (p5.below hor hBB (by omega) hsz4).grown h.2 (Nat.le_trans hsz4 p5.larger) (fun g hg => by injection hg; omega)⟩
        have h2 := (hrs4.push hvr (by rw [mvs, List.length_map, parted_len]; exact hlt2) ho5 p5).only h.2 (Nat.lt_succ_self _)
        have e : mvs (parted (ms.take (j + 1)) k) = (mvs (parted (ms.take j) k)).set r (mv (ofHome (ms.take j) k r) ++ (mc x).toArray.toList) := by
          rw [List.take_add_one, hx.out, Option.toList_some, parted_snoc _ _ _ (by rw [hrk.out]; exact hlt2), hrk.out, mvs, List.map_set, mv_append]
          simp [mv, mvs]
        rw [e]; exact h2
      clear hrow hrs4
      go_wp2_with (fail)
      go_region_law (first | (refine step_push_drew elMail rfl (.tmp 48) (.tmp 50) rfl hor rfl _ rfl rfl (mc_one x) (by unfold maxLen; omega) (by omega) (by omega) ?_; intro A4 c4 w5 ho5 p5; obtain ⟨hc5, hf5⟩ := hfin.out A4 c4 w5 ho5 p5))
      all_goals
        go_wp2_with (fail)
        go_roundw
        case rel => exact ⟨j + 1, _, by omega, by go_num, hend.out A4 c4 w5 ho5 p5⟩
        case measure => simp [intOf]; omega
    · obtain rfl : n = j := by omega
      have hf : Hid (ms.take n = ms) := by show _ = _; exact List.take_of_length_le (by rw [hl.out]; exact Nat.le_refl _)
      rw [hf.out] at hrs
      go_wp2_with (fail)
      go_ret2
      exact ⟨_, k, vs, rfl, own_more ho hbw, hrs.more (by omega), hB⟩
end Go.Proofs.YtichoidkemeibaaGreat

namespace Go.Proofs.YtichoidkemeibaaGreat

/-- The pick among n. -/
def pickAt (n : Nat) (p : Int) : Nat := (p % (n : Int)).toNat

theorem pickAt_lt (n : Nat) (p : Int) (h : 0 < n) : pickAt n p < n := by
  unfold pickAt
  have h1 := Int.emod_nonneg p (show (n : Int) ≠ 0 by omega)
  have h2 := Int.emod_lt_of_pos p (show (0 : Int) < n by omega)
  omega

theorem pickAt_cast (n : Nat) (p : Int) (h : 0 < n) : (pickAt n p : Int) = p % (n : Int) := by
  unfold pickAt
  have h1 := Int.emod_nonneg p (show (n : Int) ≠ 0 by omega)
  omega

theorem pickAt_zero (n : Nat) : pickAt n 0 = 0 := by simp [pickAt]

/-- What n things are, ordered by picks: each time the one at the next pick of those that are left. -/
def ordN {α : Type} : Nat → List α → List Int → List α
  | 0, _, _ => []
  | n + 1, l, ps => (l[pickAt (n + 1) (ps.headD 0)]?).toList ++ ordN n (l.eraseIdx (pickAt (n + 1) (ps.headD 0))) ps.tail

def ord {α : Type} (l : List α) (ps : List Int) : List α := ordN l.length l ps

theorem ord_nil {α : Type} (ps : List Int) : ord ([] : List α) ps = [] := rfl

/-- One step. -/
theorem ord_step {α : Type} (l : List α) (ps : List Int) (k : Nat) (hk : k < l.length) (hp : k = pickAt l.length (ps.headD 0)) :
    ord l ps = l[k] :: ord (l.eraseIdx k) ps.tail := by
  unfold ord
  obtain ⟨n, hn⟩ : ∃ n, l.length = n + 1 := ⟨l.length - 1, by omega⟩
  rw [hn] at hp
  rw [List.length_eraseIdx_of_lt hk, hn]
  simp only [ordN, ← hp, Nat.add_sub_cancel]
  rw [List.getElem?_eq_getElem hk]
  rfl

/-- One step, with picks from the j-th on. -/
theorem ord_step_at {α : Type} (l : List α) (ps : List Int) (j q : Nat) (x : α) (hq : pickAt l.length (ps[j]?.getD 0) = q) (hx : l[q]? = some x) :
    ord l (ps.drop j) = x :: ord (l.eraseIdx q) (ps.drop (j + 1)) := by
  obtain ⟨h1, h2⟩ := List.getElem?_eq_some_iff.1 hx
  have hh : (ps.drop j).headD 0 = ps[j]?.getD 0 := by
    rw [List.headD_eq_head?_getD, List.head?_drop]
  rw [ord_step l (ps.drop j) q h1 (by rw [hh]; exact hq.symm), h2, List.tail_drop]

theorem length_ordN {α : Type} : ∀ (n : Nat) (l : List α) (ps : List Int), l.length = n → (ordN n l ps).length = n
  | 0, _, _, _ => rfl
  | n + 1, l, ps, h => by
    have hk := pickAt_lt (n + 1) (ps.headD 0) (by omega)
    have hl : (l.eraseIdx (pickAt (n + 1) (ps.headD 0))).length = n := by rw [List.length_eraseIdx_of_lt (by omega), h]; rfl
    simp only [ordN, List.length_append, length_ordN n _ ps.tail hl]
    rw [List.getElem?_eq_getElem (by omega)]
    simp; omega

theorem length_ord {α : Type} (l : List α) (ps : List Int) : (ord l ps).length = l.length := length_ordN _ _ _ rfl

theorem eraseIdx_perm {α : Type} : ∀ (l : List α) (k : Nat) (h : k < l.length), (l[k] :: l.eraseIdx k).Perm l
  | [], _, h => absurd h (by simp)
  | x :: l, 0, _ => List.Perm.refl _
  | x :: l, k + 1, h => by
    have ih := eraseIdx_perm l k (by simpa using h)
    simp only [List.getElem_cons_succ, List.eraseIdx_cons_succ]
    exact (List.Perm.swap _ _ _).trans (List.Perm.cons x ih)

theorem map_eraseIdx {α β : Type} (f : α → β) : ∀ (l : List α) (k : Nat), (l.map f).eraseIdx k = (l.eraseIdx k).map f
  | [], _ => by simp
  | x :: l, 0 => rfl
  | x :: l, k + 1 => by simp [map_eraseIdx f l k]

theorem perm_ordN {α : Type} : ∀ (n : Nat) (l : List α) (ps : List Int), l.length = n → (ordN n l ps).Perm l
  | 0, l, ps, h => by
    have : l = [] := List.eq_nil_of_length_eq_zero h
    subst this; exact List.Perm.refl _
  | n + 1, l, ps, h => by
    have hk := pickAt_lt (n + 1) (ps.headD 0) (by omega)
    have hl : (l.eraseIdx (pickAt (n + 1) (ps.headD 0))).length = n := by rw [List.length_eraseIdx_of_lt (by omega), h]; rfl
    simp only [ordN]
    rw [List.getElem?_eq_getElem (by omega)]
    have ih := perm_ordN n _ ps.tail hl
    have h2 : (l[pickAt (n + 1) (ps.headD 0)] :: l.eraseIdx (pickAt (n + 1) (ps.headD 0))).Perm l := eraseIdx_perm l _ (by omega)
    exact (List.Perm.cons _ ih).trans h2

theorem perm_ord {α : Type} (l : List α) (ps : List Int) : (ord l ps).Perm l := perm_ordN _ _ _ rfl

theorem ordN_nil {α : Type} : ∀ (n : Nat) (l : List α), l.length = n → ordN n l [] = l
  | 0, l, h => by
    have : l = [] := List.eq_nil_of_length_eq_zero h
    subst this; rfl
  | n + 1, l, h => by
    cases l with
    | nil => simp at h
    | cons x l =>
      simp only [ordN, List.headD_nil, pickAt_zero, List.tail_nil]
      rw [show (x :: l).eraseIdx 0 = l from rfl, ordN_nil n l (by simpa using h)]
      rfl

theorem ord_none {α : Type} (l : List α) : ord l [] = l := ordN_nil _ _ rfl

/-- Ordering by picks goes through any map. -/
theorem ordN_map {α β : Type} (f : α → β) : ∀ (n : Nat) (l : List α) (ps : List Int), l.length = n → ordN n (l.map f) ps = (ordN n l ps).map f
  | 0, _, _, _ => rfl
  | n + 1, l, ps, h => by
    have hk := pickAt_lt (n + 1) (ps.headD 0) (by omega)
    have hl : (l.eraseIdx (pickAt (n + 1) (ps.headD 0))).length = n := by rw [List.length_eraseIdx_of_lt (by omega), h]; rfl
    simp only [ordN, List.map_append, map_eraseIdx f, ordN_map f n _ ps.tail hl, List.getElem?_map]
    congr 1
    rw [List.getElem?_eq_getElem (by omega)]
    rfl

theorem ord_map {α β : Type} (f : α → β) (l : List α) (ps : List Int) : ord (l.map f) ps = (ord l ps).map f := by
  unfold ord; rw [List.length_map]; exact ordN_map f _ l ps rfl

/-- Picks that are as many more than a multiple of what is left tell the same. -/
theorem ordN_more {α : Type} : ∀ (n : Nat) (l : List α) (ps qs : List Int), l.length = n → ps.length = qs.length →
    (∀ i, i < n → i < ps.length → ∃ t : Int, qs[i]?.getD 0 = ps[i]?.getD 0 + t * ((n : Int) - i)) → ordN n l ps = ordN n l qs
  | 0, _, _, _, _, _, _ => rfl
  | n + 1, l, ps, qs, h, hlen, hm => by
    have hk := pickAt_lt (n + 1) (ps.headD 0) (by omega)
    have hl : (l.eraseIdx (pickAt (n + 1) (ps.headD 0))).length = n := by rw [List.length_eraseIdx_of_lt (by omega), h]; rfl
    have e : pickAt (n + 1) (qs.headD 0) = pickAt (n + 1) (ps.headD 0) := by
      cases ps with
      | nil =>
        have : qs = [] := List.eq_nil_of_length_eq_zero (by simpa using hlen.symm)
        subst this; rfl
      | cons p ps =>
        cases qs with
        | nil => simp at hlen
        | cons q qs =>
          obtain ⟨t, ht⟩ := hm 0 (by omega) (by simp)
          simp at ht
          subst ht
          simp only [List.headD_cons, pickAt]
          congr 1
          rw [show (((n + 1 : Nat) : Int)) = (n : Int) + 1 by omega, Int.add_mul_emod_self_right]
    simp only [ordN, e]
    congr 1
    refine ordN_more n _ ps.tail qs.tail hl (by simp [hlen]) ?_
    intro i hi hip
    obtain ⟨t, ht⟩ := hm (i + 1) (by omega) (by simp at hip; omega)
    refine ⟨t, ?_⟩
    simp only [List.getElem?_tail]
    rw [ht]
    congr 2
    omega

/-- The row that is dealt i-th of many. -/
def dealRow {α : Type} : List α → Nat → Nat → List α
  | l, parts, i => (List.range l.length).filterMap fun j => if j % parts = i then l[j]? else none

end Go.Proofs.YtichoidkemeibaaGreat

namespace Go.Proofs.YtichoidkemeibaaGreat
open Go.RowKit

theorem tmod_bd (p n : Int) (h : 1 ≤ n) : -n < p.tmod n ∧ p.tmod n < n := by
  have h1 := Int.tmod_lt_of_pos p (show 0 < n by omega)
  have h2 := Int.lt_tmod_of_pos p (show 0 < n by omega)
  omega

theorem emod_of_tmod (p n : Int) (h : 1 ≤ n) : p % n = if p.tmod n < 0 then p.tmod n + n else p.tmod n := by
  have hb := tmod_bd p n h
  have h1 := Int.emod_nonneg p (show n ≠ 0 by omega)
  have h2 := Int.emod_lt_of_pos p (show 0 < n by omega)
  have h3 := Int.mul_ediv_add_emod p n
  have h4 := Int.mul_tdiv_add_tmod p n
  have hd : n * (p / n - p.tdiv n) = p.tmod n - p % n := by rw [Int.mul_sub]; omega
  generalize p / n - p.tdiv n = t at hd
  have ht : t = 0 ∨ t = -1 := by
    have l1 : -2 < t := by
      refine Int.lt_of_mul_lt_mul_left (a := n) ?_ (by omega)
      rw [hd, show n * -2 = -(2 * n) by omega]; omega
    have l2 : t < 1 := by
      refine Int.lt_of_mul_lt_mul_left (a := n) ?_ (by omega)
      rw [hd]; omega
    omega
  rcases ht with rfl | rfl
  · rw [if_neg (by omega)]; omega
  · rw [if_pos (by omega)]; omega


theorem pick_yes (n p : Int) (w : World) (h1 : 1 ≤ n) (h2 : n ≤ 9223372036854775807) :
    Calls Tryz.prog 122 #[.int .i64 n, .int .i64 p] w fun e w' => e = .returned (.tuple #[.int .i64 (p % n), .bool true]) ∧ w = w' := by
  have hb1 := (tmod_bd p n h1).1
  have hb2 := (tmod_bd p n h1).2
  have HE := Lib.hid (emod_of_tmod p n h1)
  go_enter Tryz.func122, Tryz.ntmps122
  go_wp2
  all_goals go_ret2
  · have h : p.tmod n < 0 := by assumption
    exact ⟨ret_int2 (by rw [HE.out, if_pos h]), rfl⟩
  · have h : 0 ≤ p.tmod n := by assumption
    exact ⟨ret_int2 (by rw [HE.out, if_neg (by omega)]), rfl⟩

theorem pick_no (n p : Int) (w : World) (h1 : n < 1) :
    Calls Tryz.prog 122 #[.int .i64 n, .int .i64 p] w fun e w' => e = .returned (.tuple #[.int .i64 0, .bool false]) ∧ w = w' := by
  go_enter Tryz.func122, Tryz.ntmps122
  go_wp2
  all_goals go_ret2
  all_goals exact ⟨rfl, rfl⟩
end Go.Proofs.YtichoidkemeibaaGreat
