/-
  round.Each: the walk.
  The references over states: Same, May, own, Right, Each: the walks. (Printed by genrefst.py.)
-/
import Derived.Test.YtichoidkemeibaaGreatJ04
import Derived.Test.YtichoidkemeibaaGreatJ08
import Derived.Test.YtichoidkemeibaaGreatJ09
import Derived.Lib.QuietBelow
import Derived.BigQuiet
namespace Go.Proofs.YtichoidkemeibaaGreat
open Go.RowKit

/-- How many are at home with each worker. -/
def cntL (l : List Msg) (k : Nat) : List Int := (List.range k).map fun i => ((ofHome l k i).length : Int)
theorem cntL_len (l : List Msg) (k : Nat) : (cntL l k).length = k := by simp [cntL]
theorem cntL_get {l : List Msg} {k i : Nat} (h : i < k) : (cntL l k)[i]? = some ((ofHome l k i).length : Int) := by
  unfold cntL
  rw [List.getElem?_map, List.getElem?_range h]
  rfl
theorem cntL_nil (k : Nat) : cntL [] k = List.replicate k 0 := by
  apply List.ext_getElem
  · simp [cntL]
  · intro i h1 h2
    simp [cntL, ofHome]
theorem cntL_snoc (l : List Msg) (x : Msg) (k : Nat) (_ : homeN x k < k) : cntL (l ++ [x]) k = (cntL l k).set (homeN x k) ((ofHome l k (homeN x k)).length + 1) := by
  apply List.ext_getElem?
  intro i
  by_cases hi : i < k
  · rw [cntL_get hi, ofHome_snoc, List.getElem?_set]
    by_cases e : homeN x k = i
    · subst e
      rw [if_pos rfl, if_pos rfl, if_pos (by rw [cntL_len]; exact hi), List.length_append]
      simp
    · rw [if_neg e, if_neg e, cntL_get hi]
  · rw [List.getElem?_eq_none (by rw [cntL_len]; omega), List.getElem?_eq_none (by rw [List.length_set, cntL_len]; omega)]

def eachOk (l : List Msg) (k : Int) : Prop := (1 ≤ k ∧ k ≤ 16) ∧ allMay l
instance (l : List Msg) (k : Int) : Decidable (eachOk l k) := by unfold eachOk allMay; infer_instance
/-- What Each gives. -/
def EachDone (w w' : World) (l : List Msg) (k : Int) (e : Ending) : Prop :=
  (eachOk l k ∧ ∃ A' c', e = .returned (.tuple #[.slice A' k.toNat c', .int .i64 0]) ∧ w'.ownsRow w.heap.size 3 1 (.slice A' k.toNat c') k.toNat (iv (cntL l k.toNat)) ∧ Below w.heap.size w w') ∨
  (¬ eachOk l k ∧ e = .returned (.tuple #[.slice none 0 0, .int .i64 1]) ∧ Below w.heap.size w w')
theorem homeOk_zero (k : Int) : homeOk 0 k ↔ (1 ≤ k ∧ k ≤ 16) := by unfold homeOk; omega
theorem homeOk_may {x : Msg} {k : Int} (h : mayM x) (hk : 1 ≤ k ∧ k ≤ 16) : homeOk x.v k := by have := h.1.2.2; unfold homeOk; omega

set_option maxRecDepth 100000 in
set_option maxHeartbeats 4000000 in
theorem each_c (A : Option Addr) (n c : Nat) (l : List Msg) (k : Int) (w : World) (hr : Reads w w.heap.size 4 A n (mv l)) (hn : n ≤ 1000000) :
    Calls Tryz.prog 21 #[.slice A n c, .int .i64 k] w fun e w' => EachDone w w' l k e := by
  have hl := Lib.hid hr.mail_len
  have HR := Lib.hid hr
  clear hr
  obtain ⟨i0, hi0, hz0, hz1, hz2⟩ := info_parts infoInt
  by_cases hk : 1 ≤ k ∧ k ≤ 16
  rotate_left
  · have hno : Hid (¬ eachOk l k) := fun h => hk h.1
    have hd : decide (homeOk 0 k) = false := decide_eq_false (fun h => hk ((homeOk_zero k).1 h))
    clear hk
    go_enter Tryz.func21, Tryz.ntmps21
    go_wp2_with (fail)
    refine (home_c 0 k w).mono ?_
    rintro e w1 ⟨rfl, hB1⟩
    have HB := Lib.hid hB1
    rw [hd]
    clear hB1 hd
    go_wp2_with (fail)
    go_ret2
    exact .inr ⟨hno.out, rfl, HB.out⟩
  obtain ⟨q, rfl⟩ : ∃ q : Nat, k = (q : Int) := ⟨k.toNat, by omega⟩
  have hq1 : 1 ≤ q := by omega
  have hq2 : q ≤ 16 := by omega
  have HK := Lib.hid hk
  have hd : decide (homeOk 0 (q : Int)) = true := decide_eq_true ((homeOk_zero _).2 hk)
  clear hk
  go_enter Tryz.func21, Tryz.ntmps21
  go_wp2_with (fail)
  refine (home_c 0 q w).mono ?_
  rintro e w0 ⟨rfl, hB0⟩
  have HB0 := Lib.hid hB0
  rw [hd]
  clear hB0 hd
  go_wp2_with (at_make; refine wpList_make_full _ rfl _ _ 25 rfl w0.heap.size 3 i0 _ 1 Tryz.underlying25 hi0 hz0 hz1 _ _ _ _ q rfl rfl rfl rfl (by rw [hz2]; omega) (by unfold maxLen; omega) (Nat.le_refl _) ?_; intro w1 hown1 hg1)
  have hown : w1.ownsRow w0.heap.size 3 1 (.slice (some ⟨w0.heap.size, 0, none⟩) q q) q (iv (cntL [] q)) := by
    have e : (madeCells (Value.int .i64 0).cells (q * 1)).toList = iv (cntL [] q) := by
      rw [Nat.mul_one, cntL_nil]
      have := toList_madeCells_one (.int .i64 0) q
      unfold iv
      rw [List.map_replicate]
      exact this
    rw [← e]; exact hown1
  have hB1 : Below w0.heap.size w0 w1 := (Below.refl _ _).grown hg1 (Nat.le_refl _) (fun _ h => by cases h)
  clear hown1 hg1
  go_loopw [24] (fun i wr => ∃ j : Nat, j ≤ n ∧ i = .int .i64 j ∧ Hid (allMay (l.take j)) ∧ wr.ownsRow w0.heap.size 3 1 (.slice (some ⟨w0.heap.size, 0, none⟩) q q) q (iv (cntL (l.take j) q)) ∧ Below w0.heap.size w0 wr) (fun i _ => n - (intOf i).toNat)
  case atStart => exact ⟨0, Nat.zero_le _, rfl, fun m hm => by simp at hm, by simpa using hown, hB1⟩
  case round =>
    clear hown hB1
    obtain ⟨j, hj, rfl, hT, ho, hB⟩ := hrel
    by_cases hlt : j < n
    · obtain ⟨b, o, x, rfl, hx, d0, d1, d2, d3⟩ := ((HR.out.below HB0.out).below (hB.mono HB0.out.size)).mail_at hlt
      have HX := Lib.hid hx.out
      have hbx : (wr.alloc (.cells #[.int .i64 x.slot, .int .i64 x.dir, .int .i64 x.v, .int .i64 x.d] 43)).heap[wr.heap.size]? = _ := wr.alloc_heap_new _
      have HBX := Lib.hid hbx
      have HOA := Lib.hid (ho.alloc (.cells #[.int .i64 x.slot, .int .i64 x.dir, .int .i64 x.v, .int .i64 x.d] 43))
      have HBA := Lib.hid (hB.trans ((below_one wr (.cells #[.int .i64 x.slot, .int .i64 x.dir, .int .i64 x.v, .int .i64 x.d] 43)).mono hB.size))
      have f1 : (0 : Int) ≤ (j : Int) := by omega
      have f2 : (j : Int) < (n : Int) := by omega
      have hbad : Hid (¬ mayM x → ¬ eachOk l q) := fun h1 h2 => h1 (h2.2 x (List.mem_of_getElem? HX.out))
      clear hx hbx ho hB
      go_wp2_with (fail)
      refine (home_c x.v q _).mono ?_
      rintro e w2 ⟨rfl, hB2⟩
      have hbx2 : w2.heap[wr.heap.size]? = _ := (hB2.block wr.heap.size (by simp)).trans HBX.out
      have HO2 := Lib.hid (own_below HOA.out hB2)
      have HB2 := Lib.hid (HBA.out.trans (hB2.mono HBA.out.size))
      have hBX2 := Lib.hid hbx2
      obtain ⟨e0, e1, e2, e3⟩ : w2.cell? ⟨wr.heap.size, 0, none⟩ = some (.int .i64 x.slot) ∧ w2.cell? ⟨wr.heap.size, 1, none⟩ = some (.int .i64 x.dir) ∧ w2.cell? ⟨wr.heap.size, 2, none⟩ = some (.int .i64 x.v) ∧ w2.cell? ⟨wr.heap.size, 3, none⟩ = some (.int .i64 x.d) := by
        refine ⟨?_, ?_, ?_, ?_⟩ <;> · rw [Lib.cell_of_heap hbx2]; rfl
      clear d0 d1 d2 d3 hB2 hbx2 HOA HBA
      by_cases hh : homeOk x.v q
      rotate_left
      · have hno : Hid (¬ eachOk l q) := hbad.out (fun h => hh (homeOk_may h HK.out))
        rw [decide_eq_false hh]
        clear hh
        go_wp2_with (fail)
        go_ret2
        exact .inr ⟨hno.out, rfl, HB0.out.trans (HB2.out.mono HB0.out.size)⟩
      rw [decide_eq_true hh]
      clear hh
      go_wp2_with (fail)
      refine (roundMay_c x w2).mono ?_
      rintro e w3 ⟨rfl, hB3⟩
      have HO3 := Lib.hid (own_below HO2.out hB3)
      have HB3 := Lib.hid (HB2.out.trans (hB3.mono HB2.out.size))
      clear e0 e1 e2 e3 hB3
      by_cases hmay : mayM x
      rotate_left
      · have hno : Hid (¬ eachOk l q) := hbad.out hmay
        rw [decide_eq_false hmay]
        clear hmay
        go_wp2_with (fail)
        go_ret2
        exact .inr ⟨hno.out, rfl, HB0.out.trans (HB3.out.mono HB0.out.size)⟩
      rw [decide_eq_true hmay]
      obtain ⟨a1, a2, a3⟩ := home_lt hmay hq1 hq2
      have hT' : Hid (allMay (l.take (j + 1))) := fun m hm => by
        rw [List.take_add_one, HX.out, Option.toList_some] at hm
        rcases List.mem_append.1 hm with hm | hm
        · exact hT.out m hm
        · rw [List.mem_singleton.1 hm]; exact hmay
      clear hmay a1
      obtain ⟨y, hy, cy⟩ := own_int_at HO3.out a3
      have fy := HO3.out.frozenAt (homeN x q)
      have hyv : Hid (y = ((ofHome (l.take j) q (homeN x q)).length : Int)) := by
        have h := hy.out
        rw [cntL_get a3] at h
        injection h with h
        exact h.symm
      have hyb : 0 ≤ y ∧ y ≤ 1000000 := by
        have h1 := ofHome_le (l.take j) q (homeN x q)
        rw [List.length_take] at h1
        have := hyv.out
        have := hl.out
        omega
      obtain ⟨hy0, hy1⟩ := hyb
      have hcn : Hid (cntL (l.take (j + 1)) q = (cntL (l.take j) q).set (homeN x q) (y + 1)) := by
        show _ = _
        rw [List.take_add_one, HX.out, Option.toList_some, cntL_snoc _ _ _ a3, hyv.out]
      generalize hN : homeN x q = hm at *
      have g1 : (0 : Int) ≤ (hm : Int) := by omega
      have g2 : (hm : Int) < (q : Int) := by omega
      rw [a2]
      clear hy hN a2
      go_wp2_with (fail)
      go_roundw
      case rel =>
        have h := HO3.out.stored hm (.int .i64 (y + 1))
        refine ⟨j + 1, by omega, by go_num, hT', ?_, HB3.out.grown h.2 HB3.out.size (fun g hg => by injection hg; omega)⟩
        rw [hcn.out]
        have e : (iv (cntL (l.take j) q)).set hm (.int .i64 (y + 1)) = iv ((cntL (l.take j) q).set hm (y + 1)) := by unfold iv; rw [List.map_set]
        rw [← e]
        exact h.1
      case measure => simp [intOf]; omega
    · obtain rfl : j = n := by omega
      have e1 : l.take j = l := List.take_of_length_le (by rw [hl.out]; exact Nat.le_refl _)
      rw [e1] at ho hT
      have HO := Lib.hid (own_more (base := w.heap.size) ho HB0.out.size)
      have HB := Lib.hid (HB0.out.trans (hB.mono HB0.out.size))
      clear ho hB e1
      go_wp2_with (fail)
      go_ret2
      exact .inl ⟨⟨HK.out, hT.out⟩, _, _, rfl, HO.out, HB.out⟩
end Go.Proofs.YtichoidkemeibaaGreat

namespace Go.Proofs.YtichoidkemeibaaGreat
open Go.RowKit Go.Sort Go.Lib

theorem run_neq_state (x y : Msg) (h : x ≠ y) (w : World) :
    (binOp .neq 43 (.agg #[.int .i64 x.slot, .int .i64 x.dir, .int .i64 x.v, .int .i64 x.d]) (.agg #[.int .i64 y.slot, .int .i64 y.dir, .int .i64 y.v, .int .i64 y.d])).run Tryz.prog w = .ok (.bool true) w := by
  have h' : ¬ (x.slot = y.slot ∧ x.dir = y.dir ∧ x.v = y.v ∧ x.d = y.d) := fun e => h ((Msg.eq_iff _ _).2 e)
  have H := Lib.hid h'
  clear h h'
  go_simp
  by_cases e1 : x.slot = y.slot
  · by_cases e2 : x.dir = y.dir
    · by_cases e3 : x.v = y.v
      · by_cases e4 : x.d = y.d
        · exact absurd ⟨e1, e2, e3, e4⟩ H.out
        · simp [e1, e2, e3, e4]
      · simp [e1, e2, e3]
    · simp [e1, e2]
  · simp [e1]

theorem run_eql_state (x y : Msg) (h : x ≠ y) (w : World) :
    (binOp .eql 43 (.agg #[.int .i64 x.slot, .int .i64 x.dir, .int .i64 x.v, .int .i64 x.d]) (.agg #[.int .i64 y.slot, .int .i64 y.dir, .int .i64 y.v, .int .i64 y.d])).run Tryz.prog w = .ok (.bool false) w := by
  have h' : ¬ (x.slot = y.slot ∧ x.dir = y.dir ∧ x.v = y.v ∧ x.d = y.d) := fun e => h ((Msg.eq_iff _ _).2 e)
  have H := Lib.hid h'
  clear h h'
  go_simp
  by_cases e1 : x.slot = y.slot
  · by_cases e2 : x.dir = y.dir
    · by_cases e3 : x.v = y.v
      · by_cases e4 : x.d = y.d
        · exact absurd ⟨e1, e2, e3, e4⟩ H.out
        · simp [e1, e2, e3, e4]
      · simp [e1, e2, e3]
    · simp [e1, e2]
  · simp [e1]

theorem same15_c (A1 A2 : Option Addr) (n1 n2 c1 c2 : Nat) (xs ys : List Msg) (w : World) (h1 : Reads w w.heap.size 4 A1 n1 (mv xs)) (h2 : Reads w w.heap.size 4 A2 n2 (mv ys)) (hn1 : n1 ≤ maxLen) (hn2 : n2 ≤ maxLen) :
    Calls Tryz.prog 23 #[.slice A1 n1 c1, .slice A2 n2 c2] w fun e w' => e = .returned (.bool (decide (xs = ys))) ∧ Below w.heap.size w w' := by
  have l1 := h1.mail_len
  have l2 := h2.mail_len
  unfold maxLen at hn1 hn2
  by_cases hn : n1 = n2
  · subst hn
    go_enter Tryz.func23, Tryz.ntmps23
    go_wp2
    go_loopw [5] (fun i wr => ∃ k : Nat, k ≤ n1 ∧ i = .int .i64 k ∧ Hid (xs.take k = ys.take k) ∧ Below w.heap.size w wr) (fun i _ => n1 - (intOf i).toNat)
    case atStart => exact ⟨0, Nat.zero_le _, rfl, rfl, Below.refl _ _⟩
    case round =>
      obtain ⟨k, hk, rfl, ht, hB⟩ := hrel
      by_cases hlt : k < n1
      · obtain ⟨a1, o1, x, rfl, hx, hc10, hc11, hc12, hc13⟩ := (h1.below hB).mail_at hlt
        obtain ⟨a2, o2, y, rfl, hy, hc20, hc21, hc22, hc23⟩ := (h2.below hB).mail_at hlt
        clear h1 h2
        have L1 := Lib.hid l1
        have L2 := Lib.hid l2
        clear l1 l2
        by_cases hxy : x = y
        · subst hxy
          go_wp2
          go_quiet (fail)
          go_wp2
          go_roundw
          case rel =>
            refine ⟨k + 1, by omega, by go_num, ?_, below_drewN hB _⟩
            show _ = _
            rw [List.take_add_one, List.take_add_one, ht.out, hx.out, hy.out]
          case measure => simp [intOf]; omega
        · have hrun := run_neq_state x y hxy
          have hxy := Lib.hid hxy
          go_wp2
          go_quiet (fail)
          go_wp2
          have hf : ¬ xs = ys := fun e => hxy.out (by
            have e1 := hx.out
            rw [e, hy.out] at e1
            injection e1 with e1; exact e1.symm)
          go_ret
          exact ⟨ret_bool (decide_eq_false hf).symm, below_drewN hB _⟩
      · obtain rfl : n1 = k := by omega
        have hf : Hid (xs = ys) := by
          have := ht.out
          rw [List.take_of_length_le (by omega), List.take_of_length_le (by omega)] at this
          exact this
        clear l1 l2
        go_wp2
        go_ret
        exact ⟨ret_bool (decide_eq_true hf.out).symm, hB⟩
  · have hf : Hid (¬ xs = ys) := fun e => hn (by rw [← l1, ← l2, e])
    clear l1 l2
    go_enter Tryz.func23, Tryz.ntmps23
    go_wp2
    go_ret
    exact ⟨ret_bool (decide_eq_false hf.out).symm, Below.refl _ _⟩

theorem ownS_c (A : Option Addr) (n c : Nat) (xs : List Msg) (w : World) (h1 : Reads w w.heap.size 4 A n (mv xs)) (hn : n * 32 ≤ 140737488355328) :
    Calls Tryz.prog 18 #[.slice A n c] w fun e w' => ∃ A' c', e = .returned (.slice A' n c') ∧ w'.ownsRow w.heap.size 43 4 (.slice A' n c') n (mv xs) ∧ Below w.heap.size w w' := by
  go_enter Tryz.func18, Tryz.ntmps18
  go_wp2_with (at_builtin; refine wpList_cat elState rfl _ _ rfl (own_nil (base := w.heap.size)) rfl h1 rfl (mv_one _) (by unfold maxLen; omega) (by omega) (Nat.le_refl _) ?_; intro A1 c1 w1 hown p1)
  go_ret
  exact ⟨A1, c1, rfl, by simpa using hown, p1.below0 (Below.refl _ _) (Nat.le_refl _)⟩

set_option maxHeartbeats 2000000 in
theorem may15_c (x : Msg) (w : World) : Calls Tryz.prog 63 #[.agg #[.int .i64 x.slot, .int .i64 x.dir, .int .i64 x.v, .int .i64 x.d]] w fun e w' => e = .returned (.bool (decide (mayM x))) ∧ Below w.heap.size w w' := by
  go_enter Tryz.func63, Tryz.ntmps63
  go_wp2_with (go_at_call 101; refine (may14_c x _).mono ?_; rintro e w3 ⟨rfl, hB3⟩; have d3 : w3.cell? ⟨w.heap.size, 3, none⟩ = some (.int .i64 x.d) := by rw [hB3.cell (by simp)]; simp)
  all_goals have hBB := (below_one w (.cells #[.int .i64 x.slot, .int .i64 x.dir, .int .i64 x.v, .int .i64 x.d] 43)).trans (hB3.mono (by simp))
  all_goals go_ret
  all_goals refine ⟨ret_bool ?_, hBB⟩
  all_goals unfold mayM
  all_goals first | (refine decide_eq_decide.2 ⟨fun h => ⟨by assumption, by omega, h⟩, fun h => h.2.2⟩) | (refine Eq.symm (decide_eq_false fun h => ?_); first | omega | exact absurd h.1 (by assumption))

set_option maxRecDepth 100000 in
set_option maxHeartbeats 4000000 in
theorem each19_c (A : Option Addr) (n c : Nat) (l : List Msg) (k : Int) (w : World) (hr : Reads w w.heap.size 4 A n (mv l)) (hn : n ≤ 1000000) :
    Calls Tryz.prog 22 #[.slice A n c, .int .i64 k] w fun e w' => EachDone w w' l k e := by
  have hl := Lib.hid hr.mail_len
  have HR := Lib.hid hr
  clear hr
  obtain ⟨i0, hi0, hz0, hz1, hz2⟩ := info_parts infoInt
  by_cases hk : 1 ≤ k ∧ k ≤ 16
  rotate_left
  · have hno : Hid (¬ eachOk l k) := fun h => hk h.1
    rcases (show k < 1 ∨ 16 < k by omega) with h | h
    · have h16 : ¬ 16 < k := by omega
      clear hk
      go_enter Tryz.func22, Tryz.ntmps22
      go_wp2_with (fail)
      go_ret2
      exact .inr ⟨hno.out, rfl, Below.refl _ _⟩
    · have h1 : ¬ k < 1 := by omega
      clear hk
      go_enter Tryz.func22, Tryz.ntmps22
      go_wp2_with (fail)
      go_ret2
      exact .inr ⟨hno.out, rfl, Below.refl _ _⟩
  obtain ⟨q, rfl⟩ : ∃ q : Nat, k = (q : Int) := ⟨k.toNat, by omega⟩
  have hq1 : 1 ≤ q := by omega
  have hq2 : q ≤ 16 := by omega
  have HK := Lib.hid hk
  have h1 : ¬ (q : Int) < 1 := by omega
  have h16 : ¬ 16 < (q : Int) := by omega
  clear hk
  go_enter Tryz.func22, Tryz.ntmps22
  have HB0 : Hid (Below w.heap.size w w) := Below.refl _ _
  go_wp2_with (at_make; refine wpList_make_full _ rfl _ _ 25 rfl w.heap.size 3 i0 _ 1 Tryz.underlying25 hi0 hz0 hz1 _ _ _ _ q rfl rfl rfl rfl (by rw [hz2]; omega) (by unfold maxLen; omega) (Nat.le_refl _) ?_; intro w1 hown1 hg1)
  have hown : w1.ownsRow w.heap.size 3 1 (.slice (some ⟨w.heap.size, 0, none⟩) q q) q (iv (cntL [] q)) := by
    have e : (madeCells (Value.int .i64 0).cells (q * 1)).toList = iv (cntL [] q) := by
      rw [Nat.mul_one, cntL_nil]
      have := toList_madeCells_one (.int .i64 0) q
      unfold iv
      rw [List.map_replicate]
      exact this
    rw [← e]; exact hown1
  have hB1 : Below w.heap.size w w1 := (Below.refl _ _).grown hg1 (Nat.le_refl _) (fun _ h => by cases h)
  clear hown1 hg1
  go_loopw [7] (fun i wr => ∃ j : Nat, j ≤ n ∧ i = .int .i64 j ∧ Hid (allMay (l.take j)) ∧ wr.ownsRow w.heap.size 3 1 (.slice (some ⟨w.heap.size, 0, none⟩) q q) q (iv (cntL (l.take j) q)) ∧ Below w.heap.size w wr) (fun i _ => n - (intOf i).toNat)
  case atStart => exact ⟨0, Nat.zero_le _, rfl, fun m hm => by simp at hm, by simpa using hown, hB1⟩
  case round =>
    clear hown hB1
    obtain ⟨j, hj, rfl, hT, ho, hB⟩ := hrel
    by_cases hlt : j < n
    · obtain ⟨b, o, x, rfl, hx, d0, d1, d2, d3⟩ := ((HR.out.below HB0.out).below (hB.mono HB0.out.size)).mail_at hlt
      have HX := Lib.hid hx.out
      have HOA := Lib.hid ho
      have HBA := Lib.hid hB
      have f1 : (0 : Int) ≤ (j : Int) := by omega
      have f2 : (j : Int) < (n : Int) := by omega
      have hbad : Hid (¬ mayM x → ¬ eachOk l q) := fun h1 h2 => h1 (h2.2 x (List.mem_of_getElem? HX.out))
      clear hx ho hB
      go_wp2_with (fail)
      refine (may15_c x _).mono ?_
      rintro e w2 ⟨rfl, hB2⟩
      have HO2 := Lib.hid (own_below HOA.out hB2)
      have HB2 := Lib.hid (HBA.out.trans (hB2.mono HBA.out.size))
      clear hB2 HOA HBA d0 d1 d2 d3
      by_cases hmay : mayM x
      rotate_left
      · have hno : Hid (¬ eachOk l q) := hbad.out hmay
        rw [decide_eq_false hmay]
        clear hmay
        go_wp2_with (fail)
        go_ret2
        exact .inr ⟨hno.out, rfl, HB0.out.trans (HB2.out.mono HB0.out.size)⟩
      rw [decide_eq_true hmay]
      have HMAY := Lib.hid hmay
      have hh : decide (homeOk x.v q) = true := decide_eq_true (homeOk_may hmay HK.out)
      obtain ⟨b', o', x', he, hx', d0, d1, d2, d3⟩ := ((HR.out.below HB0.out).below (HB2.out.mono HB0.out.size)).mail_at hlt
      cases he
      have hxx := HX.out
      rw [hx'.out] at hxx
      cases hxx
      clear hx' hmay
      go_wp2_with (fail)
      refine (home06_c x.v q w2).mono ?_
      rintro e w3 ⟨rfl, hB3⟩
      rw [hh]
      have HO3 := Lib.hid (own_below HO2.out hB3)
      have HB3 := Lib.hid (HB2.out.trans (hB3.mono HB2.out.size))
      have hmay := HMAY.out
      clear d0 d1 d2 d3 hB3 hh
      obtain ⟨a1, a2, a3⟩ := home_lt hmay hq1 hq2
      have hT' : Hid (allMay (l.take (j + 1))) := fun m hm => by
        rw [List.take_add_one, HX.out, Option.toList_some] at hm
        rcases List.mem_append.1 hm with hm | hm
        · exact hT.out m hm
        · rw [List.mem_singleton.1 hm]; exact hmay
      clear hmay a1
      obtain ⟨y, hy, cy⟩ := own_int_at HO3.out a3
      have fy := HO3.out.frozenAt (homeN x q)
      have hyv : Hid (y = ((ofHome (l.take j) q (homeN x q)).length : Int)) := by
        have h := hy.out
        rw [cntL_get a3] at h
        injection h with h
        exact h.symm
      have hyb : 0 ≤ y ∧ y ≤ 1000000 := by
        have h1 := ofHome_le (l.take j) q (homeN x q)
        rw [List.length_take] at h1
        have := hyv.out
        have := hl.out
        omega
      obtain ⟨hy0, hy1⟩ := hyb
      have hcn : Hid (cntL (l.take (j + 1)) q = (cntL (l.take j) q).set (homeN x q) (y + 1)) := by
        show _ = _
        rw [List.take_add_one, HX.out, Option.toList_some, cntL_snoc _ _ _ a3, hyv.out]
      generalize hN : homeN x q = hm at *
      have g1 : (0 : Int) ≤ (hm : Int) := by omega
      have g2 : (hm : Int) < (q : Int) := by omega
      rw [a2]
      clear hy hN a2
      go_wp2_with (fail)
      go_roundw
      case rel =>
        have h := HO3.out.stored hm (.int .i64 (y + 1))
        refine ⟨j + 1, by omega, by go_num, hT', ?_, HB3.out.grown h.2 HB3.out.size (fun g hg => by injection hg; omega)⟩
        rw [hcn.out]
        have e : (iv (cntL (l.take j) q)).set hm (.int .i64 (y + 1)) = iv ((cntL (l.take j) q).set hm (y + 1)) := by unfold iv; rw [List.map_set]
        rw [← e]
        exact h.1
      case measure => simp [intOf]; omega
    · obtain rfl : j = n := by omega
      have e1 : l.take j = l := List.take_of_length_le (by rw [hl.out]; exact Nat.le_refl _)
      rw [e1] at ho hT
      have HO := Lib.hid (own_more (base := w.heap.size) ho HB0.out.size)
      have HB := Lib.hid (HB0.out.trans (hB.mono HB0.out.size))
      clear ho hB e1
      go_wp2_with (fail)
      go_ret2
      exact .inl ⟨⟨HK.out, hT.out⟩, _, _, rfl, HO.out, HB.out⟩

/-- States are right. -/
def rightR (l : List Msg) : Prop := (∀ x ∈ l, mayM x) ∧ l.Pairwise kless
instance (l : List Msg) : Decidable (rightR l) := by unfold rightR; infer_instance
theorem rightR_take {l : List Msg} (j : Nat) (h : rightR l) : rightR (l.take j) := ⟨fun x hx => h.1 x (List.mem_of_mem_take hx), h.2.sublist (List.take_sublist _ _)⟩

set_option maxRecDepth 100000 in
set_option maxHeartbeats 4000000 in
theorem right19_c (A : Option Addr) (n c : Nat) (l : List Msg) (w : World) (hr : Reads w w.heap.size 4 A n (mv l)) (hn : n ≤ 1000000) :
    Calls Tryz.prog 30 #[.slice A n c] w fun e w' => e = .returned (.bool (decide (rightR l))) ∧ Below w.heap.size w w' := by
  have hl := Lib.hid hr.mail_len
  have HR := Lib.hid hr
  clear hr
  go_enter Tryz.func30, Tryz.ntmps30
  go_wp2_with (fail)
  go_loopw [3] (fun i wr => ∃ j : Nat, j ≤ n ∧ i = .int .i64 j ∧ Hid (rightR (l.take j)) ∧ Below w.heap.size w wr) (fun i _ => n - (intOf i).toNat)
  case atStart => exact ⟨0, Nat.zero_le _, rfl, ⟨fun x hx => by simp at hx, by simp⟩, Below.refl _ _⟩
  case round =>
    obtain ⟨j, hj, rfl, hT, hB⟩ := hrel
    by_cases hlt : j < n
    · obtain ⟨b, o, x, rfl, hx, d0, d1, d2, d3⟩ := (HR.out.below hB).mail_at hlt
      have HX := Lib.hid hx.out
      have hbad : Hid (¬ mayM x → ¬ rightR l) := fun hno h => hno (h.1 x (List.mem_of_getElem? HX.out))
      have hnext : Hid (mayM x → (∀ y, (l.take j).getLast? = some y → kless y x) → rightR (l.take (j + 1))) := fun h1 h2 => by
        rw [List.take_add_one, HX.out, Option.toList_some]
        refine ⟨fun y hy => ?_, rise_snocR hT.out.2 h2⟩
        rcases List.mem_append.1 hy with hy | hy
        · exact hT.out.1 y hy
        · rw [List.mem_singleton.1 hy]; exact h1
      have HB0 := Lib.hid hB
      clear hx hB
      have f1 : (0 : Int) ≤ (j : Int) := by omega
      have f2 : (j : Int) < (n : Int) := by omega
      go_wp2_with (fail)
      have d0 := cell_regrown d0
      have d1 := cell_regrown d1
      have d2 := cell_regrown d2
      have d3 := cell_regrown d3
      have HM := Lib.hid (regrown_call (w := wr) (P := Tryz.prog) (f := 63) (args := #[.agg #[.int .i64 x.slot, .int .i64 x.dir, .int .i64 x.v, .int .i64 x.d]]) (v := .bool (decide (mayM x))) (fun w' _ => (may15_c x w').mono fun e w'' hh => hh))
      by_cases hmay : mayM x
      rotate_left
      · have hf : Hid (decide (rightR l) = false) := decide_eq_false (hbad.out hmay)
        rw [decide_eq_false hmay] at HM
        clear hmay
        refine wp_region_quiet_below (by kernel_rfl) (by kernel_rfl) ?_
        quiet_step (fail)
        quiet_step (fail)
        quiet_step (fail)
        quiet_step (fail)
        quiet_step ((go_at_call 63; exact HM.out _ _))
        quiet_step (fail)
        quiet_step (fail)
        go_big_quiet_skip
        go_big_quiet_skip
        go_big_quiet_skip
        go_big_quiet_skip
        go_big_quiet_skip
        go_big_quiet_skip
        go_big_quiet_skip
        go_big_quiet_skip
        go_big_quiet_skip
        go_big_quiet_skip
        go_big_quiet_skip
        go_big_quiet_skip
        go_big_quiet_skip
        go_big_quiet_skip
        go_big_quiet_skip
        go_big_quiet_skip
        go_big_quiet_skip
        quiet_step (fail)
        refine wpQuiet_nil ?_
        intro _ hw'
        obtain ⟨⟨dq, osq⟩, hw''⟩ := hw'
        have HZ := Lib.hid (HB0.out.trans ((below_regrown wr dq osq).mono HB0.out.size))
        rw [← hw''] at HZ
        clear hw''
        go_wp2_with (fail)
        go_ret
        exact ⟨ret_bool hf.out.symm, HZ.out⟩
      rw [decide_eq_true hmay] at HM
      have hok := Lib.hid hmay
      clear hmay
      rcases Nat.eq_zero_or_pos j with h0 | h0
      · have hj0 : ¬ (0 : Int) < (j : Int) := by omega
        have hN : Hid (rightR (l.take (j + 1))) := hnext.out hok.out (fun y hy => by rw [h0] at hy; simp at hy)
        subst h0
        simp only [Nat.zero_mul, Nat.add_zero] at d0 d1 d2 d3
        have f2' : (0 : Int) < (n : Int) := by omega
        refine wp_region_quiet_below (by kernel_rfl) (by kernel_rfl) ?_
        quiet_step (fail)
        quiet_step (fail)
        quiet_step (fail)
        quiet_step (fail)
        quiet_step ((go_at_call 63; exact HM.out _ _))
        quiet_step (fail)
        quiet_step (fail)
        quiet_step (fail)
        quiet_step (fail)
        quiet_step (fail)
        go_big_quiet_skip
        go_big_quiet_skip
        go_big_quiet_skip
        go_big_quiet_skip
        go_big_quiet_skip
        go_big_quiet_skip
        go_big_quiet_skip
        go_big_quiet_skip
        go_big_quiet_skip
        go_big_quiet_skip
        go_big_quiet_skip
        go_big_quiet_skip
        go_big_quiet_skip
        quiet_step (fail)
        quiet_step (fail)
        refine wpQuiet_nil ?_
        intro _ hw'
        obtain ⟨⟨dq, osq⟩, hw''⟩ := hw'
        have HZ := Lib.hid (HB0.out.trans ((below_regrown wr dq osq).mono HB0.out.size))
        rw [← hw''] at HZ
        clear hw''
        go_wp2_with (fail)
        go_roundw
        case rel => exact ⟨1, by omega, by go_num, hN, HZ.out⟩
        case measure => simp [intOf]; omega
      · obtain ⟨j, rfl⟩ : ∃ i, j = i + 1 := ⟨j - 1, by omega⟩
        obtain ⟨b', o', y, he, hy, y0, y1, y2, y3⟩ := (HR.out.below HB0.out).mail_at (k := j) (by omega)
        cases he
        have y0 := cell_regrown y0
        have y1 := cell_regrown y1
        have y2 := cell_regrown y2
        have y3 := cell_regrown y3
        have HY := Lib.hid hy.out
        clear hy
        have k1 : (0 : Int) ≤ (j : Int) := by omega
        have k2 : (j : Int) < (n : Int) := by omega
        have k3 : (0 : Int) < (j : Int) + 1 := by omega
        have k5 : (0 : Int) ≤ (j : Int) + 1 := by omega
        have k6 : (j : Int) + 1 < (n : Int) := by omega
        have k4 : IntKind.i64.wrap (j : Int) = (j : Int) := IntWalk.i64_in _ (by omega)
        have HC := Lib.hid (regrown_call (w := wr) (P := Tryz.prog) (f := 70) (args := #[.agg #[.int .i64 y.slot, .int .i64 y.dir, .int .i64 y.v], .agg #[.int .i64 x.slot, .int .i64 x.dir, .int .i64 x.v]]) (v := .bool (decide (kless y x))) (fun w' _ => (less14_c y x w').mono fun e w'' hh => hh))
        have hlast : Hid ((l.take (j + 1)).getLast? = some y) := by
          show _ = _
          rw [List.take_add_one, HY.out]
          simp
        by_cases hless : kless y x
        rotate_left
        · have hf : Hid (decide (rightR l) = false) := decide_eq_false (fun h => by
            have h2 := rightR_take (j + 1 + 1) h
            rw [List.take_add_one, HX.out, Option.toList_some] at h2
            exact hless ((List.pairwise_append.1 h2.2).2.2 y (List.mem_of_getLast? hlast.out) x (by simp)))
          rw [decide_eq_false hless] at HC
          clear hless
          refine wp_region_quiet_below (by kernel_rfl) (by kernel_rfl) ?_
          quiet_step (fail)
          quiet_step (fail)
          quiet_step (fail)
          quiet_step (fail)
          quiet_step ((go_at_call 63; exact HM.out _ _))
          quiet_step (fail)
          quiet_step (fail)
          quiet_step (fail)
          quiet_step (fail)
          quiet_step (fail)
          quiet_step (fail)
          quiet_step (fail)
          quiet_step (fail)
          quiet_step (fail)
          quiet_step (fail)
          quiet_step (fail)
          quiet_step (fail)
          quiet_step (fail)
          quiet_step (fail)
          quiet_step (fail)
          quiet_step (fail)
          quiet_step ((go_at_call 70; exact HC.out _ _))
          quiet_step (fail)
          quiet_step (fail)
          quiet_step (fail)
          refine wpQuiet_nil ?_
          intro _ hw'
          obtain ⟨⟨dq, osq⟩, hw''⟩ := hw'
          have HZ := Lib.hid (HB0.out.trans ((below_regrown wr dq osq).mono HB0.out.size))
          rw [← hw''] at HZ
          clear hw''
          go_wp2_with (fail)
          go_ret
          exact ⟨ret_bool hf.out.symm, HZ.out⟩
        · have hN : Hid (rightR (l.take (j + 1 + 1))) := hnext.out hok.out (fun z hz => by
            rw [hlast.out] at hz
            injection hz with hz
            subst hz
            exact hless)
          rw [decide_eq_true hless] at HC
          clear hless
          refine wp_region_quiet_below (by kernel_rfl) (by kernel_rfl) ?_
          quiet_step (fail)
          quiet_step (fail)
          quiet_step (fail)
          quiet_step (fail)
          quiet_step ((go_at_call 63; exact HM.out _ _))
          quiet_step (fail)
          quiet_step (fail)
          quiet_step (fail)
          quiet_step (fail)
          quiet_step (fail)
          quiet_step (fail)
          quiet_step (fail)
          quiet_step (fail)
          quiet_step (fail)
          quiet_step (fail)
          quiet_step (fail)
          quiet_step (fail)
          quiet_step (fail)
          quiet_step (fail)
          quiet_step (fail)
          quiet_step (fail)
          quiet_step ((go_at_call 70; exact HC.out _ _))
          quiet_step (fail)
          quiet_step (fail)
          quiet_step (fail)
          refine wpQuiet_nil ?_
          intro _ hw'
          obtain ⟨⟨dq, osq⟩, hw''⟩ := hw'
          have HZ := Lib.hid (HB0.out.trans ((below_regrown wr dq osq).mono HB0.out.size))
          rw [← hw''] at HZ
          clear hw''
          go_wp2_with (fail)
          go_roundw
          case rel => exact ⟨j + 1 + 1, by omega, by go_num, hN, HZ.out⟩
          case measure => simp [intOf]; omega
    · obtain rfl : j = n := by omega
      have hT2 : Hid (rightR l) := by have h := hT.out; rw [List.take_of_length_le (by rw [hl.out]; exact Nat.le_refl _)] at h; exact h
      go_wp2_with (fail)
      go_ret
      exact ⟨ret_bool (decide_eq_true hT2.out).symm, hB⟩
end Go.Proofs.YtichoidkemeibaaGreat
