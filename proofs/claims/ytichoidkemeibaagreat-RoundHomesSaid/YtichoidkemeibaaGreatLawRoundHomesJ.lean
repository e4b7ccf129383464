/-
  RoundHomes: the walk of the law.
-/
import Derived.Test.YtichoidkemeibaaGreatJ21
import Derived.Test.YtichoidkemeibaaGreatJ26
import Derived.Test.YtichoidkemeibaaGreatJ13
namespace Go.Proofs.YtichoidkemeibaaGreat
open Go.RowKit

theorem sum_cnt {l : List Msg} {k : Nat} (h1 : 1 ≤ k) (h2 : k ≤ 16) (hm : allMay l) : (cntL l k).sum = (l.length : Int) := by
  have h3 := (parted_permR k h1 h2 l hm).length_eq
  rw [← h3, List.length_flatten]
  unfold cntL parted
  rw [List.map_map]
  have : ∀ L : List Nat, ((L.map fun i => ((ofHome l k i).length : Int)).sum) = (((L.map (List.length ∘ fun i => ofHome l k i)).sum : Nat) : Int) := by
    intro L
    induction L with
    | nil => rfl
    | cons x xs ih => simp only [List.map_cons, List.sum_cons, ih, Function.comp]; omega
  exact this _
theorem cnt_one {l : List Msg} (hm : allMay l) : cntL l 1 = [(l.length : Int)] := by
  have h1 := sum_cnt (k := 1) (by omega) (by omega) hm
  have h2 := cntL_len l 1
  match hc : cntL l 1, h2 with
  | [x], _ =>
    rw [hc] at h1
    simp at h1
    rw [h1]
theorem cnt_pos {l : List Msg} {k : Nat} : ∀ x ∈ cntL l k, 0 ≤ x := fun x hx => by
  unfold cntL at hx
  obtain ⟨i, _, rfl⟩ := List.mem_map.1 hx
  exact Int.natCast_nonneg _
theorem sum_take_le {l : List Int} (h : ∀ x ∈ l, 0 ≤ x) : ∀ j, 0 ≤ (l.take j).sum ∧ (l.take j).sum ≤ l.sum := by
  induction l with
  | nil => intro j; simp
  | cons x xs ih =>
    intro j
    cases j with
    | zero =>
      have h0 := (ih (fun y hy => h y (by simp [hy])) xs.length).1
      rw [List.take_length] at h0
      have := h x (by simp)
      simp
      omega
    | succ j =>
      have h1 := ih (fun y hy => h y (by simp [hy])) j
      have := h x (by simp)
      simp only [List.take_succ_cons, List.sum_cons]
      omega

set_option maxRecDepth 100000 in
set_option maxHeartbeats 4000000 in
theorem roundHomes_c (A : Option Addr) (n c : Nat) (l : List Msg) (k : Int) (w : World) (hr : Reads w w.heap.size 4 A n (mv l)) (hn : n ≤ maxLen) :
    Calls Tryz.prog 8 #[.slice A n c, .int .i64 k] w fun e w' => e = .returned (.bool true) ∧ Below w.heap.size w w' := by
  unfold maxLen at hn
  have HL := Lib.hid hr.mail_len
  have HR := Lib.hid hr
  clear hr
  by_cases h100 : 100 < n
  · have h100' : (100 : Int) < (n : Int) := by omega
    go_enter Tryz.func8, Tryz.ntmps8
    go_wp2_with (fail)
    go_ret
    exact ⟨rfl, Below.refl _ _⟩
  have h100' : ¬ (100 : Int) < (n : Int) := by omega
  go_enter Tryz.func8, Tryz.ntmps8
  go_wp2_with (fail)
  refine (each_c A n c l k w HR.out (by omega)).mono ?_
  rintro e w1 hE
  unfold EachDone at hE
  rcases hE with ⟨hok, A1, c1, rfl, ho1, hB1⟩ | ⟨hno, rfl, hB1⟩
  rotate_left
  · have HB1 := Lib.hid hB1
    clear hno hB1
    go_wp2_with (fail)
    refine (rounds_c w1).mono ?_
    rintro e w2 ⟨rfl, hB2⟩
    have HB2 := Lib.hid (HB1.out.trans (hB2.mono HB1.out.size))
    clear hB2
    go_wp2_with (fail)
    go_ret
    exact ⟨rfl, HB2.out⟩
  obtain ⟨q, rfl⟩ : ∃ q : Nat, k = (q : Int) := ⟨k.toNat, by have := hok.1; omega⟩
  have hq1 : 1 ≤ q := by have := hok.1; omega
  have hq2 : q ≤ 16 := by have := hok.1; omega
  have HM := Lib.hid hok.2
  rw [Int.toNat_natCast] at ho1
  rw [Int.toNat_natCast]
  have HR1 := Lib.hid (own_reads ho1)
  have HB1 := Lib.hid hB1
  have HSUM := Lib.hid (sum_cnt hq1 hq2 HM.out)
  have HCL := Lib.hid (cntL_len l q)
  clear ho1 hB1 hok
  go_wp2_with (fail)
  go_loopw [8, 7] (fun i s wr => ∃ j : Nat, j ≤ q ∧ i = .int .i64 j ∧ s = .int .i64 ((cntL l q).take j).sum ∧ wr = w1) (fun i _ _ => q - (intOf i).toNat)
  case atStart => exact ⟨0, Nat.zero_le _, rfl, rfl, rfl⟩
  case round =>
    obtain ⟨j, hj, rfl, rfl, rfl⟩ := hrel
    have hst := sum_take_le (cnt_pos (l := l) (k := q)) j
    have hs0 : 0 ≤ ((cntL l q).take j).sum := hst.1
    have hs1 : ((cntL l q).take j).sum ≤ 100 := by have h1 := HSUM.out; have h2 := HL.out; omega
    clear hst
    by_cases hlt : j < q
    · obtain ⟨b, o, x, rfl, hx, d0⟩ := HR1.out.int_at hlt
      have hx0 : 0 ≤ x := cnt_pos x (List.mem_of_getElem? hx.out)
      have hT : Hid (((cntL l q).take (j + 1)).sum = ((cntL l q).take j).sum + x) := by
        show _ = _
        rw [List.take_add_one, hx.out, Option.toList_some, List.sum_append]
        simp
      have hs2 : x ≤ 100 := by
        have h1 := (sum_take_le (cnt_pos (l := l) (k := q)) (j + 1)).2
        rw [hT.out] at h1
        have h2 := HSUM.out
        have h3 := HL.out
        omega
      have f1 : (0 : Int) ≤ (j : Int) := by omega
      have f2 : (j : Int) < (q : Int) := by omega
      generalize ((cntL l q).take j).sum = sm at *
      clear hx
      go_wp2_with (fail)
      go_roundw
      case rel => exact ⟨j + 1, by omega, by go_num, by rw [hT.out], by first | rfl | trivial⟩
      case measure => simp [intOf]; omega
    · obtain rfl : j = q := by omega
      have e1 : (cntL l j).take j = cntL l j := List.take_of_length_le (by rw [HCL.out]; exact Nat.le_refl _)
      have hsm : ((cntL l j).take j).sum = (n : Int) := by rw [e1, HSUM.out, HL.out]
      rw [hsm]
      clear hs0 hs1 hsm e1
      go_wp2_with (fail)
      refine (each_c A n c l 1 wr ((HR.out.below HB1.out).more HB1.out.size) (by omega)).mono ?_
      rintro e w2 hE
      unfold EachDone at hE
      rcases hE with ⟨hok, A2, c2, rfl, ho2, hB2⟩ | ⟨hno, -, -⟩
      rotate_left
      · exact absurd ⟨by omega, HM.out⟩ hno
      have hr2 := own_reads ho2
      rw [show ((1 : Int).toNat) = 1 from rfl, cnt_one HM.out, HL.out] at hr2
      have HR2 := Lib.hid hr2
      have HB2 := Lib.hid (HB1.out.trans (hB2.mono HB1.out.size))
      clear hok ho2 hB2 hr2
      go_wp2_with (fail)
      refine (rounds_c w2).mono ?_
      rintro e w3 ⟨rfl, hB3⟩
      have HR3 := Lib.hid ((HR2.out.below hB3).more hB3.size)
      have HB3 := Lib.hid (HB2.out.trans (hB3.mono HB2.out.size))
      have hl4 := reads_lit w3 [(n : Int)] 3
      have hb4 := below_one w3 (.cells #[.int .i64 (n : Int)] 3)
      obtain ⟨W4, hW4⟩ : ∃ W4, W4 = w3.alloc (.cells #[.int .i64 (n : Int)] 3) := ⟨_, rfl⟩
      have hr4 : Reads W4 W4.heap.size 1 (some ⟨w3.heap.size, 0, none⟩) 1 (iv [(n : Int)]) := by rw [hW4]; exact hl4.more (by simp)
      rw [← hW4] at hb4
      have HR4 := Lib.hid hr4
      have HW4 := Lib.hid hW4
      have HR5 := Lib.hid ((HR3.out.below hb4).more hb4.size)
      have HB4 := Lib.hid (HB3.out.trans (hb4.mono HB3.out.size))
      clear hB3 hl4 hb4 hW4 hr4 HR2
      go_wp2_with (fail)
      change Calls _ _ _ (w3.alloc (.cells #[.int .i64 (n : Int)] 3)) _
      rw [← HW4.out]
      refine (ints_c _ _ _ _ _ _ [(n : Int)] [(n : Int)] W4 HR5.out HR4.out (by unfold maxLen; omega) (by unfold maxLen; omega)).mono ?_
      rintro e w5 ⟨rfl, hB5⟩
      rw [show decide ([(n : Int)] = [(n : Int)]) = true from decide_eq_true rfl]
      have HB5 := Lib.hid (HB4.out.trans (hB5.mono HB4.out.size))
      clear hB5
      go_wp2_with (fail)
      go_ret
      exact ⟨rfl, HB5.out⟩
end Go.Proofs.YtichoidkemeibaaGreat
