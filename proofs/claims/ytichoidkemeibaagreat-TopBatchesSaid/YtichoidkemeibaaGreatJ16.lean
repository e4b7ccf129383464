/-
  The reference's put and Combine: the walks.
-/
import Derived.Test.YtichoidkemeibaaGreatJ02
import Derived.Test.YtichoidkemeibaaGreatJ05
import Derived.StillTailTactics
import Derived.Deep.RegionLaw
import Derived.BigRegion
namespace Go.Proofs.YtichoidkemeibaaGreat
open Go.RowKit

theorem run_eql_key (x y : Msg) (h : ¬ kEq x y) (w : World) :
    (binOp .eql 41 (.agg #[.int .i64 x.slot, .int .i64 x.dir, .int .i64 x.v]) (.agg #[.int .i64 y.slot, .int .i64 y.dir, .int .i64 y.v])).run Tryz.prog w = .ok (.bool false) w := by
  have h' : ¬ (x.slot = y.slot ∧ x.dir = y.dir ∧ x.v = y.v) := h
  have H := Lib.hid h'
  clear h h'
  go_simp
  by_cases e1 : x.slot = y.slot
  · by_cases e2 : x.dir = y.dir
    · by_cases e3 : x.v = y.v
      · exact absurd ⟨e1, e2, e3⟩ H.out
      · simp [e1, e2, e3]
    · simp [e1, e2]
  · simp [e1]

theorem mv_take (xs : List Msg) (k : Nat) : (mv xs).take (k * 4) = mv (xs.take k) := flat_take mc 4 mc_len xs k
theorem mv_drop (xs : List Msg) (k : Nat) : (mv xs).drop (k * 4) = mv (xs.drop k) := flat_drop mc 4 mc_len xs k

theorem putM_len : ∀ (o : List Msg) (x : Msg), (putM o x).length ≤ o.length + 1
  | [], x => by simp [putM]
  | y :: ys, x => by
    simp only [putM]
    split
    · simp only [List.length_cons]; have := putM_len ys x; omega
    · split
      · simp
      · simp
theorem put_new {xs : List Msg} {n k : Nat} {x y : Msg} (hl : xs.length = n) (hk : k < n) (hy : xs[k]? = some y) (ht : ∀ z ∈ xs.take k, kless z x) (h1 : ¬ kless y x) (h2 : ¬ kEq y x) : putM xs x = xs.take k ++ x :: xs.drop k := by
  have h0 : putM xs x = putM (xs.take k ++ xs.drop k) x := by rw [List.take_append_drop]
  have hd : xs.drop k = y :: xs.drop (k + 1) := by
    rw [List.drop_eq_getElem_cons (by omega)]
    rw [List.getElem?_eq_getElem (by omega)] at hy
    rw [Option.some.inj hy]
  rw [h0, putM_past ht, hd]
  simp only [putM]
  rw [if_neg h1, if_neg h2]
theorem put_same {xs : List Msg} {n k : Nat} {x y : Msg} (hl : xs.length = n) (hk : k < n) (hy : xs[k]? = some y) (ht : ∀ z ∈ xs.take k, kless z x) (h1 : ¬ kless y x) (h2 : kEq y x) : putM xs x = xs.take k ++ { x with d := min x.d y.d } :: xs.drop (k + 1) := by
  have h0 : putM xs x = putM (xs.take k ++ xs.drop k) x := by rw [List.take_append_drop]
  have hd : xs.drop k = y :: xs.drop (k + 1) := by
    rw [List.drop_eq_getElem_cons (by omega)]
    rw [List.getElem?_eq_getElem (by omega)] at hy
    rw [Option.some.inj hy]
  rw [h0, putM_past ht, hd]
  simp only [putM]
  rw [if_neg h1, if_pos h2]
theorem put_last {xs : List Msg} {x : Msg} (ht : ∀ z ∈ xs, kless z x) : putM xs x = xs ++ [x] := by
  have := putM_past (rest := []) ht
  simpa [putM] using this

set_option maxRecDepth 100000 in
set_option maxHeartbeats 2000000 in
theorem put_c (A : Option Addr) (n c : Nat) (xs : List Msg) (x : Msg) (w : World) (hr : Reads w w.heap.size 4 A n (mv xs)) (hn : n ≤ 1000000) (hcap : n ≤ c) :
    Calls Tryz.prog 105 #[.slice A n c, .agg #[.int .i64 x.slot, .int .i64 x.dir, .int .i64 x.v, .int .i64 x.d]] w fun e w' => ∃ A' n' c', e = .returned (.slice A' n' c') ∧ (putM xs x).length = n' ∧ w'.ownsRow w.heap.size 44 4 (.slice A' n' c') n' (mv (putM xs x)) ∧ Below w.heap.size w w' := by
  have hl := hr.mail_len
  go_enter Tryz.func105, Tryz.ntmps105
  go_wp2_with (fail)
  have HL := Lib.hid hl
  clear hl
  go_loopw [5] (fun i wr => ∃ k : Nat, k ≤ n ∧ i = .int .i64 k ∧ Hid (∀ y ∈ xs.take k, kless y x) ∧ Below w.heap.size w wr ∧ wr.heap[w.heap.size]? = some (.cells #[.int .i64 x.slot, .int .i64 x.dir, .int .i64 x.v, .int .i64 x.d] 44 (0, 0))) (fun i _ => n - (intOf i).toNat)
  case atStart => exact ⟨0, Nat.zero_le _, rfl, fun m hm => by simp at hm, below_one _ _, Array.getElem?_push_size⟩
  case round =>
    obtain ⟨k, hk, rfl, ht, hB, hbx⟩ := hrel
    obtain ⟨d0, d1, d2, d3⟩ := mail_box hbx
    by_cases hlt : k < n
    · obtain ⟨a1, o1, y, rfl, hy, c0, c1, c2, c3⟩ := (hr.below hB).mail_at hlt
      have hdec : decide ((k : Int) < (n : Int)) = true := by simpa using hlt
      go_wp2_with (fail)
      refine wp_region_still_tail 12 (by kernel_rfl) (by kernel_rfl) ?_
      simp only [List.take_succ_cons, List.take_zero, List.drop_succ_cons, List.drop_zero]
      obtain ⟨wd, hwd⟩ : ∃ wd, wd = wr.drew := ⟨_, rfl⟩
      change wr.drew.cell? _ = _ at c0 c1 c2 c3 d0 d1 d2 d3
      change wr.drew.heap[_]? = _ at hbx
      have hBd : Below w.heap.size w wr.drew := hB.drew
      rw [← hwd] at c0 c1 c2 c3 d0 d1 d2 d3 hbx hBd
      change wpStill _ _ wr.drew (fun a' => wpList _ _ _ _ a' wr.drew) _ _
      rw [← hwd]
      clear hwd hB
      repeat still_step
      refine wpStill_nil ?_
      go_wp2_with (fail)
      refine (less14_c y x _).mono ?_
      rintro e w3 ⟨rfl, hB3⟩
      have hBB := hBd.trans (hB3.mono hBd.size)
      have hbx3 := (hB3.block _ (Array.getElem?_eq_some_iff.1 hbx).1).trans hbx
      by_cases hless : kless y x
      · rw [decide_eq_true hless]
        have HS := Lib.hid hless
        clear hless hdec
        go_wp2_with (fail)
        go_roundw
        case rel =>
          refine ⟨k + 1, by omega, by go_num, fun m hm => ?_, hBB, hbx3⟩
          rw [List.take_add_one, hy.out] at hm
          rcases List.mem_append.1 hm with h | h
          · exact ht.out m h
          · simp at h; subst h; exact HS.out
        case measure => simp [intOf]; omega
      · rw [decide_eq_false hless]
        have HS := Lib.hid hless
        clear hless hdec d0 d1 d2 d3 c0 c1 c2 c3 hbx
        have hbs : w.heap.size + 1 ≤ w3.heap.size := (Array.getElem?_eq_some_iff.1 hbx3).1
        have hr3 : Reads w3 w.heap.size 4 (some ⟨a1, o1, none⟩) k (mv (xs.take k)) := by rw [← mv_take]; exact (hr.below hBB).first hk
        have hkc : k ≤ c := by omega
        go_wp2_with (at_builtin; refine wpList_cat elMail rfl _ _ rfl (own_nil (base := w.heap.size + 1)) rfl hr3 rfl (mv_one _) (by unfold maxLen; omega) (by omega) hbs ?_; intro A4 c4 w4 ho4 p4)
        have hB4 : Below w.heap.size w w4 := p4.below0 hBB hBB.size
        have hbx4 := (p4.grown.block _ (Array.getElem?_eq_some_iff.1 hbx3).1 (by simp)).trans hbx3
        obtain ⟨d0, d1, d2, d3⟩ := mail_box hbx4
        obtain ⟨a1', o1', y', e1, e2, c0, c1, c2, c3⟩ := (hr.below hB4).mail_at hlt
        cases e1
        obtain rfl : y = y' := by have := hy.out; rw [e2.out] at this; exact (Option.some.inj this).symm
        clear e2 hr3 hB3 hbx3
        simp only [Nat.zero_add, List.nil_append] at ho4
        by_cases hkey : kEq y x
        · obtain ⟨e1, e2, e3⟩ := id hkey
          rw [e1] at c0
          rw [e2] at c1
          rw [e3] at c2
          have HK := Lib.hid hkey
          clear e1 e2 e3 hkey
          go_quiet (fail)
          rename_i nq
          obtain ⟨w5, hw5⟩ : ∃ w5, w5 = w4.drewN nq := ⟨_, rfl⟩
          have ho5 : w5.ownsRow (w.heap.size + 1) 44 4 (.slice A4 k c4) k (mv (xs.take k)) := by rw [hw5]; exact ho4
          have hB5 : Below w.heap.size w w5 := by rw [hw5]; exact below_drewN hB4 _
          have hbx5 : w5.heap[w.heap.size]? = some (.cells #[.int .i64 x.slot, .int .i64 x.dir, .int .i64 x.v, .int .i64 x.d] 44 (0, 0)) := by rw [hw5]; exact hbx4
          have c3' : w5.cell? ⟨a1, o1 + k * 4 + 3, none⟩ = some (.int .i64 y.d) := by rw [hw5]; exact c3
          rw [← hw5]
          clear hw5 ho4 hB4 hbx4 c0 c1 c2 c3 d0 d1 d2 d3 p4
          obtain ⟨d0, d1, d2, d3⟩ := mail_box hbx5
          have hs5 : w.heap.size + 1 ≤ w5.heap.size := (Array.getElem?_eq_some_iff.1 hbx5).1
          have hnc : (n : Int) ≤ (c : Int) := by omega
          go_wp2_with (fail)
          go_region_law (first | (refine step_push_drew elMail rfl (.tmp 42) (.tmp 54) rfl ho5 rfl _ rfl rfl (mc_one { x with d := min x.d y.d }) (by unfold maxLen; omega) (by omega) hs5 ?_; intro A6 c6 w6 ho6 p6))
          all_goals
            have hB6 := p6.below ho5 hB5 (Nat.le_succ _) hB5.size
            have hs6 := Nat.le_trans hs5 p6.larger
            go_wp2_with (at_builtin; go_must (refine wpList_cat elMail rfl _ _ rfl ho6 rfl ((hr.below hB6).cut (k := k + 1) (by omega) (fun h b o e => by cases e; rw [if_neg (by omega)])) rfl (fun u hu => mv_one _ _ (List.mem_of_mem_drop hu)) (by unfold maxLen; omega) (by omega) hs6 ?_; intro A7 c7 w7 ho7 p7))
            all_goals
              have hp : Hid (putM xs x = xs.take k ++ { x with d := min x.d y.d } :: xs.drop (k + 1)) := put_same HL.out hlt hy.out ht.out HS.out HK.out
              have hlen : (xs.take k ++ { x with d := min x.d y.d } :: xs.drop (k + 1)).length = k + 1 + (n - (k + 1)) := by have := HL.out; simp; omega
              go_wp2_with (fail)
              go_ret
              refine ⟨A7, k + 1 + (n - (k + 1)), c7, rfl, by rw [hp.out, hlen], ?_, p7.below ho6 hB6 (Nat.le_succ _) hB6.size⟩
              rw [hp.out, show mv (xs.take k ++ { x with d := min x.d y.d } :: xs.drop (k + 1)) = mv (xs.take k) ++ mc { x with d := min x.d y.d } ++ (mv xs).drop ((k + 1) * 4) by rw [mv_drop]; simp [mv]]
              exact own_more ho7 (Nat.le_succ _)
        · have hrun := run_eql_key y x hkey
          have HK := Lib.hid hkey
          clear hkey
          go_quiet (fail)
          rename_i nq
          obtain ⟨w5, hw5⟩ : ∃ w5, w5 = w4.drewN nq := ⟨_, rfl⟩
          have ho5 : w5.ownsRow (w.heap.size + 1) 44 4 (.slice A4 k c4) k (mv (xs.take k)) := by rw [hw5]; exact ho4
          have hB5 : Below w.heap.size w w5 := by rw [hw5]; exact below_drewN hB4 _
          have hbx5 : w5.heap[w.heap.size]? = some (.cells #[.int .i64 x.slot, .int .i64 x.dir, .int .i64 x.v, .int .i64 x.d] 44 (0, 0)) := by rw [hw5]; exact hbx4
          rw [← hw5]
          clear hw5 ho4 hB4 hbx4 c0 c1 c2 c3 d0 d1 d2 d3 p4 hrun
          obtain ⟨d0, d1, d2, d3⟩ := mail_box hbx5
          have hs5 : w.heap.size + 1 ≤ w5.heap.size := (Array.getElem?_eq_some_iff.1 hbx5).1
          have hnc : (n : Int) ≤ (c : Int) := by omega
          go_wp2_with (first
            | (at_builtin; refine wpList_push elMail rfl _ _ rfl ho5 rfl _ rfl rfl (mc_one x) (by unfold maxLen; omega) (by omega) hs5 ?_; intro A6 c6 w6 ho6 p6; have hB6 := p6.below ho5 hB5 (Nat.le_succ _) hB5.size; have hs6 := Nat.le_trans hs5 p6.larger)
            | (at_builtin; go_must (refine wpList_cat elMail rfl _ _ rfl ho6 rfl ((hr.below hB6).cut (k := k) hk (fun h b o e => by cases e; rfl)) rfl (fun u hu => mv_one _ _ (List.mem_of_mem_drop hu)) (by unfold maxLen; omega) (by omega) hs6 ?_; intro A7 c7 w7 ho7 p7)))
          have hp : Hid (putM xs x = xs.take k ++ x :: xs.drop k) := put_new HL.out hlt hy.out ht.out HS.out HK.out
          have hlen : (xs.take k ++ x :: xs.drop k).length = k + 1 + (n - k) := by have := HL.out; simp; omega
          go_wp2_with (fail)
          go_ret
          refine ⟨A7, k + 1 + (n - k), c7, rfl, by rw [hp.out, hlen], ?_, p7.below ho6 hB6 (Nat.le_succ _) hB6.size⟩
          rw [hp.out, show mv (xs.take k ++ x :: xs.drop k) = mv (xs.take k) ++ mc x ++ (mv xs).drop (k * 4) by rw [mv_drop]; simp [mv]]
          exact own_more ho7 (Nat.le_succ _)
    · obtain rfl : k = n := by omega
      have hdec : decide ((k : Int) < (k : Int)) = false := by simp
      have hall : Hid (∀ y ∈ xs, kless y x) := by
        have := ht.out
        rw [List.take_of_length_le (by rw [HL.out]; exact Nat.le_refl _)] at this
        exact this
      have hp := Lib.hid (put_last hall.out)
      have hrr := hr.below hB
      have hbs : w.heap.size + 1 ≤ wr.heap.size := (Array.getElem?_eq_some_iff.1 hbx).1
      clear d0 d1 d2 d3
      go_wp2_with (fail)
      go_quiet (fail)
      rename_i nq
      obtain ⟨wd, hwd⟩ : ∃ wd, wd = wr.drewN nq := ⟨_, rfl⟩
      have hBd : Below w.heap.size w wd := by rw [hwd]; exact below_drewN hB _
      have hbd : wd.heap[w.heap.size]? = some (.cells #[.int .i64 x.slot, .int .i64 x.dir, .int .i64 x.v, .int .i64 x.d] 44 (0, 0)) := by rw [hwd]; exact hbx
      have hrd : Reads wd w.heap.size 4 A k ((mv xs).take (k * 4)) := (hr.below hBd).first (Nat.le_refl _)
      rw [← hwd]
      clear hwd hB hbx hrr hbs
      have hbs : w.heap.size + 1 ≤ wd.heap.size := (Array.getElem?_eq_some_iff.1 hbd).1
      have hkc : k ≤ c := by omega
      go_wp2_with (at_builtin; refine wpList_cat elMail rfl _ _ rfl (own_nil (base := w.heap.size + 1)) rfl hrd rfl (fun u hu => mv_one _ _ (List.mem_of_mem_take hu)) (by unfold maxLen; omega) (by omega) hbs ?_; intro A4 c4 w4 ho4 p4)
      have hB4 : Below w.heap.size w w4 := p4.below0 hBd hBd.size
      have hb4 := (p4.grown.block _ (Array.getElem?_eq_some_iff.1 hbd).1 (by simp)).trans hbd
      have he4 : w4.ownsRow (w.heap.size + 1) 44 4 (.slice A4 k c4) k (mv xs) := by
        rw [Nat.zero_add, List.nil_append, List.take_of_length_le (by rw [mv_len, HL.out]; exact Nat.le_refl _)] at ho4
        exact ho4
      clear ho4
      go_quiet (fail)
      generalize hw5' : w4.drewN _ = w5
      have hw5 := hw5'.symm
      clear hw5'
      have ho5 : w5.ownsRow (w.heap.size + 1) 44 4 (.slice A4 k c4) k (mv xs) := by rw [hw5]; exact he4
      have hB5 : Below w.heap.size w w5 := by rw [hw5]; exact below_drewN hB4 _
      have hbx5 : w5.heap[w.heap.size]? = some (.cells #[.int .i64 x.slot, .int .i64 x.dir, .int .i64 x.v, .int .i64 x.d] 44 (0, 0)) := by rw [hw5]; exact hb4
      clear hw5 he4 hB4 hb4 p4 hbd hrd hbs hBd
      obtain ⟨d0, d1, d2, d3⟩ := mail_box hbx5
      have hs5 : w.heap.size + 1 ≤ w5.heap.size := (Array.getElem?_eq_some_iff.1 hbx5).1
      go_wp2_with (first
        | (at_builtin; refine wpList_push elMail rfl _ _ rfl ho5 rfl _ rfl rfl (mc_one x) (by unfold maxLen; omega) (by omega) hs5 ?_; intro A6 c6 w6 ho6 p6; have hB6 := p6.below ho5 hB5 (Nat.le_succ _) hB5.size; have hs6 := Nat.le_trans hs5 p6.larger)
        | (at_builtin; go_must (refine wpList_cat elMail rfl _ _ rfl ho6 rfl (Reads.none_ (B := 0)) rfl (fun u hu => by simp at hu) (by unfold maxLen; omega) (by omega) hs6 ?_; intro A7 c7 w7 ho7 p7)))
      all_goals
        go_ret
        refine ⟨A7, k + 1, c7, rfl, by rw [hp.out]; have := HL.out; simp; omega, ?_, p7.below ho6 hB6 (Nat.le_succ _) hB6.size⟩
        rw [hp.out, show mv (xs ++ [x]) = mv xs ++ mc x ++ [] by simp [mv]]
        exact own_more ho7 (Nat.le_succ _)

set_option maxRecDepth 100000 in
theorem combine16_c (A : Option Addr) (n c : Nat) (ms : List Msg) (w : World) (hr : Reads w w.heap.size 4 A n (mv ms)) (hn : n ≤ 100000) :
    Calls Tryz.prog 68 #[.slice A n c] w fun e w' => ∃ A' n' c', e = .returned (.slice A' n' c') ∧ (combine ms).length = n' ∧ w'.ownsRow w.heap.size 44 4 (.slice A' n' c') n' (mv (combine ms)) ∧ Below w.heap.size w w' := by
  have hl := hr.mail_len
  go_enter Tryz.func68, Tryz.ntmps68
  go_wp2_with (fail)
  have HL := Lib.hid hl
  clear hl
  go_loopw [3, 4] (fun v i wr => ∃ (k n' c' : Nat) (A' : Option Addr), k ≤ n ∧ i = .int .i64 k ∧ v = .slice A' n' c' ∧ Hid ((combine (ms.take k)).length = n') ∧ n' ≤ k ∧ wr.ownsRow w.heap.size 44 4 (.slice A' n' c') n' (mv (combine (ms.take k))) ∧ Below w.heap.size w wr) (fun _ i _ => n - (intOf i).toNat)
  case atStart => exact ⟨0, 0, 0, none, Nat.zero_le _, rfl, rfl, rfl, Nat.le_refl _, own_nil, Below.refl _ _⟩
  case round =>
    obtain ⟨k, n', c', A', hk, rfl, rfl, hlen, hnk, ho, hB⟩ := hrel
    by_cases hlt : k < n
    · obtain ⟨b, o, x, rfl, hx, c0, c1, c2, c3⟩ := (hr.below hB).mail_at hlt
      have hstep : Hid (combine (ms.take (k + 1)) = putM (combine (ms.take k)) x) := by show _ = _; rw [List.take_add_one, hx.out]; exact combine_snoc _ _
      have hcap := (own_cap ho).1
      clear hr
      go_wp2_with (fail)
      refine (put_c A' n' c' _ x _ (own_reads ho) (by omega) hcap).mono ?_
      rintro e w3 ⟨A3, n3, c3', rfl, hlen3, ho3, hB3⟩
      have hl3 := Lib.hid hlen3
      have hle : n3 ≤ n' + 1 := by rw [← hlen3, ← hlen.out]; exact putM_len _ _
      have hBB := hB.trans (hB3.mono hB.size)
      have ho3 := own_more (base := w.heap.size) ho3 hB.size
      clear hlen3 ho hB3
      go_wp2_with (fail)
      go_roundw
      case rel => exact ⟨k + 1, n3, c3', A3, by omega, by go_num, rfl, by rw [hstep.out]; exact hl3.out, by omega, by rw [hstep.out]; exact ho3, hBB⟩
      case measure => simp [intOf]; omega
    · obtain rfl : k = n := by omega
      have hT : Hid (ms.take k = ms) := List.take_of_length_le (by rw [HL.out]; exact Nat.le_refl _)
      rw [hT.out] at ho hlen
      clear hr
      go_wp2_with (fail)
      go_ret
      exact ⟨A', n', c', rfl, hlen.out, ho, hB⟩
end Go.Proofs.YtichoidkemeibaaGreat
