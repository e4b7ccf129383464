/-
  The reference's Split; the same of rows of rows of messages.
-/
import Derived.Test.YtgphijfcmegdaaaMailSplit
namespace Go.Proofs.Ytgphijfcmegdaaa
open Go.RowKit

set_option maxRecDepth 100000 in
set_option maxHeartbeats 4000000 in
theorem split16_c (A : Option Addr) (n c p : Nat) (ms : List Msg) (w : World) (hp1 : 1 ≤ p) (hp2 : p ≤ 16) (hr : Reads w w.heap.size 4 A n (mv ms)) (hn : n ≤ 100000) (hm : allMay ms) :
    Calls Try.prog 18 #[.slice A n c, .int .i64 p] w fun e w' =>
      ∃ A' c' vs, e = .returned (.tuple #[.slice A' p c', .int .i64 0]) ∧ w'.ownsRow w.heap.size 22 1 (.slice A' p c') p vs ∧ RowsOwn w' w.heap.size 31 4 vs (mvs (parted ms p)) ∧ Below w.heap.size w w' := by
  have hl := Lib.hid hr.mail_len
  have hml : n ≤ maxLen := by unfold maxLen; omega
  have hq1 : ¬ (p : Int) < 1 := by omega
  have hq2 : ¬ 16 < (p : Int) := by omega
  go_enter Try.func18, Try.ntmps18
  go_wp2_with (fail)
  refine (check16_c A n c ms _ hr hml).mono ?_
  rintro e w2 ⟨rfl, hB2⟩
  rw [decide_eq_true hm]
  have HM := Lib.hid hm
  clear hm
  go_wp2_with (fail)
  go_loopw [7, 6] (fun i out wr => ∃ (k : Nat) (A5 : Option Addr) (c5 : Nat) (vs : List Value), k ≤ p ∧ i = .int .i64 k ∧ out = .slice A5 k c5 ∧ wr.ownsRow w.heap.size 22 1 (.slice A5 k c5) k vs ∧
      RowsOwn wr w.heap.size 31 4 vs (mvs ((parted ms p).take k)) ∧ Below w.heap.size w wr) (fun i _ _ => p - (intOf i).toNat)
  case atStart => exact ⟨0, none, 0, [], Nat.zero_le _, rfl, rfl, own_nil, by rw [List.take_zero]; exact rowsOwn_nil _ _ _ _, hB2⟩
  case round =>
    clear hB2
    obtain ⟨k, A5, c5, vs, hk, rfl, rfl, ho, hrs, hB⟩ := hrel
    have hsz := hB.size
    by_cases hlt : k < p
    · obtain ⟨wo, hwo⟩ : ∃ wo : World, wo = wr := ⟨_, rfl⟩
      subst hwo
      have HO := Lib.hid ho
      have HRS := Lib.hid hrs
      clear ho hrs
      go_wp2_with (fail)
      go_loopw [8, 9] (fun one kk wr => ∃ (q m : Nat) (A7 : Option Addr) (c7 : Nat), q ≤ n ∧ kk = .int .i64 q ∧ one = .slice A7 m c7 ∧ m ≤ q ∧
          wr.ownsRow wo.heap.size 31 4 (.slice A7 m c7) m (mv (ofHome (ms.take q) p k)) ∧ Below wo.heap.size wo wr) (fun _ kk _ => n - (intOf kk).toNat)
      case atStart => exact ⟨0, 0, none, 0, Nat.zero_le _, rfl, rfl, Nat.le_refl _, by rw [List.take_zero]; exact own_nil, Below.refl _ _⟩
      case round =>
        obtain ⟨q, m, A7, c7, hqn, rfl, rfl, hmq, ho7, hB7⟩ := hrel
        by_cases hqlt : q < n
        · obtain ⟨b, o, x, rfl, hx, d0, d1, d2, d3⟩ := ((hr.below hB).below (hB7.mono hsz)).mail_at hqlt
          obtain ⟨hok, hhome, hlt2⟩ := home_lt (HM.out x (List.mem_of_getElem? hx.out)) hp1 hp2
          have hstep : Hid (ofHome (ms.take (q + 1)) p k = if homeN x p = k then ofHome (ms.take q) p k ++ [x] else ofHome (ms.take q) p k) := by
            show _ = _
            rw [List.take_add_one, hx.out, Option.toList_some, ofHome_snoc]
          go_wp2_with (fail)
          refine (home06_c x.v p _).mono ?_
          rintro e w5 ⟨rfl, hB5⟩
          rw [decide_eq_true hok, hhome]
          have ho5 := own_below ho7 hB5
          have hBB := hB7.trans (hB5.mono hB7.size)
          have hsz5 := hBB.size
          clear hok hhome ho7 hB7 hB5 d0 d1 d2 d3
          by_cases hh : homeN x p = k
          · obtain ⟨b2, o2, x2, e1, hx2, d0, d1, d2, d3⟩ := ((hr.below hB).below (hBB.mono hsz)).mail_at hqlt
            cases e1
            obtain rfl : x = x2 := by have := hx.out; rw [hx2.out] at this; exact (Option.some.inj this).symm
            clear hx2
            rw [hh]
            have HH := Lib.hid hh
            clear hh
            go_wp2_with (at_builtin; refine wpList_push elMail rfl _ _ rfl ho5 rfl _ rfl rfl (mc_one x) (by unfold maxLen; omega) (by omega) hsz5 ?_; intro A4 c4 w4 ho4 p4)
            go_roundw
            case rel =>
              refine ⟨q + 1, m + 1, A4, c4, by omega, by go_num, rfl, by omega, ?_, p4.below ho5 hBB (Nat.le_refl _) hsz5⟩
              rw [hstep.out, if_pos HH.out, mv_append, show mv [x] = mc x by simp [mv]]
              exact ho4
            case measure => simp [intOf]; omega
          · have hne : ¬ ((homeN x p : Int) = (k : Int)) := by omega
            have HH := Lib.hid hh
            clear hh
            go_wp2_with (fail)
            go_roundw
            case rel =>
              refine ⟨q + 1, m, A7, c7, by omega, by go_num, rfl, by omega, ?_, hBB⟩
              rw [hstep.out, if_neg HH.out]
              exact ho5
            case measure => simp [intOf]; omega
        · have hfin : Hid (ofHome (ms.take q) p k = ofHome ms p k) := by show _ = _; rw [List.take_of_length_le (by have := hl.out; omega)]
          have ho5 := own_below HO.out hB7
          have hrs5 := HRS.out.below hB7
          have hap : Apart A5 A7 := apart_of_lt HO.out ho7 (Nat.le_refl _)
          have hapr : ApartAll vs A7 := HRS.out.apart_base ho7 (Nat.le_refl _)
          have hB5 : Below w.heap.size w wr := hB.trans (hB7.mono hsz)
          have hsz5 := hB5.size
          clear hB7
          go_wp2_with (at_builtin; refine wpList_push elRow rfl _ _ rfl ho5 rfl _ rfl rfl (one_slice _ _ _) (by unfold maxLen; omega) (by omega) hsz5 ?_; intro A4 c4 w4 ho4 p4)
          go_roundw
          case rel =>
            refine ⟨k + 1, A4, c4, vs ++ [.slice A7 m c7], by omega, by go_num, rfl, ho4, ?_, p4.below ho5 hB5 (Nat.le_refl _) hsz5⟩
            have hne : ApartAll vs A5 := hrs5.apart_ne ho5 (by decide)
            have h1 := (hrs5.kept p4 hne).snoc (own_more (p4.keep ho7 hap.symm) hsz) (hapr)
            have e : mvs ((parted ms p).take (k + 1)) = mvs ((parted ms p).take k) ++ [mv (ofHome (ms.take q) p k)] := by
              rw [List.take_add_one, parted_get _ _ _ hlt, hfin.out]; simp [mvs]
            rw [e]; exact h1
          case measure => simp [intOf]; omega
    · obtain rfl : p = k := by omega
      go_wp2_with (fail)
      go_ret2
      refine ⟨A5, c5, vs, rfl, ho, ?_, hB⟩
      rw [List.take_of_length_le (by rw [parted_len]; exact Nat.le_refl _)] at hrs
      exact hrs

/-- A contract that ends in 'Below', met in any world behind w. -/
theorem regrown_call {P : Program} {f : FuncId} {args : Array Value} {w : World} {v : Value} (h : ∀ w', Below w.heap.size w w' → Calls P f args w' fun e w'' => e = .returned v ∧ Below w'.heap.size w' w'') (d : Nat) (os : Array Obj) :
    Calls P f args (Sort.grow (redrawn w d) os) fun e w'' => e = .returned v ∧ ∃ p : Regrown, w'' = Sort.grow (redrawn w p.d) p.os :=
  Calls.regrown_of (h _ (below_regrown w d os))

set_option maxRecDepth 100000 in
theorem sameRows_c (A1 A2 : Option Addr) (n1 n2 c1 c2 : Nat) (vs1 vs2 : List Value) (xs ys : List (List Msg)) (w : World) (h1 : Reads w w.heap.size 1 A1 n1 vs1) (h2 : Reads w w.heap.size 1 A2 n2 vs2)
    (g1 : RowsRead w w.heap.size 4 vs1 (mvs xs)) (g2 : RowsRead w w.heap.size 4 vs2 (mvs ys)) (hn1 : n1 ≤ maxLen) (hn2 : n2 ≤ maxLen) :
    Calls Try.prog 21 #[.slice A1 n1 c1, .slice A2 n2 c2] w fun e w' => e = .returned (.bool (decide (xs = ys))) ∧ Below w.heap.size w w' := by
  have l1 : xs.length = n1 := by have e1 := h1.1; have e2 := g1.1; rw [mvs, List.length_map] at e2; omega
  have l2 : ys.length = n2 := by have e1 := h2.1; have e2 := g2.1; rw [mvs, List.length_map] at e2; omega
  unfold maxLen at hn1 hn2
  by_cases hn : n1 = n2
  · subst hn
    go_enter Try.func21, Try.ntmps21
    go_wp2
    go_loopw [5] (fun i wr => ∃ k : Nat, k ≤ n1 ∧ i = .int .i64 k ∧ Hid (xs.take k = ys.take k) ∧ Below w.heap.size w wr) (fun i _ => n1 - (intOf i).toNat)
    case atStart => exact ⟨0, Nat.zero_le _, rfl, rfl, Below.refl _ _⟩
    case round =>
      obtain ⟨k, hk, rfl, ht, hB⟩ := hrel
      have hsz := hB.size
      by_cases hlt : k < n1
      · have hx : xs[k]? = some (xs[k]'(by omega)) := List.getElem?_eq_getElem (by omega)
        have hy : ys[k]? = some (ys[k]'(by omega)) := List.getElem?_eq_getElem (by omega)
        generalize xs[k]'(by omega) = x at hx
        generalize ys[k]'(by omega) = y at hy
        obtain ⟨B1, m1, d1, hv1, hm1, hr1⟩ := g1.at_ (i := k) (r := mv x) (by rw [mvs, List.getElem?_map, hx]; rfl)
        obtain ⟨B2, m2, d2, hv2, hm2, hr2⟩ := g2.at_ (i := k) (r := mv y) (by rw [mvs, List.getElem?_map, hy]; rfl)
        obtain ⟨b1, o1, rfl, hc1⟩ := (h1.below hB).val_at hv1
        obtain ⟨b2, o2, rfl, hc2⟩ := (h2.below hB).val_at hv2
        have q1 := cell_regrown hc1
        have q2 := cell_regrown hc2
        have hcall := regrown_call (w := wr) (P := Try.prog) (f := 13) (fun w' hb => same16_c B1 B2 m1 m2 d1 d2 x y w' (((hr1.below hB).below (hb.mono hsz)).more (Nat.le_trans hsz hb.size)) (((hr2.below hB).below (hb.mono hsz)).more (Nat.le_trans hsz hb.size)) hm1 hm2)
        have HX := Lib.hid hx
        have HY := Lib.hid hy
        have L1 := Lib.hid l1
        have L2 := Lib.hid l2
        have HC := Lib.hid hcall
        clear l1 l2 hx hy hr1 hr2 h1 h2 g1 g2 hc1 hc2 hv1 hv2 hcall
        go_wp2
        refine wp_region_quiet_below (by kernel_rfl) (by kernel_rfl) ?_
        repeat (quiet_step (exact HC.out _ _))
        refine wpQuiet_nil ?_
        intro _ hw'
        obtain ⟨⟨dq, osq⟩, hw''⟩ := hw'
        have hB2 : Below w.heap.size w _ := hB.trans ((below_regrown wr dq osq).mono hsz)
        have HB2 := Lib.hid hB2
        clear hB2
        subst hw''
        go_wp2
        · have hne : (!decide (x = y)) = true := by assumption
          have hne : ¬ x = y := by simpa using hne
          have hf : ¬ xs = ys := fun e => hne (by
            have e1 := HX.out
            rw [e, HY.out] at e1
            injection e1 with e1; exact e1.symm)
          go_ret
          exact ⟨ret_bool (decide_eq_false hf).symm, HB2.out⟩
        · have he : (!decide (x = y)) = false := by assumption
          have he : x = y := by simpa using he
          go_roundw
          case rel =>
            refine ⟨k + 1, by omega, by go_num, ?_, HB2.out⟩
            show _ = _
            rw [List.take_add_one, List.take_add_one, ht.out, HX.out, HY.out, he]
          case measure => simp [intOf]; omega
      · obtain rfl : n1 = k := by omega
        have hf : Hid (xs = ys) := by
          have := ht.out
          rw [List.take_of_length_le (by omega), List.take_of_length_le (by omega)] at this
          exact this
        clear l1 l2
        go_wp2
        go_ret
        exact ⟨ret_bool (decide_eq_true hf.out).symm, hB⟩
  · have hf : Hid (¬ xs = ys) := fun e => hn (by rw [← l1, ← l2, e])
    clear l1 l2
    go_enter Try.func21, Try.ntmps21
    go_wp2
    go_ret
    exact ⟨ret_bool (decide_eq_false hf.out).symm, Below.refl _ _⟩
end Go.Proofs.Ytgphijfcmegdaaa
