/-
  The walk of the law TurnOrders.
-/
import Derived.Test.YtpkhlikeggolbaaTurns
import Derived.Test.YtpkhlikeggolbaaTotal17
namespace Go.Proofs.Ytpkhlikeggolbaa
open Go.RowKit

set_option maxRecDepth 100000 in
theorem turnOrders_far (n pick : Int) (A2 A3 : Option Addr) (l2 l3 c2 c3 : Nat) (parts : Int) (w : World) (hl2 : l2 ≤ maxLen) (hl3 : l3 ≤ maxLen) (h : (100 < n ∧ n ≤ 1000) ∨ 150 < l2 ∨ 100 < l3) :
    Calls Try.prog 5 #[.int .i64 n, .int .i64 pick, .slice A2 l2 c2, .slice A3 l3 c3, .int .i64 parts] w fun e w' => e = .returned (.bool true) ∧ Below w.heap.size w w' := by
  unfold maxLen at hl2 hl3
  by_cases h1 : 100 < n
  · by_cases h2 : n ≤ 1000
    · clear h
      go_enter Try.func5, Try.ntmps5
      go_wp2
      go_ret
      exact ⟨rfl, Below.refl _ _⟩
    · by_cases h3 : 150 < l2
      · clear h
        go_enter Try.func5, Try.ntmps5
        go_wp2
        go_ret
        exact ⟨rfl, Below.refl _ _⟩
      · have h4 : 100 < l3 := by omega
        clear h
        go_enter Try.func5, Try.ntmps5
        go_wp2
        go_ret
        exact ⟨rfl, Below.refl _ _⟩
  · by_cases h3 : 150 < l2
    · clear h
      go_enter Try.func5, Try.ntmps5
      go_wp2
      go_ret
      exact ⟨rfl, Below.refl _ _⟩
    · have h4 : 100 < l3 := by omega
      clear h
      go_enter Try.func5, Try.ntmps5
      go_wp2
      go_ret
      exact ⟨rfl, Below.refl _ _⟩

set_option maxRecDepth 100000 in
set_option maxHeartbeats 1000000 in
theorem turnOrders_c (n pick : Int) (A2 A3 : Option Addr) (l2 l3 c2 c3 : Nat) (parts : Int) (ps : List Int) (ls : List Msg) (w : World) (hn : n ≤ 100 ∨ 1000 < n) (hn2 : n ≤ 9223372036854775807) (hl2 : l2 ≤ 150) (hl3 : l3 ≤ 100)
    (h2 : Reads w w.heap.size 1 A2 l2 (iv ps)) (h3 : Reads w w.heap.size 4 A3 l3 (mv ls)) :
    Calls Try.prog 5 #[.int .i64 n, .int .i64 pick, .slice A2 l2 c2, .slice A3 l3 c3, .int .i64 parts] w fun e w' => e = .returned (.bool true) ∧ Below w.heap.size w w' := by
  have d2 : decide ((150 : Int) < (l2 : Int)) = false := by simp; omega
  have hm2 : l2 ≤ maxLen := by unfold maxLen; omega
  rcases hn with hn | hn
  all_goals
    go_enter Try.func5, Try.ntmps5
    go_wp2_with (fail)
    refine (own_c A2 l2 c2 ps w h2 (by omega)).mono ?_
    rintro e w1 ⟨A11, c11, rfl, ho11, hB1⟩
    have h3a := (h3.below hB1).more hB1.size
    go_wp2_with (fail)
    refine (own16_c A3 l3 c3 ls w1 h3a (by omega)).mono ?_
    rintro e w2 ⟨A12, c12, rfl, ho12, hB2⟩
    have ho11b := own_below ho11 hB2
    have hB := hB1.trans (hB2.mono hB1.size)
    have h2b := (h2.below hB).more hB.size
    clear ho11 hB2 h3a
    go_wp2_with (fail)
    refine (pick_t n pick w2 hn2).mono ?_
    rintro e wx ⟨rfl, rfl⟩
    go_wp2_with (fail)
    refine (refPick_t n pick w2 hn2).mono ?_
    rintro e wx ⟨rfl, rfl⟩
    go_wp2_with (fail)
    refine (order_t A2 n l2 c2 ps w2 h2b hm2).mono ?_
    rintro e w3 ⟨A17, c17, k17, rfl, hk17, ho17, hB3⟩
    have ho11c := own_below ho11b hB3
    have ho12c := own_below ho12 hB3
    have hB := hB.trans (hB3.mono hB.size)
    clear ho11b ho12 hB3
    go_wp2_with (fail)
    refine (refOrder_t A11 n l2 c11 ps w3 (own_reads ho11c) hm2).mono ?_
    rintro e w4 ⟨A19, c19, k19, rfl, hk19, ho19, hB4⟩
    have ho11d := own_below ho11c hB4
    have ho12d := own_below ho12c hB4
    have ho17d := own_below ho17 hB4
    have hB := hB.trans (hB4.mono hB.size)
    have h2d := (h2.below hB).more hB.size
    have h3d := (h3.below hB).more hB.size
    clear ho11c ho12c ho17 hB4
    go_wp2_with (fail)
    refine (mails_c A3 A2 l3 c3 l2 c2 ls ps w4 h3d (by omega) h2d hm2).mono ?_
    rintro e w5 ⟨A21, c21, rfl, ho21, hB5⟩
    have hBB := hB5
    have hs4 := hB.size
    clear hB5
    go_wp2_with (fail)
    refine (refMails_c A12 A11 l3 c12 l2 c11 ls ps w5 (own_reads (own_below ho12d hBB)) (by omega) (own_reads (own_below ho11d hBB)) hm2).mono ?_
    rintro e w6 ⟨A22, c22, rfl, ho22, hB6⟩
    have ho21b := own_below ho21 hB6
    have hBB := hBB.trans (hB6.mono hBB.size)
    clear ho21 hB6
    have h2e := ((h2d.below hBB)).more hBB.size
    go_wp2_with (fail)
    refine (deal_t A2 l2 c2 parts ps w6 h2e (by omega)).mono ?_
    rintro e w7 ⟨A23, c23, k23, vs, rfl, hk23, ho23, hrs23, hB7⟩
    have ho21c := own_below ho21b hB7
    have ho22c := own_below ho22 hB7
    have hs6 := hBB.size
    have hBB := hBB.trans (hB7.mono hBB.size)
    clear ho21b ho22 hB7 h2e
    go_wp2_with (fail)
    refine (refDeal_t A11 l2 c11 parts ps w7 (own_reads (own_below ho11d hBB)) (by omega)).mono ?_
    rintro e w8 ⟨A24, c24, k24, vs', rfl, hk24, ho24, hrs24, hB8⟩
    have ho21d := own_below ho21c hB8
    have ho22d := own_below ho22c hB8
    have ho23d := own_below ho23 hB8
    have hrs23d := hrs23.below hB8
    have hBB := hBB.trans (hB8.mono hBB.size)
    clear ho21c ho22c hB8 ho23 hrs23
    have e17 := own_below ho17d hBB
    have e19 := own_below ho19 hBB
    go_wp2_with (fail)
    refine (ints_c A17 A19 k17 k19 c17 c19 _ _ w8 (own_reads e17) (own_reads e19) (by unfold maxLen; omega) (by unfold maxLen; omega)).mono ?_
    rintro e w9 ⟨rfl, hB9⟩
    have ho21e := own_below ho21d hB9
    have ho22e := own_below ho22d hB9
    have ho23e := own_below ho23d hB9
    have hrs23e := hrs23d.below hB9
    have ho24e := own_below ho24 hB9
    have hrs24e := hrs24.below hB9
    have hBB := hBB.trans (hB9.mono hBB.size)
    clear ho21d ho22d hB9 ho23d hrs23d ho24 hrs24 e17 e19
    go_wp2_with (fail)
    refine (same16_c A21 A22 l3 l3 c21 c22 _ _ w9 (own_reads ho21e) (own_reads ho22e) (by unfold maxLen; omega) (by unfold maxLen; omega)).mono ?_
    rintro e w10 ⟨rfl, hB10⟩
    have ho21f := own_below ho21e hB10
    have ho23f := own_below ho23e hB10
    have hrs23f := hrs23e.below hB10
    have ho24f := own_below ho24e hB10
    have hrs24f := hrs24e.below hB10
    have hBB := hBB.trans (hB10.mono hBB.size)
    clear ho21e ho22e hB10 ho23e hrs23e ho24e hrs24e
    go_wp2_with (fail)
    refine (same06_c A23 A24 k23 k24 c23 c24 vs vs' _ _ w10 (own_reads ho23f) (own_reads ho24f) hrs23f.reads hrs24f.reads (by unfold maxLen; omega) (by unfold maxLen; omega)).mono ?_
    rintro e w11 ⟨rfl, hB11⟩
    have ho21g := own_more (base := w4.heap.size) (own_below ho21f hB11) (Nat.le_refl _)
    have ho23g := own_more (base := w4.heap.size) (own_below ho23f hB11) hs6
    have hrs23g := (hrs23f.below hB11).more hs6
    have hBB := hBB.trans (hB11.mono hBB.size)
    clear ho21f hB11 ho23f hrs23f ho24f hrs24f
    have hne23 : Apart A23 A21 := own_ne ho23g ho21g (by decide)
    have hner : ApartAll vs A21 := hrs23g.apart_ne ho21g (by decide)
    have HD := Lib.hid (And.intro ho11d (And.intro ho12d (And.intro h2d h3d)))
    clear ho11d ho12d h2d h3d h2 h3 h2b hm2 ho17d ho19 hs6
    go_wp2
    go_loopw [26] (fun i wr => ∃ (k : Nat) (cs : List Value), k ≤ l3 ∧ i = .int .i64 k ∧ wr.ownsRow w4.heap.size 43 4 (.slice A21 l3 c21) l3 cs ∧
        wr.ownsRow w4.heap.size 22 1 (.slice A23 k23 c23) k23 vs ∧ RowsOwn wr w4.heap.size 3 1 vs (ivs (dealV ps parts)) ∧ Below w4.heap.size w4 wr) (fun i _ => l3 - (intOf i).toNat)
    case atStart => exact ⟨0, _, Nat.zero_le _, rfl, ho21g, ho23g, hrs23g, hBB⟩
    case round =>
      clear ho21g ho23g hrs23g hBB
      obtain ⟨k, cs, hk, rfl, hx, hz, hrz, hBw⟩ := hrel
      by_cases hlt : k < l3
      · obtain ⟨g, rfl⟩ := own_head hx (by omega)
        obtain ⟨v, hcv⟩ := own_some (k := k * 4 + 3) hx (by omega)
        have hfv := hx.frozenAt (k * 4 + 3)
        have hst := Lib.hid (hx.stored (k * 4 + 3) (.int .i64 (-7)))
        have hp := pushed_store hx (k * 4 + 3) (.int .i64 (-7))
        have hz' := Lib.hid (hp.keep hz hne23)
        have hrz' := Lib.hid (hrz.kept hp hner)
        have hBw' := Lib.hid (hp.below hx hBw (Nat.le_refl _) hBw.size)
        clear hz hrz hp hx hBw
        go_wp2
        go_roundw
        case rel => exact ⟨k + 1, _, by omega, by go_num, hst.out.1, hz'.out, hrz'.out, hBw'.out⟩
        case measure => simp [intOf]; omega
      · clear hx
        go_wp2
        go_loopw [27] (fun i wr => ∃ (k : Nat) (rs : List (List Value)), k ≤ k23 ∧ i = .int .i64 k ∧
            wr.ownsRow w4.heap.size 22 1 (.slice A23 k23 c23) k23 vs ∧ RowsOwn wr w4.heap.size 3 1 vs rs ∧ Below w4.heap.size w4 wr) (fun i _ => k23 - (intOf i).toNat)
        case atStart => exact ⟨0, _, Nat.zero_le _, rfl, hz, hrz, hBw⟩
        case round =>
          clear hz hrz hBw
          obtain ⟨k2, rs, hk2, rfl, hz, hrz, hBw⟩ := hrel
          by_cases hlt2 : k2 < k23
          · have hvl : k2 < vs.length := by have := hz.1; omega
            have hrl : rs[k2]? = some (rs[k2]'(by rw [← hrz.1]; exact hvl)) := List.getElem?_eq_getElem _
            obtain ⟨Ar, mr, cr, hv, hor⟩ := hrz.at_ hrl
            have hmr := own_cap hor
            obtain ⟨g23, rfl⟩ := own_head hz (by omega)
            have HV := Lib.hid hv
            have hm63 : mr ≤ 9223372036854775807 := by have h1 := hmr.1; have h2 := hmr.2; unfold maxLen at h2; omega
            clear hv hor hmr hrl hvl hlt
            go_wp2
            go_loopw [28] (fun i wr => ∃ (j : Nat) (rs : List (List Value)), j ≤ mr ∧ i = .int .i64 j ∧
                wr.ownsRow w4.heap.size 22 1 (.slice (some ⟨g23, 0, none⟩) k23 c23) k23 vs ∧ RowsOwn wr w4.heap.size 3 1 vs rs ∧ Below w4.heap.size w4 wr) (fun i _ => mr - (intOf i).toNat)
            case atStart => exact ⟨0, _, Nat.zero_le _, rfl, hz, hrz, hBw⟩
            case round =>
              clear hz hrz hBw
              obtain ⟨j, rs, hj, rfl, hz, hrz, hBw⟩ := hrel
              obtain ⟨r, hr, hor⟩ := hrz.at_v HV.out
              have hcz := own_slice_at hz HV.out
              by_cases hlt3 : j < mr
              · obtain ⟨gr, rfl⟩ := own_head hor (by omega)
                obtain ⟨v, hcv⟩ := own_some (k := j) hor (by omega)
                have hfv := hor.frozenAt j
                have hp := pushed_store hor j (.int .i64 (-7))
                have hz' := Lib.hid (hp.keep hz (own_ne hz hor (by decide)))
                have hrz' := Lib.hid (hrz.store_ HV.out hr hor j (.int .i64 (-7)))
                have hBw' := Lib.hid (hp.below hor hBw (Nat.le_refl _) hBw.size)
                clear hz hrz hp hor hBw hr
                go_wp2
                go_roundw
                case rel => exact ⟨j + 1, _, by omega, by go_num, hz'.out, hrz'.out, hBw'.out⟩
                case measure => simp [intOf]; omega
              · clear hor hr
                go_wp2
                go_roundw
                case rel => exact ⟨k2 + 1, rs, by omega, by go_num, hz, hrz, hBw⟩
                case measure => simp [intOf]; omega
          · clear hz hrz
            obtain ⟨ho11d, ho12d, h2d, h3d⟩ := HD.out
            have hBf := hB.trans (hBw.mono hs4)
            go_wp2_with (fail)
            refine (turns_c _).mono ?_
            rintro e w12 ⟨rfl, hB12⟩
            have hBw2 := hBw.trans (hB12.mono hBw.size)
            have hBf2 := hBf.trans (hB12.mono hBf.size)
            clear hB12
            go_wp2_with (fail)
            refine (ints_c A2 A11 l2 l2 c2 c11 _ _ w12 ((h2d.below hBw2).more hBw2.size) (own_reads (own_below ho11d hBw2)) (by unfold maxLen; omega) (by unfold maxLen; omega)).mono ?_
            rintro e w13 ⟨rfl, hB13⟩
            have hBw3 := hBw2.trans (hB13.mono hBw2.size)
            have hBf3 := hBf2.trans (hB13.mono hBf2.size)
            clear hB13
            go_wp2_with (fail)
            refine (same16_c A3 A12 l3 l3 c3 c12 _ _ w13 ((h3d.below hBw3).more hBw3.size) (own_reads (own_below ho12d hBw3)) (by unfold maxLen; omega) (by unfold maxLen; omega)).mono ?_
            rintro e w14 ⟨rfl, hB14⟩
            have hBf4 := hBf3.trans (hB14.mono hBf3.size)
            go_wp2_with (fail)
            go_ret
            exact ⟨ret_bool (by simp), hBf4⟩
end Go.Proofs.Ytpkhlikeggolbaa
