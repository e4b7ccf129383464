/-
  container/heap's down: the walk. (Printed by wip/gendown.py.)
-/
import Derived.Test.YtpdnipabaimofaaGreatJ12
namespace Go.Proofs.YtpdnipabaimofaaGreat
open Go.RowKit

section
variable {b c : Nat} {k : Int} {A : Option Addr} {q : List Hit} {W : World}
set_option maxRecDepth 100000 in
set_option maxHeartbeats 8000000 in
theorem down_c (n : Nat) (h : PileAt b k A c q W) (hq : q.length ≤ 1000001) (hn : n ≤ q.length) (hu : downInv q 0 n) : Calls Tryz.prog 192 #[.iface 214 (.pointer (some ⟨b, 0, none⟩)), .int .i64 0, .int .i64 (n : Int)] W fun e w' => (∃ v, e = .returned v) ∧ ∃ q', Hid (SameQ q q' ∧ heapN q' n ∧ ∀ m, n ≤ m → nthH q' m = nthH q m) ∧ PileAt b k A c q' w' ∧ Touch b A A W w' := by
  have HP := Lib.hid h
  have HU := Lib.hid hu
  clear h hu
  go_enter Tryz.func192, Tryz.ntmps192
  go_wp2_with (fail)
  go_loopw [7] (fun i wr => ∃ (m : Nat) (d : List Hit), m ≤ n ∧ i = .int .i64 m ∧ Hid (SameQ q d) ∧ Hid (downInv d m n) ∧ Hid (∀ j, n ≤ j → nthH d j = nthH q j) ∧ PileAt b k A c d wr ∧ Touch b A A W wr) (fun i _ => n + 1 - (intOf i).toNat)
  case atStart => exact ⟨0, q, Nat.zero_le _, rfl, SameQ.refl q, HU.out, fun _ _ => rfl, HP.out, Touch.refl⟩
  case round =>
    clear HP HU
    obtain ⟨i, d, hi, rfl, hs, hu, hk, hp, ht⟩ := hrel
    have HL : Hid (d.length = q.length) := hs.out.len
    have HPd := Lib.hid hp
    have HT := Lib.hid ht
    clear hp ht
    obtain ⟨j1, hj1⟩ : ∃ j1, j1 = 2 * i + 1 := ⟨_, rfl⟩
    obtain ⟨j2, hj2⟩ : ∃ j2, j2 = 2 * i + 2 := ⟨_, rfl⟩
    have e1 : IntKind.i64.wrap (2 * (i : Int)) = 2 * (i : Int) := IntWalk.i64_in _ (by omega)
    have e1' : wrap64 (2 * (i : Int)) = 2 * (i : Int) := IntWalk.wrap64_in _ (by omega)
    have e2 : 2 * (i : Int) + 1 = (j1 : Int) := by omega
    have e3 : IntKind.i64.wrap (j1 : Int) = (j1 : Int) := IntWalk.i64_in _ (by omega)
    have e3' : wrap64 (j1 : Int) = (j1 : Int) := IntWalk.wrap64_in _ (by omega)
    have e4 : (j1 : Int) + 1 = (j2 : Int) := by omega
    have e5 : IntKind.i64.wrap (j2 : Int) = (j2 : Int) := IntWalk.i64_in _ (by omega)
    have e5' : wrap64 (j2 : Int) = (j2 : Int) := IntWalk.wrap64_in _ (by omega)
    have e6 : ¬ (j1 : Int) < 0 := by omega
    have H1 := Lib.hid hj1
    have H2 := Lib.hid hj2
    by_cases c1 : j1 < n
    · have g1 : ¬ (n : Int) ≤ (j1 : Int) := by omega
      have g1' : decide ((n : Int) ≤ (j1 : Int)) = false := decide_eq_false g1
      by_cases c2 : j2 < n
      · have g2 : (j2 : Int) < (n : Int) := by omega
        clear hj1 hj2
        go_wp2_with (fail)
        refine (pileLess_c j2 j1 _ HPd.out (by have := HL.out; have := H1.out; have := H2.out; omega) (by have := HL.out; have := H1.out; have := H2.out; omega)).mono ?_
        rintro e w1 ⟨rfl, hB1⟩
        have HP1 := Lib.hid (HPd.out.below hB1)
        have HT1 := Lib.hid (HT.out.trans (Touch.of_below (b := b) (A := A) hB1))
        clear hB1 HPd HT
        by_cases hl1 : hle (nthH d j2) (nthH d j1)
        · have hbest : Hid (∀ c, 0 < c → c < n → par c = i → hle (nthH d c) (nthH d j1)) := fun c h0 hc hpc => by
            have := H1.out; have := H2.out
            have hcc : c = j1 ∨ c = j2 := by unfold par at hpc; omega
            rcases hcc with rfl | rfl
            · exact hle_refl _
            · exact hl1
          rw [decide_eq_false (fun c => c hl1)]
          clear hl1
          go_wp2_with (fail)
          refine (pileLess_c j1 i _ HP1.out (by have := HL.out; have := H1.out; have := H2.out; omega) (by have := HL.out; have := H1.out; have := H2.out; omega)).mono ?_
          rintro e w3 ⟨rfl, hB3⟩
          have HP3 := Lib.hid (HP1.out.below hB3)
          have HT3 := Lib.hid (HT1.out.trans (Touch.of_below (b := b) (A := A) hB3))
          clear hB3 HP1 HT1
          by_cases hl : hle (nthH d j1) (nthH d i)
          · have hh : Hid (heapN d n) := down_end hu.out fun c h0 hc hpc => hle_trans (hbest.out c h0 hc hpc) hl
            rw [decide_eq_false (fun c => c hl)]
            clear hl
            go_wp2_with (fail)
            go_ret
            exact ⟨⟨_, rfl⟩, d, ⟨hs.out, hh.out, hk.out⟩, HP3.out, HT3.out⟩
          · have hu' : Hid (downInv (swapL d i j1) j1 n) := down_step hu.out (by have := HL.out; have := H1.out; have := H2.out; omega) (by have := H1.out; have := H2.out; omega) (by omega) (by have := H1.out; have := H2.out; unfold par; omega) hbest.out hl
            have hs' : Hid (SameQ q (swapL d i j1)) := hs.out.trans (.swap (by have := HL.out; have := H1.out; have := H2.out; omega) (by have := HL.out; have := H1.out; have := H2.out; omega))
            have hk' : Hid (∀ m, n ≤ m → nthH (swapL d i j1) m = nthH q m) := fun m hm => by
              rw [nthH_swap (by have := HL.out; have := H1.out; have := H2.out; omega) (by have := HL.out; have := H1.out; have := H2.out; omega), if_neg (by have := H1.out; have := H2.out; omega), if_neg (by have := H1.out; have := H2.out; omega)]
              exact hk.out m hm
            rw [decide_eq_true hl]
            clear hl
            go_wp2_with (fail)
            refine (pileSwap_c i j1 HP3.out (by have := HL.out; have := H1.out; have := H2.out; omega) (by have := HL.out; have := H1.out; have := H2.out; omega)).mono ?_
            rintro e w4 ⟨rfl, hp4, ht4⟩
            have HP4 := Lib.hid hp4
            have HT4 := Lib.hid (HT3.out.trans ht4)
            clear hp4 ht4 HP3 HT3
            go_wp2_with (fail)
            go_roundw
            case rel => exact ⟨j1, swapL d i j1, by omega, rfl, hs', hu', hk', HP4.out, HT4.out⟩
            case measure => have := H1.out; have := H2.out; simp [intOf]; omega
        · have hbest : Hid (∀ c, 0 < c → c < n → par c = i → hle (nthH d c) (nthH d j2)) := fun c h0 hc hpc => by
            have := H1.out; have := H2.out
            have hcc : c = j1 ∨ c = j2 := by unfold par at hpc; omega
            rcases hcc with rfl | rfl
            · exact hle_total hl1
            · exact hle_refl _
          rw [decide_eq_true hl1]
          clear hl1
          go_wp2_with (fail)
          refine (pileLess_c j2 i _ HP1.out (by have := HL.out; have := H1.out; have := H2.out; omega) (by have := HL.out; have := H1.out; have := H2.out; omega)).mono ?_
          rintro e w3 ⟨rfl, hB3⟩
          have HP3 := Lib.hid (HP1.out.below hB3)
          have HT3 := Lib.hid (HT1.out.trans (Touch.of_below (b := b) (A := A) hB3))
          clear hB3 HP1 HT1
          by_cases hl : hle (nthH d j2) (nthH d i)
          · have hh : Hid (heapN d n) := down_end hu.out fun c h0 hc hpc => hle_trans (hbest.out c h0 hc hpc) hl
            rw [decide_eq_false (fun c => c hl)]
            clear hl
            go_wp2_with (fail)
            go_ret
            exact ⟨⟨_, rfl⟩, d, ⟨hs.out, hh.out, hk.out⟩, HP3.out, HT3.out⟩
          · have hu' : Hid (downInv (swapL d i j2) j2 n) := down_step hu.out (by have := HL.out; have := H1.out; have := H2.out; omega) (by have := H1.out; have := H2.out; omega) (by omega) (by have := H1.out; have := H2.out; unfold par; omega) hbest.out hl
            have hs' : Hid (SameQ q (swapL d i j2)) := hs.out.trans (.swap (by have := HL.out; have := H1.out; have := H2.out; omega) (by have := HL.out; have := H1.out; have := H2.out; omega))
            have hk' : Hid (∀ m, n ≤ m → nthH (swapL d i j2) m = nthH q m) := fun m hm => by
              rw [nthH_swap (by have := HL.out; have := H1.out; have := H2.out; omega) (by have := HL.out; have := H1.out; have := H2.out; omega), if_neg (by have := H1.out; have := H2.out; omega), if_neg (by have := H1.out; have := H2.out; omega)]
              exact hk.out m hm
            rw [decide_eq_true hl]
            clear hl
            go_wp2_with (fail)
            refine (pileSwap_c i j2 HP3.out (by have := HL.out; have := H1.out; have := H2.out; omega) (by have := HL.out; have := H1.out; have := H2.out; omega)).mono ?_
            rintro e w4 ⟨rfl, hp4, ht4⟩
            have HP4 := Lib.hid hp4
            have HT4 := Lib.hid (HT3.out.trans ht4)
            clear hp4 ht4 HP3 HT3
            go_wp2_with (fail)
            go_roundw
            case rel => exact ⟨j2, swapL d i j2, by omega, rfl, hs', hu', hk', HP4.out, HT4.out⟩
            case measure => have := H1.out; have := H2.out; simp [intOf]; omega
      · have g2 : ¬ (j2 : Int) < (n : Int) := by omega
        have g2' : decide ((j2 : Int) < (n : Int)) = false := decide_eq_false g2
        have hbest : Hid (∀ c, 0 < c → c < n → par c = i → hle (nthH d c) (nthH d j1)) := fun c h0 hc hpc => by
          have hcc : c = j1 := by unfold par at hpc; omega
          rw [hcc]
          exact hle_refl _
        clear hj1 hj2
        go_wp2_with (fail)
        refine (pileLess_c j1 i _ HPd.out (by have := HL.out; have := H1.out; have := H2.out; omega) (by have := HL.out; have := H1.out; have := H2.out; omega)).mono ?_
        rintro e w3 ⟨rfl, hB3⟩
        have HP3 := Lib.hid (HPd.out.below hB3)
        have HT3 := Lib.hid (HT.out.trans (Touch.of_below (b := b) (A := A) hB3))
        clear hB3 HPd HT
        by_cases hl : hle (nthH d j1) (nthH d i)
        · have hh : Hid (heapN d n) := down_end hu.out fun c h0 hc hpc => hle_trans (hbest.out c h0 hc hpc) hl
          rw [decide_eq_false (fun c => c hl)]
          clear hl
          go_wp2_with (fail)
          go_ret
          exact ⟨⟨_, rfl⟩, d, ⟨hs.out, hh.out, hk.out⟩, HP3.out, HT3.out⟩
        · have hu' : Hid (downInv (swapL d i j1) j1 n) := down_step hu.out (by have := HL.out; have := H1.out; have := H2.out; omega) (by have := H1.out; have := H2.out; omega) (by omega) (by have := H1.out; have := H2.out; unfold par; omega) hbest.out hl
          have hs' : Hid (SameQ q (swapL d i j1)) := hs.out.trans (.swap (by have := HL.out; have := H1.out; have := H2.out; omega) (by have := HL.out; have := H1.out; have := H2.out; omega))
          have hk' : Hid (∀ m, n ≤ m → nthH (swapL d i j1) m = nthH q m) := fun m hm => by
            rw [nthH_swap (by have := HL.out; have := H1.out; have := H2.out; omega) (by have := HL.out; have := H1.out; have := H2.out; omega), if_neg (by have := H1.out; have := H2.out; omega), if_neg (by have := H1.out; have := H2.out; omega)]
            exact hk.out m hm
          rw [decide_eq_true hl]
          clear hl
          go_wp2_with (fail)
          refine (pileSwap_c i j1 HP3.out (by have := HL.out; have := H1.out; have := H2.out; omega) (by have := HL.out; have := H1.out; have := H2.out; omega)).mono ?_
          rintro e w4 ⟨rfl, hp4, ht4⟩
          have HP4 := Lib.hid hp4
          have HT4 := Lib.hid (HT3.out.trans ht4)
          clear hp4 ht4 HP3 HT3
          go_wp2_with (fail)
          go_roundw
          case rel => exact ⟨j1, swapL d i j1, by omega, rfl, hs', hu', hk', HP4.out, HT4.out⟩
          case measure => have := H1.out; have := H2.out; simp [intOf]; omega
    · have g1 : (n : Int) ≤ (j1 : Int) := by omega
      have hh : Hid (heapN d n) := down_end hu.out fun c h0 hc hpc => by unfold par at hpc; omega
      clear hj1 hj2
      go_wp2_with (fail)
      go_ret
      exact ⟨⟨_, rfl⟩, d, ⟨hs.out, hh.out, hk.out⟩, HPd.out, HT.out⟩
end
end Go.Proofs.YtpdnipabaimofaaGreat
