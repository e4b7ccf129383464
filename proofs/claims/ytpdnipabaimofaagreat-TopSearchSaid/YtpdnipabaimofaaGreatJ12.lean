/-
  container/heap's up: the walk.
-/
import Derived.Test.YtpdnipabaimofaaGreatJ11
namespace Go.Proofs.YtpdnipabaimofaaGreat
open Go.RowKit

/-- What the walk keeps of a queue: the same hits, in another order. -/
structure SameQ (q q' : List Hit) : Prop where
  len : q'.length = q.length
  mem : ∀ y, y ∈ q' ↔ y ∈ q
theorem SameQ.refl (q : List Hit) : SameQ q q := ⟨rfl, fun _ => Iff.rfl⟩
theorem SameQ.trans {q q' q'' : List Hit} (h : SameQ q q') (k : SameQ q' q'') : SameQ q q'' := ⟨k.len.trans h.len, fun y => (k.mem y).trans (h.mem y)⟩
theorem SameQ.swap {q : List Hit} {i j : Nat} (hi : i < q.length) (hj : j < q.length) : SameQ q (swapL q i j) := ⟨swapL_len _ _ _, mem_swap hi hj⟩
def IfaceP (b : Nat) : Value := .iface 214 (.pointer (some ⟨b, 0, none⟩))
section
variable {b c : Nat} {k : Int} {A : Option Addr} {q : List Hit} {W : World}
set_option maxRecDepth 100000 in
set_option maxHeartbeats 4000000 in
theorem up_c (j : Nat) (h : PileAt b k A c q W) (hq : q.length ≤ 1000001) (hj : j < q.length) (hu : upInv q j q.length) : Calls Tryz.prog 177 #[.iface 214 (.pointer (some ⟨b, 0, none⟩)), .int .i64 (j : Int)] W fun e w' => e = .returned (.tuple #[]) ∧ ∃ q', Hid (SameQ q q' ∧ heapN q' q'.length) ∧ PileAt b k A c q' w' ∧ Touch b A A W w' := by
  have HP := Lib.hid h
  have HU := Lib.hid hu
  clear h hu
  go_enter Tryz.func177, Tryz.ntmps177
  go_wp2_with (fail)
  go_loopw [1] (fun i wr => ∃ (m : Nat) (d : List Hit), m < q.length ∧ i = .int .i64 m ∧ Hid (SameQ q d) ∧ Hid (upInv d m d.length) ∧ PileAt b k A c d wr ∧ Touch b A A W wr) (fun i _ => (intOf i).toNat)
  case atStart => exact ⟨j, q, hj, rfl, SameQ.refl q, HU.out, HP.out, Touch.refl⟩
  case round =>
    clear HP HU hj
    obtain ⟨m, d, hm, rfl, hs, hu, hp, ht⟩ := hrel
    have HL : Hid (d.length = q.length) := hs.out.len
    have HPd := Lib.hid hp
    have HT := Lib.hid ht
    clear hp ht
    rcases Nat.eq_zero_or_pos m with rfl | hpos
    · have w0 : IntKind.i64.wrap (((0 : Nat) : Int) - 1) = -1 := by decide
      go_wp2_with (fail)
      go_end0
      exact ⟨rfl, d, ⟨hs.out, up_end hu.out (.inl rfl)⟩, HPd.out, HT.out⟩
    · obtain ⟨p, hp⟩ : ∃ p, p = par m := ⟨_, rfl⟩
      have hpm : p < m := by rw [hp]; unfold par; omega
      have e1 : IntKind.i64.wrap ((m : Int) - 1) = (m : Int) - 1 := IntWalk.i64_in _ (by omega)
      have e1' : wrap64 ((m : Int) - 1) = (m : Int) - 1 := IntWalk.wrap64_in _ (by omega)
      have e2 : ((m : Int) - 1).tdiv 2 = (p : Int) := by
        rw [hp]; unfold par
        rw [Int.tdiv_eq_ediv_of_nonneg (by omega)]; omega
      have e3 : IntKind.i64.wrap (p : Int) = p := IntWalk.i64_in _ (by omega)
      have e3' : wrap64 (p : Int) = p := IntWalk.wrap64_in _ (by omega)
      have e4 : ((p : Int) == (m : Int)) = false := by rw [beq_eq_false_iff_ne]; omega
      have HPM := Lib.hid hp
      clear hp
      go_wp2_with (fail)
      have hm' : m < d.length := by rw [HL.out]; exact hm
      refine (pileLess_c m p wr HPd.out hm' (by omega)).mono ?_
      rintro e w1 ⟨rfl, hB1⟩
      have HP1 := Lib.hid (HPd.out.below hB1)
      have HT1 := Lib.hid (HT.out.trans (Touch.of_below (b := b) (A := A) hB1))
      clear hB1 HPd HT
      by_cases hl : hle (nthH d m) (nthH d p)
      · have hh : Hid (heapN d d.length) := up_end hu.out (.inr (by rw [HPM.out] at hl; exact hl))
        rw [decide_eq_false (fun c => c hl)]
        clear hl hm'
        go_wp2_with (fail)
        go_end0
        exact ⟨rfl, d, ⟨hs.out, hh.out⟩, HP1.out, HT1.out⟩
      · have hu' : Hid (upInv (swapL d p m) p (swapL d p m).length) := by
          show upInv _ _ _
          rw [swapL_len, HPM.out]
          exact up_step hu.out (Nat.le_refl _) hpos hm' (by rw [← HPM.out]; exact hl)
        have hs' : Hid (SameQ q (swapL d p m)) := hs.out.trans (.swap (by omega) hm')
        rw [decide_eq_true hl]
        have HMM := Lib.hid hm'
        clear hl hm'
        go_wp2_with (fail)
        refine (pileSwap_c p m HP1.out (by have := HMM.out; omega) HMM.out).mono ?_
        rintro e w2 ⟨rfl, hp2, ht2⟩
        have HP2 := Lib.hid hp2
        have HT2 := Lib.hid (HT1.out.trans ht2)
        clear hp2 ht2 HP1 HT1
        go_wp2_with (fail)
        go_roundw
        case rel => exact ⟨p, swapL d p m, by omega, rfl, hs', hu', HP2.out, HT2.out⟩
        case measure => simp [intOf]; omega
end
end Go.Proofs.YtpdnipabaimofaaGreat
