/-
  The program's reader: number.
-/
import Derived.Test.YtmnjlhifjjainaaNRead
import Derived.Test.YtmnjlhifjjainaaOr64
namespace Go.Proofs.Ytmnjlhifjjainaa
open Go.RowKit

/-- A reader at block b: the bytes, the place, whether there was none. -/
def RdrAt (w : World) (b : Nat) (s : ByteArray) (p : Int) (bad : Bool) : Prop := w.heap[b]? = some (.cells #[.string s, .int .i64 p, .bool bad] 159 (0, 0))

theorem RdrAt.cells {w : World} {b : Nat} {s : ByteArray} {p : Int} {bad : Bool} (h : RdrAt w b s p bad) :
    w.cell? ⟨b, 0, none⟩ = some (.string s) ∧ w.cell? ⟨b, 1, none⟩ = some (.int .i64 p) ∧ w.cell? ⟨b, 2, none⟩ = some (.bool bad) := by
  refine ⟨?_, ?_, ?_⟩ <;> · rw [Lib.cell_of_heap h]; rfl
theorem RdrAt.frozen {w : World} {b : Nat} {s : ByteArray} {p : Int} {bad : Bool} (h : RdrAt w b s p bad) (k : Nat) : w.frozen? ⟨b, k, none⟩ = false := Lib.frozen_of_heap h k

theorem RdrAt.lt {w : World} {b : Nat} {s : ByteArray} {p : Int} {bad : Bool} (h : RdrAt w b s p bad) : b < w.heap.size := (Array.getElem?_eq_some_iff.1 h).1
theorem RdrAt.setBad {w : World} {b : Nat} {s : ByteArray} {p : Int} {bad : Bool} (h : RdrAt w b s p bad) (bad' : Bool) : RdrAt (w.setCell ⟨b, 2, none⟩ (.bool bad')) b s p bad' := by
  have := heap_setCell_same w b 2 _ _ (.bool bad') h
  simpa [RdrAt] using this
theorem RdrAt.setPlace {w : World} {b : Nat} {s : ByteArray} {p : Int} {bad : Bool} (h : RdrAt w b s p bad) (p' : Int) : RdrAt (w.setCell ⟨b, 1, none⟩ (.int .i64 p')) b s p' bad := by
  have := heap_setCell_same w b 1 _ _ (.int .i64 p') h
  simpa [RdrAt] using this
theorem grown_set (w : World) (b k : Nat) (v : Value) : w.grownBy (w.setCell ⟨b, k, none⟩ v) (some b) :=
  ⟨rfl, rfl, rfl, by simp, fun j _ hj => heap_setCell_other w ⟨b, k, none⟩ j v (fun e => hj (by rw [e]))⟩
theorem RdrAt.below {w w' : World} {b : Nat} {s : ByteArray} {p : Int} {bad : Bool} (h : RdrAt w b s p bad) (hb : Below w.heap.size w w') : RdrAt w' b s p bad := (hb.block b h.lt).trans h

theorem only_trans_row {a w w' : World} {b : Nat} (h : a.grownBy w (some b)) (k : w.grownBy w' (some b)) : a.grownBy w' (some b) :=
  ⟨k.os.trans h.os, k.tape.trans h.tape, k.output.trans h.output, Nat.le_trans h.size k.size, fun j hj hne => (k.block j (Nat.lt_of_lt_of_le hj h.size) hne).trans (h.block j hj hne)⟩

/-- What a reader's call of number leaves. -/
def NumDone (w w' : World) (b : Nat) (s : ByteArray) (e : Ending) : Option (Nat × Nat) → Prop
  | some (n, q) => e = .returned (.int .i64 n) ∧ RdrAt w' b s q false ∧ w.grownBy w' (some b)
  | none => (∃ x p', e = .returned (.int .i64 x) ∧ RdrAt w' b s p' true) ∧ w.grownBy w' (some b)

set_option maxRecDepth 100000 in
set_option maxHeartbeats 1000000 in
theorem rdrNumber_out (b : Nat) (s : ByteArray) (p : Int) (w : World) (hr : RdrAt w b s p false) (h : ¬ (0 ≤ p ∧ p ≤ s.size)) :
    Calls Try.prog 96 #[.pointer (some ⟨b, 0, none⟩)] w fun e w' => NumDone w w' b s e (rdAt s p) := by
  have ha : rdAt s p = none := by unfold rdAt; rw [if_neg h]
  rw [ha]
  obtain ⟨c0, c1, c2⟩ := hr.cells
  have f0 := hr.frozen 0
  have f1 := hr.frozen 1
  have f2 := hr.frozen 2
  by_cases h1 : p < 0
  · have d1 : decide (p < 0) = true := by simpa using h1
    go_enter Try.func96, Try.ntmps96
    go_wp2_with (fail)
    go_quiet (fail)
    go_wp2_with (fail)
    go_ret
    exact ⟨⟨_, _, rfl, (show RdrAt (w.drewN _) b s p false from hr).setBad true⟩, only_trans_row (only_drewN (only_refl w (some b)) _) (grown_set _ b 2 _)⟩
  · have h2 : (s.size : Int) < p := by omega
    have d1 : decide (p < 0) = false := by simpa using h1
    have d2 : decide ((s.size : Int) < p) = true := by simpa using h2
    go_enter Try.func96, Try.ntmps96
    go_wp2_with (fail)
    go_quiet (fail)
    go_wp2_with (fail)
    go_ret
    exact ⟨⟨_, _, rfl, (show RdrAt (w.drewN _) b s p false from hr).setBad true⟩, only_trans_row (only_drewN (only_refl w (some b)) _) (grown_set _ b 2 _)⟩

theorem rdNum_test (l : List UInt8) (j N : Nat) (c : UInt8) (h5 : j < 5) (hc : l[j]? = some c) (hlt : c.toNat < 128) (hd : ∀ k d, k < j → l[k]? = some d → 128 ≤ d.toNat) (hN : valN (l.take (j + 1)) = N) :
    rdNum l = if N ≤ maxNum ∧ ¬ (c.toNat = 0 ∧ 0 < j) then some (N, j + 1) else none := by
  rw [rdNum_at l j N c h5 hc hlt hd hN]
  have hll : (l.take j).length = j := by
    have := (List.getElem?_eq_some_iff.1 hc).1
    rw [List.length_take]; omega
  have e : l.take (j + 1) = l.take j ++ [c] := by rw [List.take_add_one, hc]; rfl
  have hdd : ∀ d ∈ l.take j, 128 ≤ d.toNat := by
    intro d hm
    obtain ⟨k, hk⟩ := List.getElem?_of_mem hm
    have hkj : k < j := by have := (List.getElem?_eq_some_iff.1 hk).1; omega
    rw [List.getElem?_take_of_lt hkj] at hk
    exact hd k d hkj hk
  have key := digits_iff (l.take j) c (by omega) hlt hdd
  rw [← e, hN, hll] at key
  by_cases h : N ≤ maxNum ∧ numBytes N = l.take (j + 1)
  · rw [if_pos h, if_pos (key.1 h)]
  · rw [if_neg h, if_neg (fun h' => h (key.2 h'))]

theorem num_exit {w wr : World} {b : Nat} {s : ByteArray} {p j N n : Nat} {l : List UInt8} {c : UInt8} {bad : Bool} (hR : RdrAt wr b s p false) (hG : w.grownBy wr (some b))
    (h5 : j < 5) (hc : l[j]? = some c) (hlt : c.toNat < 128) (hd : ∀ k d, k < j → l[k]? = some d → 128 ≤ d.toNat) (hN : valN (l.take (j + 1)) = N)
    (hbad : bad = true ↔ ¬ (N ≤ maxNum ∧ ¬ (c.toNat = 0 ∧ 0 < j))) :
    NumDone w (((wr.drewN n).setCell ⟨b, 2, none⟩ (.bool bad)).setCell ⟨b, 1, none⟩ (.int .i64 ((p : Int) + ((j : Int) + 1)))) b s (.returned (.int .i64 N)) ((rdNum l).map fun x => (x.1, p + x.2)) := by
  have r1 : RdrAt (((wr.drewN n).setCell ⟨b, 2, none⟩ (.bool bad)).setCell ⟨b, 1, none⟩ (.int .i64 ((p : Int) + ((j : Int) + 1)))) b s ((p : Int) + ((j : Int) + 1)) bad :=
    ((show RdrAt (wr.drewN n) b s p false from hR).setBad bad).setPlace _
  have g1 : w.grownBy (((wr.drewN n).setCell ⟨b, 2, none⟩ (.bool bad)).setCell ⟨b, 1, none⟩ (.int .i64 ((p : Int) + ((j : Int) + 1)))) (some b) :=
    only_trans_row (only_trans_row (only_drewN hG n) (grown_set _ b 2 _)) (grown_set _ b 1 _)
  rw [rdNum_test l j N c h5 hc hlt hd hN]
  by_cases h : N ≤ maxNum ∧ ¬ (c.toNat = 0 ∧ 0 < j)
  · rw [if_pos h]
    have hb : bad = false := by
      cases bad with
      | false => rfl
      | true => exact absurd h (hbad.1 rfl)
    subst hb
    refine ⟨rfl, ?_, g1⟩
    rw [show ((p + (j + 1) : Nat) : Int) = (p : Int) + ((j : Int) + 1) by omega]
    exact r1
  · rw [if_neg h]
    have hb : bad = true := hbad.2 h
    subst hb
    exact ⟨⟨_, _, rfl, r1⟩, g1⟩

set_option maxRecDepth 100000 in
set_option maxHeartbeats 1000000 in
theorem rdrNumber_in (b : Nat) (s : ByteArray) (p : Nat) (w : World) (hr : RdrAt w b s p false) (h : p ≤ s.size) (hs : s.size ≤ 1000000) :
    Calls Try.prog 96 #[.pointer (some ⟨b, 0, none⟩)] w fun e w' => NumDone w w' b s e (rdAt s p) := by
  have ha : rdAt s p = (rdNum (s.data.toList.drop p)).map fun x => (x.1, p + x.2) := by unfold rdAt; rw [if_pos (by omega)]; rfl
  rw [ha]
  clear ha
  obtain ⟨l, hl⟩ : ∃ l, s.data.toList.drop p = l := ⟨_, rfl⟩
  have HL := Lib.hid hl
  rw [hl]
  clear hl
  have dp : decide ((p : Int) < 0) = false := by simp
  have ds : decide (s.size < p) = false := by simpa using h
  obtain ⟨c0, c1, c2⟩ := hr.cells
  have f0 := hr.frozen 0
  have f1 := hr.frozen 1
  have f2 := hr.frozen 2
  go_enter Try.func96, Try.ntmps96
  go_wp2_with (fail)
  go_quiet (fail)
  go_wp2_with (fail)
  go_quiet (fail)
  go_wp2_with (fail)
  have hmin : min 5 ((s.size : Int) - (p : Int)) = ((min 5 (s.size - p) : Nat) : Int) := by omega
  rw [hmin]
  obtain ⟨m, hm⟩ : ∃ m, min 5 (s.size - p) = m := ⟨_, rfl⟩
  rw [hm]
  have HM := Lib.hid hm
  clear hmin hm c0 c1 c2 f0 f1 f2
  go_loopw [3, 43] (fun n i wr => ∃ j V : Nat, j ≤ m ∧ n = .int .i64 (V : Int) ∧ i = .int .i64 (j : Int) ∧ Hid (V = valN (l.take j)) ∧ Hid (∀ k d, k < j → l[k]? = some d → 128 ≤ d.toNat) ∧ RdrAt wr b s p false ∧ w.grownBy wr (some b)) (fun _ i _ => m - (intOf i).toNat)
  case atStart => exact ⟨0, 0, by omega, rfl, rfl, by show _ = _; simp [valN], fun k d h => absurd h (by omega), hr, only_drewN (only_drewN (only_refl w (some b)) _) _⟩
  case round =>
    obtain ⟨j, V, hjm, rfl, rfl, hV, hd, hR, hG⟩ := hrel
    clear hr
    obtain ⟨c0, c1, c2⟩ := hR.cells
    have f0 := hR.frozen 0
    have f1 := hR.frozen 1
    have f2 := hR.frozen 2
    by_cases hin : j < m
    · have h1 : p + j < s.size := by have := HM.out; omega
      have h2 : j < 5 := by have := HM.out; omega
      have d3 : (s[p + j].toNat : Int) < 256 := by have := s[p + j].toNat_lt; omega
      have i0 : IntKind.i64.wrap ((p : Int) + (j : Int)) = (p : Int) + (j : Int) := IntWalk.i64_in _ (by omega)
      have i1 : (0 : Int) ≤ (p : Int) + (j : Int) := by omega
      have i2 : ((p : Int) + (j : Int)).toNat = p + j := by omega
      have i4 : (p : Int) + (j : Int) < (s.size : Int) := by omega
      have hlc : l[j]? = some s[p + j] := by
        rw [← HL.out, List.getElem?_drop]
        have : p + j < s.data.size := h1
        rw [Array.getElem?_toList, Array.getElem?_eq_getElem this]; rfl
      have hll : (l.take j).length = j := by
        have := (List.getElem?_eq_some_iff.1 hlc).1
        rw [List.length_take]; omega
      have hor : bits .or .i64 (V : Int) (wrap64 ((s[p + j].toNat : Int) % 128 * 2 ^ (7 * j))) = ((valN (l.take (j + 1)) : Nat) : Int) := by
        have h3 := valN_lt (l.take j)
        rw [hll, ← hV.out] at h3
        have h4 := or_digit V (s[p + j].toNat % 128) j h3 (Nat.mod_lt _ (by omega)) h2
        rw [List.take_add_one, hlc, Option.toList_some, valN_snoc, ← hV.out, hll]
        exact h4
      obtain ⟨N, hN⟩ : ∃ N, valN (l.take (j + 1)) = N := ⟨_, rfl⟩
      rw [hN] at hor
      have HC := Lib.hid hlc
      have HN := Lib.hid hN
      clear hlc hll hN
      go_wp2_with (fail)
      go_quiet (fail)
      go_wp2_with (fail)
      · go_ret
        rename_i g1 g2 g3
        exact num_exit hR hG h2 HC.out (by omega) hd.out HN.out (by unfold maxNum; simp; omega)
      · go_ret
        rename_i g1 g2 g3
        exact num_exit hR hG h2 HC.out (by omega) hd.out HN.out (by unfold maxNum; simp; omega)
      · go_ret
        rename_i g1 g2
        exact num_exit hR hG h2 HC.out (by omega) hd.out HN.out (by unfold maxNum; simp; omega)
      · go_roundw
        case rel =>
          rename_i g1
          refine ⟨j + 1, N, by omega, rfl, by go_num, by show _ = _; rw [HN.out], ?_, hR, only_drewN hG _⟩
          show ∀ k d, _
          intro k d hk hkd
          rcases Nat.lt_or_ge k j with h3 | h3
          · exact hd.out k d h3 hkd
          · obtain rfl : k = j := by omega
            rw [HC.out] at hkd
            injection hkd with hkd
            subst hkd
            omega
        case measure => simp [intOf] <;> omega
    · have hrd : rdNum l = none := by
        unfold rdNum
        rw [scan_none 5 l (fun k d hk hkd => ?_)]
        rcases Nat.lt_or_ge k j with h3 | h3
        · exact hd.out k d h3 hkd
        · exfalso
          have h4 := (List.getElem?_eq_some_iff.1 hkd).1
          rw [← HL.out, List.length_drop] at h4
          have h5 : s.data.toList.length = s.size := by rw [Array.length_toList]; rfl
          have h6 := HM.out
          omega
      have HR := Lib.hid hrd
      clear hrd
      go_wp2_with (fail)
      go_ret
      rw [HR.out]
      exact ⟨⟨_, _, rfl, hR.setBad true⟩, only_trans_row hG (grown_set _ b 2 _)⟩

theorem rdrNumber_c (b : Nat) (s : ByteArray) (p : Int) (w : World) (hr : RdrAt w b s p false) (hs : s.size ≤ 1000000) :
    Calls Try.prog 96 #[.pointer (some ⟨b, 0, none⟩)] w fun e w' => NumDone w w' b s e (rdAt s p) := by
  by_cases h : 0 ≤ p ∧ p ≤ s.size
  · obtain ⟨q, rfl⟩ : ∃ q : Nat, p = q := ⟨p.toNat, by omega⟩
    exact rdrNumber_in b s q w hr (by omega) hs
  · exact rdrNumber_out b s p w hr h
end Go.Proofs.Ytmnjlhifjjainaa
