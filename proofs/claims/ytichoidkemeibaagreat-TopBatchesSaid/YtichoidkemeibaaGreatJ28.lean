/-
  The program's reader: number.
  wire.ReadNumber.
  Print of messages: the program's and the reference's.
  The reference's Print of messages.
-/
import Derived.Test.YtichoidkemeibaaGreatJ27
import Derived.Test.YtichoidkemeibaaGreatJ02
import Derived.Test.YtichoidkemeibaaGreatJ05
namespace Go.Proofs.YtichoidkemeibaaGreat
open Go.RowKit

/-- A reader at block b: the bytes, the place, whether there was none. -/
def RdrAt (w : World) (b : Nat) (s : ByteArray) (p : Int) (bad : Bool) : Prop := w.heap[b]? = some (.cells #[.string s, .int .i64 p, .bool bad] 196 (0, 0))

theorem RdrAt.cells {w : World} {b : Nat} {s : ByteArray} {p : Int} {bad : Bool} (h : RdrAt w b s p bad) :
    w.cell? ⟨b, 0, none⟩ = some (.string s) ∧ w.cell? ⟨b, 1, none⟩ = some (.int .i64 p) ∧ w.cell? ⟨b, 2, none⟩ = some (.bool bad) := by
  refine ⟨?_, ?_, ?_⟩ <;> · rw [Lib.cell_of_heap h]; rfl
theorem RdrAt.frozen {w : World} {b : Nat} {s : ByteArray} {p : Int} {bad : Bool} (h : RdrAt w b s p bad) (k : Nat) : w.frozen? ⟨b, k, none⟩ = false := Lib.frozen_of_heap h k

theorem RdrAt.lt {w : World} {b : Nat} {s : ByteArray} {p : Int} {bad : Bool} (h : RdrAt w b s p bad) : b < w.heap.size := (Array.getElem?_eq_some_iff.1 h).1
theorem RdrAt.setBad {w : World} {b : Nat} {s : ByteArray} {p : Int} {bad : Bool} (h : RdrAt w b s p bad) (bad' : Bool) : RdrAt (w.setCell ⟨b, 2, none⟩ (.bool bad')) b s p bad' := by
  have := heap_setCell_same w b 2 _ _ (.bool bad') h
  simpa [RdrAt] using this
theorem RdrAt.setPlace {w : World} {b : Nat} {s : ByteArray} {p : Int} {bad : Bool} (h : RdrAt w b s p bad) (p' : Int) : RdrAt (w.setCell ⟨b, 1, none⟩ (.int .i64 p')) b s p' bad := by
  have := heap_setCell_same w b 1 _ _ (.int .i64 p') h
  simpa [RdrAt] using this
theorem grown_set (w : World) (b k : Nat) (v : Value) : w.grownBy (w.setCell ⟨b, k, none⟩ v) (some b) :=
  ⟨rfl, rfl, rfl, by simp, fun j _ hj => heap_setCell_other w ⟨b, k, none⟩ j v (fun e => hj (by rw [e]))⟩
theorem RdrAt.below {w w' : World} {b : Nat} {s : ByteArray} {p : Int} {bad : Bool} (h : RdrAt w b s p bad) (hb : Below w.heap.size w w') : RdrAt w' b s p bad := (hb.block b h.lt).trans h

theorem only_trans_row {a w w' : World} {b : Nat} (h : a.grownBy w (some b)) (k : w.grownBy w' (some b)) : a.grownBy w' (some b) :=
  ⟨k.os.trans h.os, k.tape.trans h.tape, k.output.trans h.output, Nat.le_trans h.size k.size, fun j hj hne => (k.block j (Nat.lt_of_lt_of_le hj h.size) hne).trans (h.block j hj hne)⟩

/-- What a reader's call of number leaves. -/
def NumDone (w w' : World) (b : Nat) (s : ByteArray) (e : Ending) : Option (Nat × Nat) → Prop
  | some (n, q) => e = .returned (.int .i64 n) ∧ RdrAt w' b s q false ∧ w.grownBy w' (some b)
  | none => (∃ x p', e = .returned (.int .i64 x) ∧ RdrAt w' b s p' true) ∧ w.grownBy w' (some b)

set_option maxRecDepth 100000 in
set_option maxHeartbeats 1000000 in
theorem rdrNumber_out (b : Nat) (s : ByteArray) (p : Int) (w : World) (hr : RdrAt w b s p false) (h : ¬ (0 ≤ p ∧ p ≤ s.size)) :
    Calls Tryz.prog 120 #[.pointer (some ⟨b, 0, none⟩)] w fun e w' => NumDone w w' b s e (rdAt s p) := by
  have ha : rdAt s p = none := by unfold rdAt; rw [if_neg h]
  rw [ha]
  obtain ⟨c0, c1, c2⟩ := hr.cells
  have f0 := hr.frozen 0
  have f1 := hr.frozen 1
  have f2 := hr.frozen 2
  by_cases h1 : p < 0
  · have d1 : decide (p < 0) = true := by simpa using h1
    go_enter Tryz.func120, Tryz.ntmps120
    go_wp2_with (fail)
    go_quiet (fail)
    go_wp2_with (fail)
    go_ret
    exact ⟨⟨_, _, rfl, (show RdrAt (w.drewN _) b s p false from hr).setBad true⟩, only_trans_row (only_drewN (only_refl w (some b)) _) (grown_set _ b 2 _)⟩
  · have h2 : (s.size : Int) < p := by omega
    have d1 : decide (p < 0) = false := by simpa using h1
    have d2 : decide ((s.size : Int) < p) = true := by simpa using h2
    go_enter Tryz.func120, Tryz.ntmps120
    go_wp2_with (fail)
    go_quiet (fail)
    go_wp2_with (fail)
    go_ret
    exact ⟨⟨_, _, rfl, (show RdrAt (w.drewN _) b s p false from hr).setBad true⟩, only_trans_row (only_drewN (only_refl w (some b)) _) (grown_set _ b 2 _)⟩

theorem rdNum_test (l : List UInt8) (j N : Nat) (c : UInt8) (h5 : j < 5) (hc : l[j]? = some c) (hlt : c.toNat < 128) (hd : ∀ k d, k < j → l[k]? = some d → 128 ≤ d.toNat) (hN : valN (l.take (j + 1)) = N) :
    rdNum l = if N ≤ maxNum ∧ ¬ (c.toNat = 0 ∧ 0 < j) then some (N, j + 1) else none := by
  rw [rdNum_at l j N c h5 hc hlt hd hN]
  have hll : (l.take j).length = j := by
    have := (List.getElem?_eq_some_iff.1 hc).1
    rw [List.length_take]; omega
  have e : l.take (j + 1) = l.take j ++ [c] := by rw [List.take_add_one, hc]; rfl
  have hdd : ∀ d ∈ l.take j, 128 ≤ d.toNat := by
    intro d hm
    obtain ⟨k, hk⟩ := List.getElem?_of_mem hm
    have hkj : k < j := by have := (List.getElem?_eq_some_iff.1 hk).1; omega
    rw [List.getElem?_take_of_lt hkj] at hk
    exact hd k d hkj hk
  have key := digits_iff (l.take j) c (by omega) hlt hdd
  rw [← e, hN, hll] at key
  by_cases h : N ≤ maxNum ∧ numBytes N = l.take (j + 1)
  · rw [if_pos h, if_pos (key.1 h)]
  · rw [if_neg h, if_neg (fun h' => h (key.2 h'))]

theorem num_exit {w wr : World} {b : Nat} {s : ByteArray} {p j N n : Nat} {l : List UInt8} {c : UInt8} {bad : Bool} (hR : RdrAt wr b s p false) (hG : w.grownBy wr (some b))
    (h5 : j < 5) (hc : l[j]? = some c) (hlt : c.toNat < 128) (hd : ∀ k d, k < j → l[k]? = some d → 128 ≤ d.toNat) (hN : valN (l.take (j + 1)) = N)
    (hbad : bad = true ↔ ¬ (N ≤ maxNum ∧ ¬ (c.toNat = 0 ∧ 0 < j))) :
    NumDone w (((wr.drewN n).setCell ⟨b, 2, none⟩ (.bool bad)).setCell ⟨b, 1, none⟩ (.int .i64 ((p : Int) + ((j : Int) + 1)))) b s (.returned (.int .i64 N)) ((rdNum l).map fun x => (x.1, p + x.2)) := by
  have r1 : RdrAt (((wr.drewN n).setCell ⟨b, 2, none⟩ (.bool bad)).setCell ⟨b, 1, none⟩ (.int .i64 ((p : Int) + ((j : Int) + 1)))) b s ((p : Int) + ((j : Int) + 1)) bad :=
    ((show RdrAt (wr.drewN n) b s p false from hR).setBad bad).setPlace _
  have g1 : w.grownBy (((wr.drewN n).setCell ⟨b, 2, none⟩ (.bool bad)).setCell ⟨b, 1, none⟩ (.int .i64 ((p : Int) + ((j : Int) + 1)))) (some b) :=
    only_trans_row (only_trans_row (only_drewN hG n) (grown_set _ b 2 _)) (grown_set _ b 1 _)
  rw [rdNum_test l j N c h5 hc hlt hd hN]
  by_cases h : N ≤ maxNum ∧ ¬ (c.toNat = 0 ∧ 0 < j)
  · rw [if_pos h]
    have hb : bad = false := by
      cases bad with
      | false => rfl
      | true => exact absurd h (hbad.1 rfl)
    subst hb
    refine ⟨rfl, ?_, g1⟩
    rw [show ((p + (j + 1) : Nat) : Int) = (p : Int) + ((j : Int) + 1) by omega]
    exact r1
  · rw [if_neg h]
    have hb : bad = true := hbad.2 h
    subst hb
    exact ⟨⟨_, _, rfl, r1⟩, g1⟩

set_option maxRecDepth 100000 in
set_option maxHeartbeats 1000000 in
theorem rdrNumber_in (b : Nat) (s : ByteArray) (p : Nat) (w : World) (hr : RdrAt w b s p false) (h : p ≤ s.size) (hs : s.size ≤ 1000000) :
    Calls Tryz.prog 120 #[.pointer (some ⟨b, 0, none⟩)] w fun e w' => NumDone w w' b s e (rdAt s p) := by
  have ha : rdAt s p = (rdNum (s.data.toList.drop p)).map fun x => (x.1, p + x.2) := by unfold rdAt; rw [if_pos (by omega)]; rfl
  rw [ha]
  clear ha
  obtain ⟨l, hl⟩ : ∃ l, s.data.toList.drop p = l := ⟨_, rfl⟩
  have HL := Lib.hid hl
  rw [hl]
  clear hl
  have dp : decide ((p : Int) < 0) = false := by simp
  have ds : decide (s.size < p) = false := by simpa using h
  obtain ⟨c0, c1, c2⟩ := hr.cells
  have f0 := hr.frozen 0
  have f1 := hr.frozen 1
  have f2 := hr.frozen 2
  go_enter Tryz.func120, Tryz.ntmps120
  go_wp2_with (fail)
  go_quiet (fail)
  go_wp2_with (fail)
  go_quiet (fail)
  go_wp2_with (fail)
  have hmin : min 5 ((s.size : Int) - (p : Int)) = ((min 5 (s.size - p) : Nat) : Int) := by omega
  rw [hmin]
  obtain ⟨m, hm⟩ : ∃ m, min 5 (s.size - p) = m := ⟨_, rfl⟩
  rw [hm]
  have HM := Lib.hid hm
  clear hmin hm c0 c1 c2 f0 f1 f2
  go_loopw [3, 43] (fun n i wr => ∃ j V : Nat, j ≤ m ∧ n = .int .i64 (V : Int) ∧ i = .int .i64 (j : Int) ∧ Hid (V = valN (l.take j)) ∧ Hid (∀ k d, k < j → l[k]? = some d → 128 ≤ d.toNat) ∧ RdrAt wr b s p false ∧ w.grownBy wr (some b)) (fun _ i _ => m - (intOf i).toNat)
  case atStart => exact ⟨0, 0, by omega, rfl, rfl, by show _ = _; simp [valN], fun k d h => absurd h (by omega), hr, only_drewN (only_drewN (only_refl w (some b)) _) _⟩
  case round =>
    obtain ⟨j, V, hjm, rfl, rfl, hV, hd, hR, hG⟩ := hrel
    clear hr
    obtain ⟨c0, c1, c2⟩ := hR.cells
    have f0 := hR.frozen 0
    have f1 := hR.frozen 1
    have f2 := hR.frozen 2
    by_cases hin : j < m
    · have h1 : p + j < s.size := by have := HM.out; omega
      have h2 : j < 5 := by have := HM.out; omega
      have d3 : (s[p + j].toNat : Int) < 256 := by have := s[p + j].toNat_lt; omega
      have i0 : IntKind.i64.wrap ((p : Int) + (j : Int)) = (p : Int) + (j : Int) := IntWalk.i64_in _ (by omega)
      have i1 : (0 : Int) ≤ (p : Int) + (j : Int) := by omega
      have i2 : ((p : Int) + (j : Int)).toNat = p + j := by omega
      have i4 : (p : Int) + (j : Int) < (s.size : Int) := by omega
      have hlc : l[j]? = some s[p + j] := by
        rw [← HL.out, List.getElem?_drop]
        have : p + j < s.data.size := h1
        rw [Array.getElem?_toList, Array.getElem?_eq_getElem this]; rfl
      have hll : (l.take j).length = j := by
        have := (List.getElem?_eq_some_iff.1 hlc).1
        rw [List.length_take]; omega
      have hor : bits .or .i64 (V : Int) (wrap64 ((s[p + j].toNat : Int) % 128 * 2 ^ (7 * j))) = ((valN (l.take (j + 1)) : Nat) : Int) := by
        have h3 := valN_lt (l.take j)
        rw [hll, ← hV.out] at h3
        have h4 := or_digit V (s[p + j].toNat % 128) j h3 (Nat.mod_lt _ (by omega)) h2
        rw [List.take_add_one, hlc, Option.toList_some, valN_snoc, ← hV.out, hll]
        exact h4
      obtain ⟨N, hN⟩ : ∃ N, valN (l.take (j + 1)) = N := ⟨_, rfl⟩
      rw [hN] at hor
      have HC := Lib.hid hlc
      have HN := Lib.hid hN
      clear hlc hll hN
      go_wp2_with (fail)
      go_quiet (fail)
      go_wp2_with (fail)
      · go_ret
        rename_i g1 g2 g3
        exact num_exit hR hG h2 HC.out (by omega) hd.out HN.out (by unfold maxNum; simp; omega)
      · go_ret
        rename_i g1 g2 g3
        exact num_exit hR hG h2 HC.out (by omega) hd.out HN.out (by unfold maxNum; simp; omega)
      · go_ret
        rename_i g1 g2
        exact num_exit hR hG h2 HC.out (by omega) hd.out HN.out (by unfold maxNum; simp; omega)
      · go_roundw
        case rel =>
          rename_i g1
          refine ⟨j + 1, N, by omega, rfl, by go_num, by show _ = _; rw [HN.out], ?_, hR, only_drewN hG _⟩
          show ∀ k d, _
          intro k d hk hkd
          rcases Nat.lt_or_ge k j with h3 | h3
          · exact hd.out k d h3 hkd
          · obtain rfl : k = j := by omega
            rw [HC.out] at hkd
            injection hkd with hkd
            subst hkd
            omega
        case measure => simp [intOf] <;> omega
    · have hrd : rdNum l = none := by
        unfold rdNum
        rw [scan_none 5 l (fun k d hk hkd => ?_)]
        rcases Nat.lt_or_ge k j with h3 | h3
        · exact hd.out k d h3 hkd
        · exfalso
          have h4 := (List.getElem?_eq_some_iff.1 hkd).1
          rw [← HL.out, List.length_drop] at h4
          have h5 : s.data.toList.length = s.size := by rw [Array.length_toList]; rfl
          have h6 := HM.out
          omega
      have HR := Lib.hid hrd
      clear hrd
      go_wp2_with (fail)
      go_ret
      rw [HR.out]
      exact ⟨⟨_, _, rfl, hR.setBad true⟩, only_trans_row hG (grown_set _ b 2 _)⟩

theorem rdrNumber_c (b : Nat) (s : ByteArray) (p : Int) (w : World) (hr : RdrAt w b s p false) (hs : s.size ≤ 1000000) :
    Calls Tryz.prog 120 #[.pointer (some ⟨b, 0, none⟩)] w fun e w' => NumDone w w' b s e (rdAt s p) := by
  by_cases h : 0 ≤ p ∧ p ≤ s.size
  · obtain ⟨q, rfl⟩ : ∃ q : Nat, p = q := ⟨p.toNat, by omega⟩
    exact rdrNumber_in b s q w hr (by omega) hs
  · exact rdrNumber_out b s p w hr h
end Go.Proofs.YtichoidkemeibaaGreat

namespace Go.Proofs.YtichoidkemeibaaGreat
open Go.RowKit

theorem part_num (v : Value) (w : World) : Calls Tryz.prog 119 #[v] w fun e w' => e = .returned (.func (.func 120) #[v] #[]) ∧ w' = w := by
  go_enter Tryz.func119, Tryz.ntmps119
  go_wp2
  go_ret
  exact ⟨rfl, rfl⟩
theorem rdr_new (s : ByteArray) (p : Int) (w : World) : RdrAt (w.alloc (.cells #[.string s, .int .i64 p, .bool false] 196)) w.heap.size s p false := World.alloc_heap_new w _

theorem below_rdr {w w2 : World} {s : ByteArray} {p : Int} (hG : (w.alloc (.cells #[.string s, .int .i64 p, .bool false] 196)).grownBy w2 (some w.heap.size)) : Below w.heap.size w w2 :=
  (((Below.refl _ w).alloc (Nat.le_refl _) _).grown hG (by simp) (fun k e => by cases e; exact Nat.le_refl _))

set_option maxHeartbeats 1000000 in
theorem read_num (s : ByteArray) (p : Int) (w : World) (hs : s.size ≤ 1000000) :
    Calls Tryz.prog 118 #[.string s, .int .i64 p, .func (.func 119) #[] #[]] w fun e w' => e = .returned (numAns (rdAt s p)) ∧ Below w.heap.size w w' := by
  go_enter Tryz.func118, Tryz.ntmps118
  go_wp2_with (fail)
  refine (part_num _ _).mono ?_
  rintro e w1 ⟨rfl, rfl⟩
  go_wp2_with (fail)
  refine (rdrNumber_c _ s p _ (rdr_new s p w) hs).mono ?_
  rintro e w2 hnd
  cases hx : rdAt s p with
  | none =>
    rw [hx] at hnd
    obtain ⟨⟨x, p', rfl, hR⟩, hG⟩ := hnd
    obtain ⟨c0, c1, c2⟩ := hR.cells
    have hB := below_rdr hG
    have HX := Lib.hid hx
    clear hx hG
    go_wp2_with (fail)
    go_ret3
    exact ⟨by rw [HX.out]; rfl, hB⟩
  | some y =>
    obtain ⟨n, q⟩ := y
    rw [hx] at hnd
    obtain ⟨rfl, hR, hG⟩ := hnd
    obtain ⟨c0, c1, c2⟩ := hR.cells
    have hB := below_rdr hG
    have HX := Lib.hid hx
    clear hx hG
    go_wp2_with (fail)
    go_quiet (fail)
    go_wp2_with (fail)
    go_ret3
    exact ⟨by rw [HX.out]; rfl, below_drewN hB _⟩

theorem readNumber_c (s : ByteArray) (p : Int) (w : World) (hs : s.size ≤ 1000000) :
    Calls Tryz.prog 83 #[.string s, .int .i64 p] w fun e w' => e = .returned (numAns (rdAt s p)) ∧ Below w.heap.size w w' := by
  go_enter Tryz.func83, Tryz.ntmps83
  go_wp2_with (fail)
  refine (read_num s p w hs).mono ?_
  rintro e w1 ⟨rfl, hB⟩
  cases hx : rdAt s p with
  | none =>
    unfold numAns
    go_wp2_with (fail)
    go_ret3
    exact ⟨by rw [hx]; rfl, hB⟩
  | some y =>
    obtain ⟨n, q⟩ := y
    unfold numAns
    go_wp2_with (fail)
    go_ret3
    exact ⟨by rw [hx]; rfl, hB⟩

theorem readNumberT (s : ByteArray) (p : Int) (w : World) (hs : s.size ≤ 1000000) :
    Calls Tryz.prog 83 #[.string s, .int .i64 p] w fun e w' => e = .returned (.tuple #[.int .i64 (anNum (rdAt s p)), .int .i64 (anPlace (rdAt s p)), .bool (rdAt s p).isSome]) ∧ Below w.heap.size w w' := by
  rw [← numAns_all]; exact readNumber_c s p w hs
end Go.Proofs.YtichoidkemeibaaGreat

namespace Go.Proofs.YtichoidkemeibaaGreat
open Go.RowKit

theorem isB_below {w w' : World} {B b : Nat} {l : List UInt8} (h : IsB w B b l) (hb : Below w.heap.size w w') : IsB w' B b l := by
  have key : ∀ p, Lib.BuilderAt 123 5 B b p (Lib.byteCells l) w → Lib.BuilderAt 123 5 B b p (Lib.byteCells l) w' := by
    intro p hp
    have hlt := hp.lt
    obtain ⟨hB, v, hbk, hown, hne⟩ := hp
    obtain ⟨A, c, rfl, _⟩ := own_form hown
    exact ⟨hB, _, (hb.block b hlt).trans hbk, own_below hown hb, hne⟩
  rcases h with h | h
  · exact .inl (key _ h)
  · exact .inr (key _ h)


/-- Numbers, one behind the other. -/
def layB (xs : List Int) : List UInt8 := xs.flatMap fun x => (numStr x).data.toList
theorem layB_snoc (xs : List Int) (x : Int) : layB (xs ++ [x]) = layB xs ++ (numStr x).data.toList := by simp [layB]
theorem layB_len (xs : List Int) : (layB xs).length ≤ 5 * xs.length := by
  induction xs with
  | nil => simp [layB]
  | cons x xs ih =>
    have h1 := numStr_len x
    rw [← size_list] at h1
    simp only [layB, List.flatMap_cons, List.length_append, List.length_cons] at ih ⊢
    omega

set_option maxRecDepth 100000 in
set_option maxHeartbeats 1000000 in
theorem lay_c (A : Option Addr) (n c : Nat) (xs : List Int) (w : World) (hr : Reads w w.heap.size 1 A n (iv xs)) (h : n ≤ 4000) :
    Calls Tryz.prog 81 #[.slice A n c] w fun e w' => e = .returned (.string ⟨(layB xs).toArray⟩) ∧ Below w.heap.size w w' := by
  have hl := hr.int_len
  have HL := Lib.hid hl
  clear hl
  go_enter Tryz.func81, Tryz.ntmps81
  go_wp2_with (fail)
  go_loopw [10] (fun i wr => ∃ k : Nat, k ≤ n ∧ i = .int .i64 k ∧ IsB wr w.heap.size w.heap.size (layB (xs.take k)) ∧ Below w.heap.size w wr) (fun i _ => n - (intOf i).toNat)
  case atStart => exact ⟨0, by omega, rfl, isB_fresh w, (Below.refl _ w).alloc (Nat.le_refl _) _⟩
  case round =>
    obtain ⟨k, hk, rfl, hib, hB⟩ := hrel
    by_cases hlt : k < n
    · obtain ⟨a1, o1, x, rfl, hx, hc1⟩ := (hr.below hB).int_at hlt
      clear hr
      go_wp2_with (fail)
      refine (numberT x _).mono ?_
      rintro e w2 ⟨rfl, hB2⟩
      have hib2 : IsB w2 w.heap.size w.heap.size (layB (xs.take k)) := isB_below hib hB2
      have hBB : Below w.heap.size w w2 := hB.trans (hB2.mono hB.size)
      clear hib hB hB2
      have hlen : (layB (xs.take k)).length + (numStr x).size ≤ 140737488355328 := by
        have h1 := numStr_len x
        have h3 := layB_len (xs.take k)
        have h4 : (xs.take k).length ≤ k := by rw [List.length_take]; omega
        omega
      have hbsz := hBB.size
      have HB := Lib.hid hBB
      have HI := Lib.hid hib2
      have HN := Lib.hid hlen
      clear hBB hib2 hlen
      unfold numV
      go_wp2_with (fail)
      refine (writeString_c w.heap.size w.heap.size _ _ w2 HI.out HN.out hbsz).mono ?_
      rintro e w3 ⟨rfl, hib3, hB3⟩
      go_wp2_with (fail)
      go_roundw
      case rel =>
        refine ⟨k + 1, by omega, by go_num, ?_, HB.out.trans hB3⟩
        rw [List.take_add_one, hx.out, Option.toList_some, layB_snoc]
        exact hib3
      case measure => simp [intOf] <;> omega
    · obtain rfl : k = n := by omega
      rw [List.take_of_length_le (by rw [HL.out]; exact Nat.le_refl _)] at hib
      have hbsz := hB.size
      go_wp2_with (fail)
      refine (builderString_c w.heap.size w.heap.size _ _ hib hbsz).mono ?_
      rintro e w3 ⟨rfl, hB3⟩
      go_wp2_with (fail)
      go_ret
      exact ⟨rfl, hB.trans hB3⟩

/-- A message's bytes. -/
def msgB (m : Msg) : List UInt8 := layB [m.slot, m.dir, m.v, m.d]
def msgsB (l : List Msg) : List UInt8 := l.flatMap msgB
theorem msgsB_snoc (l : List Msg) (m : Msg) : msgsB (l ++ [m]) = msgsB l ++ msgB m := by simp [msgsB]
theorem msgB_len (m : Msg) : (msgB m).length ≤ 20 := layB_len _
theorem msgsB_len (l : List Msg) : (msgsB l).length ≤ 20 * l.length := by
  induction l with
  | nil => simp [msgsB]
  | cons x xs ih =>
    have h1 := msgB_len x
    simp only [msgsB, List.flatMap_cons, List.length_append, List.length_cons] at ih ⊢
    omega
/-- The bytes of messages. -/
def printB (l : List Msg) : List UInt8 := layB [(l.length : Int)] ++ msgsB l
def printErr (l : List Msg) : Int := if 1000 < l.length then 2 else if allMay l then 0 else 1
def printS (l : List Msg) : ByteArray := if l.length ≤ 1000 ∧ allMay l then ⟨(printB l).toArray⟩ else ⟨#[]⟩

set_option maxRecDepth 100000 in
set_option maxHeartbeats 2000000 in
theorem print_c (A : Option Addr) (n c : Nat) (xs : List Msg) (w : World) (hr : Reads w w.heap.size 4 A n (mv xs)) (hn : n ≤ maxLen) :
    Calls Tryz.prog 41 #[.slice A n c] w fun e w' => e = .returned (.tuple #[.string (printS xs), .int .i64 (printErr xs)]) ∧ Below w.heap.size w w' := by
  have hl := hr.mail_len
  by_cases h : 1000 < n
  · have e1 : printErr xs = 2 := by unfold printErr; rw [if_pos (by omega)]
    have e2 : printS xs = ⟨#[]⟩ := by unfold printS; rw [if_neg (by omega)]
    rw [e1, e2]
    go_enter Tryz.func41, Tryz.ntmps41
    go_wp2_with (fail)
    go_ret2
    exact ⟨rfl, Below.refl _ _⟩
  · by_cases hm : allMay xs
    · have e1 : printErr xs = 0 := by unfold printErr; rw [if_neg (by omega), if_pos hm]
      have e2 : printS xs = ⟨(printB xs).toArray⟩ := by unfold printS; rw [if_pos ⟨by omega, hm⟩]
      rw [e1, e2]
      have HL := Lib.hid hl
      clear e1 e2 hl
      go_enter Tryz.func41, Tryz.ntmps41
      go_wp2_with (fail)
      refine (check_c A n c xs _ hr hn).mono ?_
      rintro e w1 ⟨rfl, hB1⟩
      rw [decide_eq_true hm]
      have HM := Lib.hid hm
      clear hm
      go_wp2_with (fail)
      have hb1 := hB1.size
      have hib : IsB ((w1.alloc (.cells #[.pointer none, .slice none 0 0] 123)).alloc (.cells #[.int .i64 (n : Int)] 3)) w1.heap.size w1.heap.size [] := isB_below (isB_fresh w1) (below_one _ _)
      have hrow : Reads ((w1.alloc (.cells #[.pointer none, .slice none 0 0] 123)).alloc (.cells #[.int .i64 (n : Int)] 3)) ((w1.alloc (.cells #[.pointer none, .slice none 0 0] 123)).alloc (.cells #[.int .i64 (n : Int)] 3)).heap.size 1 (some ⟨w1.heap.size + 1, 0, none⟩) 1 (iv [(n : Int)]) := by
        have := reads_lit (w1.alloc (.cells #[.pointer none, .slice none 0 0] 123)) [(n : Int)] 3
        rw [World.size_alloc] at this
        exact this.more (by simp)
      have hBA := (hB1.alloc hB1.size (.cells #[.pointer none, .slice none 0 0] 123)).alloc (by simp; omega) (.cells #[.int .i64 (n : Int)] 3)
      refine (lay_c _ 1 1 [(n : Int)] _ hrow (by omega)).mono ?_
      rintro e w2 ⟨rfl, hB2⟩
      have hib2 := isB_below hib hB2
      have hBB := hBA.trans (hB2.mono hBA.size)
      have hbs2 : w1.heap.size ≤ w2.heap.size := by have := hB2.size; simp at this; omega
      generalize w1.heap.size = b at hib2 hbs2 hb1 ⊢
      clear hib hrow hBA hB2
      have hl1 : ([] : List UInt8).length + (ByteArray.mk (layB [(n : Int)]).toArray).size ≤ 140737488355328 := by
        have := layB_len [(n : Int)]
        have h5 : (ByteArray.mk (layB [(n : Int)]).toArray).size = (layB [(n : Int)]).length := by simp [ByteArray.size]
        simp at this
        rw [h5]; simp; omega
      have HI := Lib.hid hib2
      have HN := Lib.hid hl1
      have HB := Lib.hid hBB
      clear hib2 hl1 hBB
      go_wp2_with (fail)
      refine (writeString_c b b _ _ w2 HI.out HN.out hbs2).mono ?_
      rintro e w3 ⟨rfl, hib3, hB3⟩
      have hBB := HB.out.trans (hB3.mono hb1)
      have hib3 : IsB w3 b b (layB [(n : Int)] ++ msgsB (xs.take 0)) := by simpa [msgsB] using hib3
      have hbs3 : b ≤ w3.heap.size := Nat.le_trans hbs2 hB3.size
      clear HI HN HB hB3
      go_wp2_with (fail)
      go_loopw [22] (fun i wr => ∃ k : Nat, k ≤ n ∧ i = .int .i64 k ∧ IsB wr b b (layB [(n : Int)] ++ msgsB (xs.take k)) ∧ Below w.heap.size w wr ∧ b ≤ wr.heap.size) (fun i _ => n - (intOf i).toNat)
      case atStart => exact ⟨0, Nat.zero_le _, rfl, hib3, hBB, hbs3⟩
      case round =>
        clear hib3 hBB hbs3 hbs2
        obtain ⟨k, hk, rfl, hib, hB, hbs⟩ := hrel
        by_cases hlt : k < n
        · obtain ⟨a1, o1, x, rfl, hx, c0, c1, c2, c3⟩ := (hr.below hB).mail_at hlt
          clear hr
          have HI := Lib.hid hib
          clear hib
          go_wp2_with (fail)
          have hrow : Reads ((wr.alloc (.cells #[.int .i64 x.slot, .int .i64 x.dir, .int .i64 x.v, .int .i64 x.d] 44)).alloc (.cells #[.int .i64 x.slot, .int .i64 x.dir, .int .i64 x.v, .int .i64 x.d] 3)) ((wr.alloc (.cells #[.int .i64 x.slot, .int .i64 x.dir, .int .i64 x.v, .int .i64 x.d] 44)).alloc (.cells #[.int .i64 x.slot, .int .i64 x.dir, .int .i64 x.v, .int .i64 x.d] 3)).heap.size 1 (some ⟨wr.heap.size + 1, 0, none⟩) 4 (iv [x.slot, x.dir, x.v, x.d]) := by
            have := reads_lit (wr.alloc (.cells #[.int .i64 x.slot, .int .i64 x.dir, .int .i64 x.v, .int .i64 x.d] 44)) [x.slot, x.dir, x.v, x.d] 3
            rw [World.size_alloc] at this
            exact this.more (by simp)
          have hBA := (hB.alloc hB.size (.cells #[.int .i64 x.slot, .int .i64 x.dir, .int .i64 x.v, .int .i64 x.d] 44)).alloc (by have := hB.size; simp; omega) (.cells #[.int .i64 x.slot, .int .i64 x.dir, .int .i64 x.v, .int .i64 x.d] 3)
          have hib2 := Lib.hid (isB_below HI.out (below_two wr (.cells #[.int .i64 x.slot, .int .i64 x.dir, .int .i64 x.v, .int .i64 x.d] 44) (.cells #[.int .i64 x.slot, .int .i64 x.dir, .int .i64 x.v, .int .i64 x.d] 3)))
          clear hB c0 c1 c2 c3 HI
          refine (lay_c _ 4 4 [x.slot, x.dir, x.v, x.d] _ hrow (by omega)).mono ?_
          rintro e w4 ⟨rfl, hB4⟩
          have HI := Lib.hid (isB_below hib2.out hB4)
          have HB := Lib.hid (hBA.trans (hB4.mono hBA.size))
          have hbs4 : b ≤ w4.heap.size := by have := hB4.size; simp at this; omega
          clear hrow hBA hib2 hB4
          have hl1 : (layB [(n : Int)] ++ msgsB (xs.take k)).length + (ByteArray.mk (layB [x.slot, x.dir, x.v, x.d]).toArray).size ≤ 140737488355328 := by
            have q1 := layB_len [(n : Int)]
            have q2 := msgsB_len (xs.take k)
            have q3 : (xs.take k).length ≤ k := by rw [List.length_take]; omega
            have q4 := layB_len [x.slot, x.dir, x.v, x.d]
            have h5 : (ByteArray.mk (layB [x.slot, x.dir, x.v, x.d]).toArray).size = (layB [x.slot, x.dir, x.v, x.d]).length := by simp [ByteArray.size]
            rw [List.length_append, h5]
            simp at q1 q4
            omega
          have HN := Lib.hid hl1
          clear hl1
          go_wp2_with (fail)
          refine (writeString_c b b _ _ w4 HI.out HN.out hbs4).mono ?_
          rintro e w5 ⟨rfl, hib5, hB5⟩
          have hBB := HB.out.trans (hB5.mono hb1)
          go_wp2_with (fail)
          go_roundw
          case rel =>
            refine ⟨k + 1, by omega, by go_num, ?_, hBB, Nat.le_trans hbs4 hB5.size⟩
            rw [List.take_add_one, hx.out, Option.toList_some, msgsB_snoc, ← List.append_assoc]
            exact hib5
          case measure => simp [intOf] <;> omega
        · obtain rfl : k = n := by omega
          have hp : Hid (layB [(k : Int)] ++ msgsB (xs.take k) = printB xs) := by
            show _ = _
            rw [List.take_of_length_le (by rw [HL.out]; exact Nat.le_refl _)]
            unfold printB
            rw [HL.out]
          rw [hp.out] at hib
          have HI := Lib.hid hib
          clear hib hr
          go_wp2_with (fail)
          refine (builderString_c b b _ _ HI.out hbs).mono ?_
          rintro e w4 ⟨rfl, hB4⟩
          go_wp2_with (fail)
          go_ret2
          exact ⟨rfl, hB.trans (hB4.mono hb1)⟩
    · have e1 : printErr xs = 1 := by unfold printErr; rw [if_neg (by omega), if_neg hm]
      have e2 : printS xs = ⟨#[]⟩ := by unfold printS; rw [if_neg (fun h => hm h.2)]
      rw [e1, e2]
      clear e1 e2 hl
      go_enter Tryz.func41, Tryz.ntmps41
      go_wp2_with (fail)
      refine (check_c A n c xs _ hr hn).mono ?_
      rintro e w1 ⟨rfl, hB1⟩
      rw [decide_eq_false hm]
      go_wp2_with (fail)
      go_ret2
      exact ⟨rfl, hB1⟩
end Go.Proofs.YtichoidkemeibaaGreat

namespace Go.Proofs.YtichoidkemeibaaGreat
open Go.RowKit

theorem cat_list (a b : ByteArray) : (a ++ b).data.toList = a.data.toList ++ b.data.toList := by rw [ByteArray.data_append, Array.toList_append]

end Go.Proofs.YtichoidkemeibaaGreat
