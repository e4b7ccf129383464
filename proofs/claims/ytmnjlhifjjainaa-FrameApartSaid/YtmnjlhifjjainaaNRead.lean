/-
  The reference's ReadNumber, ReadText and ReadNumbers: the walks.
-/
import Derived.Test.YtmnjlhifjjainaaNAny
import Derived.Handy
import Derived.IntWalk
namespace Go.Proofs.Ytmnjlhifjjainaa
open Go.RowKit

/-- What is read from a place on: a number, and the place behind it. -/
def rdAt (s : ByteArray) (p : Int) : Option (Nat × Nat) :=
  if 0 ≤ p ∧ p ≤ s.size then (rdNum (s.data.toList.drop p.toNat)).map fun x => (x.1, p.toNat + x.2) else none

def numAns : Option (Nat × Nat) → Value
  | some (n, q) => .tuple #[.int .i64 n, .int .i64 q, .bool true]
  | none => .tuple #[.int .i64 0, .int .i64 0, .bool false]

theorem refReadNumber_out (s : ByteArray) (p : Int) (w : World) (h : ¬ (0 ≤ p ∧ p ≤ s.size)) :
    Calls Try.prog 57 #[.string s, .int .i64 p] w fun e w' => e = .returned (numAns (rdAt s p)) ∧ Below w.heap.size w w' := by
  have ha : rdAt s p = none := by unfold rdAt; rw [if_neg h]
  rw [ha]
  by_cases h1 : p < 0
  · go_enter Try.func57, Try.ntmps57
    go_wp2_with (fail)
    go_ret3
    exact ⟨rfl, Below.refl _ _⟩
  · have h2 : (s.size : Int) < p := by omega
    go_enter Try.func57, Try.ntmps57
    go_wp2_with (fail)
    go_ret3
    exact ⟨rfl, Below.refl _ _⟩

theorem extract_list (s : ByteArray) (p j : Nat) (l : List UInt8) (hl : s.data.toList.drop p = l) : (s.extract p (p + j)).toList = l.take j := by
  rw [Go.ByteArray.toList_eq, ByteArray.data_extract, Array.toList_extract, ← hl]
  simp [List.extract]

theorem rdNum_at (l : List UInt8) (j N : Nat) (c : UInt8) (h5 : j < 5) (hc : l[j]? = some c) (hlt : c.toNat < 128) (hd : ∀ k d, k < j → l[k]? = some d → 128 ≤ d.toNat) (hN : valN (l.take (j + 1)) = N) :
    rdNum l = if N ≤ maxNum ∧ numBytes N = l.take (j + 1) then some (N, j + 1) else none := by
  unfold rdNum
  rw [scan_some 5 l j c h5 hc hlt hd]
  simp only [hN]

set_option maxRecDepth 100000 in
set_option maxHeartbeats 1000000 in
theorem refReadNumber_in (s : ByteArray) (p : Nat) (w : World) (h : p ≤ s.size) (hs : s.size ≤ 1000000) :
    Calls Try.prog 57 #[.string s, .int .i64 p] w fun e w' => e = .returned (numAns (rdAt s p)) ∧ Below w.heap.size w w' := by
  have ha : rdAt s p = (rdNum (s.data.toList.drop p)).map fun x => (x.1, p + x.2) := by unfold rdAt; rw [if_pos (by omega)]; rfl
  rw [ha]
  clear ha
  obtain ⟨l, hl⟩ : ∃ l, s.data.toList.drop p = l := ⟨_, rfl⟩
  have HL := Lib.hid hl
  rw [hl]
  clear hl
  have dp : decide ((p : Int) < 0) = false := by simp
  have ds : decide (s.size < p) = false := by simpa using h
  go_enter Try.func57, Try.ntmps57
  go_wp2_with (fail)
  go_loopw [7, 8, 9] (fun n u i wr => ∃ j V W : Nat, j ≤ 5 ∧ p + j ≤ s.size ∧ n = .int .i64 (V : Int) ∧ u = .int .i64 (W : Int) ∧ Hid (V = valN (l.take j) ∧ W = 128 ^ j) ∧ i = .int .i64 ((p + j : Nat) : Int) ∧ Hid (∀ k d, k < j → l[k]? = some d → 128 ≤ d.toNat) ∧ Below w.heap.size w wr) (fun _ _ i _ => p + 5 - (intOf i).toNat)
  case atStart => exact ⟨0, 0, 1, by omega, by omega, rfl, rfl, ⟨by simp [valN], rfl⟩, by simp, fun k d h => absurd h (by omega), Below.refl _ _⟩
  case round =>
    obtain ⟨j, V, W, hj5, hjs, rfl, rfl, hVW, rfl, hd, hB⟩ := hrel
    by_cases hin : p + j < s.size ∧ j < 5
    · obtain ⟨h1, h2⟩ := hin
      have c1 : ((p + j : Nat) : Int) < (s.size : Int) := by omega
      have c2 : ((p + j : Nat) : Int) < (p : Int) + 5 := by omega
      have hlc : l[j]? = some s[p + j] := by
        rw [← HL.out, List.getElem?_drop]
        have : p + j < s.data.size := h1
        rw [Array.getElem?_toList, Array.getElem?_eq_getElem this]; rfl
      have hN : V + W * (s[p + j].toNat % 128) = valN (l.take (j + 1)) := by
        rw [List.take_add_one, hlc, Option.toList_some, valN_snoc, ← hVW.out.1, List.length_take, Nat.min_eq_left, ← hVW.out.2]
        have := (List.getElem?_eq_some_iff.1 hlc).1
        omega
      have hW : W ≤ 268435456 := by
        have h3 := Nat.pow_le_pow_right (show 0 < 128 by omega) (show j ≤ 4 by omega)
        rw [← hVW.out.2] at h3
        simpa using h3
      have hNb : valN (l.take (j + 1)) < 34359738368 := by
        have h3 := valN_lt (l.take (j + 1))
        have h4 : (l.take (j + 1)).length ≤ 5 := by rw [List.length_take]; omega
        have h5 := Nat.pow_le_pow_right (show 0 < 128 by omega) h4
        have h6 : (128 : Nat) ^ 5 = 34359738368 := by decide
        omega
      have hw1 : wrap64 ((V : Int) + wrap64 ((W : Int) * ((s[p + j].toNat : Int) % 128))) = ((valN (l.take (j + 1)) : Nat) : Int) := by
        rw [← hN] at hNb ⊢
        have e1 : (W : Int) * ((s[p + j].toNat : Int) % 128) = ((W * (s[p + j].toNat % 128) : Nat) : Int) := by push_cast; rfl
        rw [e1, IntWalk.wrap64_in ((W * (s[p + j].toNat % 128) : Nat) : Int) (by omega), IntWalk.wrap64_in _ (by omega)]
        push_cast; rfl
      have hw2 : wrap64 (128 * (W : Int)) = ((128 * W : Nat) : Int) := by
        rw [IntWalk.wrap64_in _ (by omega)]; push_cast; rfl
      have HW := Lib.hid hw1
      have HW2 := Lib.hid hw2
      have HC := Lib.hid hlc
      have HN := Lib.hid hNb
      clear hlc hw1 hw2 hN hW hNb
      by_cases hlt : s[p + j].toNat < 128
      · have d1 : (s[p + j].toNat : Int) < 128 := by omega
        go_wp2_with (fail)
        rw [HW.out]
        obtain ⟨N, hN⟩ : ∃ N, valN (l.take (j + 1)) = N := ⟨_, rfl⟩
        rw [hN] at HN HW ⊢
        refine (refNumber_any _ _).mono ?_
        rintro e w2 ⟨rfl, hB2⟩
        have hBB := hB.trans (hB2.mono hB.size)
        by_cases hg : good (N : Int)
        · rw [if_pos hg]
          have hNm : N ≤ maxNum := by obtain ⟨h3, h4⟩ := hg; unfold maxNum; omega
          have hx := extract_list s p (j + 1) l HL.out
          have hrd := rdNum_at l j N _ h2 HC.out hlt hd.out hN
          by_cases hq : numBytes N = l.take (j + 1)
          · rw [if_pos ⟨hNm, hq⟩] at hrd
            have HR := Lib.hid hrd
            have hqq : (numBytes N == (s.extract p (p + j + 1)).toList) = true := by rw [Nat.add_assoc, hx]; simpa using hq
            clear hrd hq hx hN hNm hg
            go_wp2_with (fail)
            go_ret3
            refine ⟨?_, hBB⟩
            rw [HR.out]
            show _ = Ending.returned (.tuple #[.int .i64 (N : Int), .int .i64 ((p + (j + 1) : Nat) : Int), .bool true])
            rw [show ((p + (j + 1) : Nat) : Int) = (p : Int) + (j : Int) + 1 by omega]; rfl
          · rw [if_neg (fun h => hq h.2)] at hrd
            have HR := Lib.hid hrd
            have hqq : (numBytes N == (s.extract p (p + j + 1)).toList) = false := by rw [Nat.add_assoc, hx]; simpa using hq
            clear hrd hq hx hN hNm hg
            go_wp2_with (fail)
            go_ret3
            exact ⟨by rw [HR.out]; rfl, hBB⟩
        · rw [if_neg hg]
          have hNm : ¬ N ≤ maxNum := by unfold good at hg; unfold maxNum; omega
          have hrd := rdNum_at l j N _ h2 HC.out hlt hd.out hN
          rw [if_neg (fun h => hNm h.1)] at hrd
          have HR := Lib.hid hrd
          clear hrd hN hNm hg
          go_wp2_with (fail)
          go_ret3
          exact ⟨by rw [HR.out]; rfl, hBB⟩
      · have d1 : ¬ (s[p + j].toNat : Int) < 128 := by omega
        have d2 : (s[p + j].toNat : Int) < 256 := by have := s[p + j].toNat_lt; omega
        go_wp2_with (fail)
        go_roundw
        case rel =>
          refine ⟨j + 1, _, _, by omega, by omega, by rw [HW.out], by rw [HW2.out], ⟨rfl, ?_⟩, by go_num, ?_, hB⟩
          · rw [hVW.out.2, Nat.pow_succ, Nat.mul_comm]
          · show ∀ k d, _
            intro k d hk hkd
            rcases Nat.lt_or_ge k j with h3 | h3
            · exact hd.out k d h3 hkd
            · obtain rfl : k = j := by omega
              rw [HC.out] at hkd
              injection hkd with hkd
              subst hkd
              omega
        case measure => simp [intOf] <;> omega
    · have hrd : rdNum l = none := by
        unfold rdNum
        rw [scan_none 5 l (fun k d hk hkd => ?_)]
        rcases Nat.lt_or_ge k j with h3 | h3
        · exact hd.out k d h3 hkd
        · exfalso
          have h4 := (List.getElem?_eq_some_iff.1 hkd).1
          rw [← HL.out, List.length_drop] at h4
          have h5 : s.data.toList.length = s.size := by rw [Array.length_toList]; rfl
          omega
      have HR := Lib.hid hrd
      clear hrd
      by_cases hin1 : p + j < s.size
      · have c1 : ((p + j : Nat) : Int) < (s.size : Int) := by omega
        have c2 : ¬ ((p + j : Nat) : Int) < (p : Int) + 5 := by omega
        go_wp2_with (fail)
        go_ret3
        exact ⟨by rw [HR.out]; rfl, hB⟩
      · have c1 : ¬ ((p + j : Nat) : Int) < (s.size : Int) := by omega
        go_wp2_with (fail)
        go_ret3
        exact ⟨by rw [HR.out]; rfl, hB⟩

theorem refReadNumber_c (s : ByteArray) (p : Int) (w : World) (hs : s.size ≤ 1000000) :
    Calls Try.prog 57 #[.string s, .int .i64 p] w fun e w' => e = .returned (numAns (rdAt s p)) ∧ Below w.heap.size w w' := by
  by_cases h : 0 ≤ p ∧ p ≤ s.size
  · obtain ⟨q, rfl⟩ : ∃ q : Nat, p = q := ⟨p.toNat, by omega⟩
    exact refReadNumber_in s q w (by omega) hs
  · exact refReadNumber_out s p w h
theorem rdAt_spec {s : ByteArray} {p : Int} {n q : Nat} (h : rdAt s p = some (n, q)) : 0 ≤ p ∧ p < q ∧ q ≤ s.size ∧ n ≤ maxNum ∧ ∃ k, q = p.toNat + k ∧ k ≤ 5 ∧ numBytes n = (s.data.toList.drop p.toNat).take k := by
  unfold rdAt at h
  split at h
  · rename_i hp
    cases hr : rdNum (s.data.toList.drop p.toNat) with
    | none => rw [hr] at h; cases h
    | some x =>
      obtain ⟨m, k⟩ := x
      rw [hr] at h
      simp at h
      obtain ⟨rfl, rfl⟩ := h
      obtain ⟨h1, h2, h3, h4, h5⟩ := rdNum_same hr
      rw [List.length_drop] at h5
      have h6 : s.data.toList.length = s.size := by rw [Array.length_toList]; rfl
      exact ⟨hp.1, by omega, by omega, h1, k, rfl, h4, h2⟩
  · cases h

def anNum : Option (Nat × Nat) → Int
  | some (n, _) => n
  | none => 0
def anPlace {α : Type} : Option (α × Nat) → Int
  | some (_, q) => q
  | none => 0
theorem numAns_all (o : Option (Nat × Nat)) : numAns o = .tuple #[.int .i64 (anNum o), .int .i64 (anPlace o), .bool o.isSome] := by
  rcases o with _ | ⟨n, q⟩ <;> rfl
theorem refReadNumberT (s : ByteArray) (p : Int) (w : World) (hs : s.size ≤ 1000000) :
    Calls Try.prog 57 #[.string s, .int .i64 p] w fun e w' => e = .returned (.tuple #[.int .i64 (anNum (rdAt s p)), .int .i64 (anPlace (rdAt s p)), .bool (rdAt s p).isSome]) ∧ Below w.heap.size w w' := by
  rw [← numAns_all]; exact refReadNumber_c s p w hs
theorem extract_data (s : ByteArray) (p k : Nat) : (s.extract p (p + k)).data.toList = (s.data.toList.drop p).take k := by
  have := extract_list s p k _ rfl
  rw [Go.ByteArray.toList_eq] at this
  exact this

theorem rdAt_back {s : ByteArray} {p n : Nat} {r : List UInt8} (h : s.data.toList.drop p = numBytes n ++ r) (hn : n ≤ maxNum) :
    rdAt s p = some (n, p + (numBytes n).length) := by
  have hp : p ≤ s.size := by
    rcases Nat.lt_or_ge s.size p with h1 | h1
    · have h2 : s.data.toList.drop p = [] := List.drop_of_length_le (by rw [size_list]; omega)
      rw [h2] at h
      have := (numBytes_len n).1
      have h3 := congrArg List.length h
      simp at h3
      omega
    · exact h1
  unfold rdAt
  rw [if_pos ⟨by omega, by omega⟩, Int.toNat_natCast, h, rdNum_back n r hn]
  rfl

theorem rdAt_same {s : ByteArray} {p : Int} {n q : Nat} (h : rdAt s p = some (n, q)) : 0 ≤ p ∧ p < q ∧ q ≤ s.size ∧ good n ∧ numStr n = s.extract p.toNat q := by
  obtain ⟨h1, h2, h3, h4, k, rfl, h5, h6⟩ := rdAt_spec h
  have hg : good (n : Int) := ⟨by omega, by unfold maxNum at h4; omega⟩
  refine ⟨h1, h2, h3, hg, ?_⟩
  unfold numStr
  rw [if_pos hg]
  apply bytes_ext
  rw [extract_data, ← h6]
  simp

end Go.Proofs.Ytmnjlhifjjainaa
