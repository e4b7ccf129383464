/-
  The reference's ReadText and ReadNumbers: the walks.
-/
import Derived.Test.YtmnjlhifjjainaaWireRead
import Derived.Test.YtmnjlhifjjainaaElInt
namespace Go.Proofs.Ytmnjlhifjjainaa
open Go.RowKit

theorem rdAt_spec {s : ByteArray} {p : Int} {n q : Nat} (h : rdAt s p = some (n, q)) : 0 ≤ p ∧ p < q ∧ q ≤ s.size ∧ n ≤ maxNum ∧ ∃ k, q = p.toNat + k ∧ k ≤ 5 ∧ numBytes n = (s.data.toList.drop p.toNat).take k := by
  unfold rdAt at h
  split at h
  · rename_i hp
    cases hr : rdNum (s.data.toList.drop p.toNat) with
    | none => rw [hr] at h; cases h
    | some x =>
      obtain ⟨m, k⟩ := x
      rw [hr] at h
      simp at h
      obtain ⟨rfl, rfl⟩ := h
      obtain ⟨h1, h2, h3, h4, h5⟩ := rdNum_same hr
      rw [List.length_drop] at h5
      have h6 : s.data.toList.length = s.size := by rw [Array.length_toList]; rfl
      exact ⟨hp.1, by omega, by omega, h1, k, rfl, h4, h2⟩
  · cases h

/-- What is read from a place on: a text, and the place behind it. -/
def rdText (s : ByteArray) (p : Int) : Option (ByteArray × Nat) :=
  match rdAt s p with
  | some (n, q) => if n ≤ 4000 ∧ q + n ≤ s.size then some (s.extract q (q + n), q + n) else none
  | none => none

def textAns : Option (ByteArray × Nat) → Value
  | some (t, q) => .tuple #[.string t, .int .i64 q, .bool true]
  | none => .tuple #[.string ⟨#[]⟩, .int .i64 0, .bool false]

theorem refReadText_c (s : ByteArray) (p : Int) (w : World) (hs : s.size ≤ 1000000) :
    Calls Try.prog 90 #[.string s, .int .i64 p] w fun e w' => e = .returned (textAns (rdText s p)) ∧ Below w.heap.size w w' := by
  go_enter Try.func90, Try.ntmps90
  go_wp2_with (fail)
  refine (refReadNumber_c s p _ hs).mono ?_
  rintro e w1 ⟨rfl, hB⟩
  cases hr : rdAt s p with
  | none =>
    have HR : Hid (rdText s p = none) := by show _ = _; unfold rdText; rw [hr]
    clear hr
    unfold numAns
    go_wp2_with (fail)
    go_ret3
    exact ⟨by rw [HR.out]; rfl, hB⟩
  | some x =>
    obtain ⟨n, q⟩ := x
    obtain ⟨h1, h2, h3, h4, _⟩ := rdAt_spec hr
    unfold maxNum at h4
    unfold numAns
    by_cases hn : n ≤ 4000
    · by_cases hq : q + n ≤ s.size
      · have HR : Hid (rdText s p = some (s.extract q (q + n), q + n)) := by show _ = _; unfold rdText; rw [hr]; simp only; rw [if_pos ⟨hn, hq⟩]
        clear hr
        have d1 : ¬ (4000 : Int) < (n : Int) := by omega
        have d2 : ¬ (s.size : Int) - (q : Int) < (n : Int) := by omega
        go_wp2_with (fail)
        go_ret3
        exact ⟨by rw [HR.out]; rfl, hB⟩
      · have HR : Hid (rdText s p = none) := by show _ = _; unfold rdText; rw [hr]; simp only; rw [if_neg (fun h => hq h.2)]
        clear hr
        have d1 : ¬ (4000 : Int) < (n : Int) := by omega
        have d2 : (s.size : Int) - (q : Int) < (n : Int) := by omega
        go_wp2_with (fail)
        go_ret3
        exact ⟨by rw [HR.out]; rfl, hB⟩
    · have HR : Hid (rdText s p = none) := by show _ = _; unfold rdText; rw [hr]; simp only; rw [if_neg (fun h => hn h.1)]
      clear hr
      have d1 : (4000 : Int) < (n : Int) := by omega
      go_wp2_with (fail)
      go_ret3
      exact ⟨by rw [HR.out]; rfl, hB⟩

/-- So many numbers, one behind the other. -/
def rdMany (s : ByteArray) : Nat → Nat → Option (List Int × Nat)
  | 0, q => some ([], q)
  | k + 1, q => match rdAt s q with
    | some (x, q') => (rdMany s k q').map fun r => ((x : Int) :: r.1, r.2)
    | none => none

/-- What is read from a place on: a row, and the place behind it. -/
def rdNums (s : ByteArray) (p : Int) : Option (List Int × Nat) :=
  match rdAt s p with
  | some (n, q) => if n ≤ 4000 then rdMany s n q else none
  | none => none

theorem rdMany_len {s : ByteArray} : ∀ {k q : Nat} {xs : List Int} {q' : Nat}, rdMany s k q = some (xs, q') → xs.length = k
  | 0, q, xs, q', h => by simp [rdMany] at h; rw [h.1]; rfl
  | k + 1, q, xs, q', h => by
    simp only [rdMany] at h
    split at h
    · rename_i x y hr
      cases hm : rdMany s k y with
      | none => rw [hm] at h; cases h
      | some r =>
        obtain ⟨ys, z⟩ := r
        rw [hm] at h
        simp at h
        rw [← h.1]
        simp [rdMany_len hm]
    · cases h

/-- The answer of a reader of rows, in a world. -/
def NumsAns (w w' : World) (v : Value) : Option (List Int × Nat) → Prop
  | some (xs, q) => ∃ A c, v = .tuple #[.slice A xs.length c, .int .i64 q, .bool true] ∧ w'.ownsRow w.heap.size 3 1 (.slice A xs.length c) xs.length (iv xs)
  | none => v = .tuple #[.slice none 0 0, .int .i64 0, .bool false]

set_option maxRecDepth 100000 in
set_option maxHeartbeats 1000000 in
theorem refReadNumbers_c (s : ByteArray) (p : Int) (w : World) (hs : s.size ≤ 1000000) :
    Calls Try.prog 107 #[.string s, .int .i64 p] w fun e w' => (∃ v, e = .returned v ∧ NumsAns w w' v (rdNums s p)) ∧ Below w.heap.size w w' := by
  go_enter Try.func107, Try.ntmps107
  go_wp2_with (fail)
  refine (refReadNumber_c s p _ hs).mono ?_
  rintro e w1 ⟨rfl, hB⟩
  cases hr : rdAt s p with
  | none =>
    have HR : Hid (rdNums s p = none) := by show _ = _; unfold rdNums; rw [hr]
    clear hr
    unfold numAns
    go_wp2_with (fail)
    go_ret3
    exact ⟨⟨_, rfl, by rw [HR.out]; rfl⟩, hB⟩
  | some x =>
    obtain ⟨n, q⟩ := x
    obtain ⟨h1, h2, h3, h4, _⟩ := rdAt_spec hr
    clear h4
    unfold numAns
    by_cases hn : n ≤ 4000
    · have HR : Hid (rdNums s p = rdMany s n q) := by show _ = _; unfold rdNums; rw [hr]; simp only; rw [if_pos hn]
      clear hr
      have d1 : ¬ (4000 : Int) < (n : Int) := by omega
      go_wp2_with (fail)
      go_loopw [8, 10, 11] (fun nx out i wr => ∃ (xs : List Int) (q' : Nat) (A : Option Addr) (c : Nat), xs.length ≤ n ∧ nx = .int .i64 q' ∧ q' ≤ s.size ∧ i = .int .i64 (xs.length : Nat) ∧ out = .slice A xs.length c ∧ wr.ownsRow w.heap.size 3 1 (.slice A xs.length c) xs.length (iv xs) ∧
        Hid (rdMany s n q = (rdMany s (n - xs.length) q').map fun r => (xs ++ r.1, r.2)) ∧ Below w.heap.size w wr) (fun _ _ i _ => n - (intOf i).toNat)
      case atStart => exact ⟨[], q, none, 0, by simp, rfl, h3, rfl, rfl, own_nil, by show _ = _; simp, hB⟩
      case round =>
        obtain ⟨xs, q', A, c, hxl, rfl, hq', rfl, rfl, ho, hm, hB2⟩ := hrel
        clear hB h2 h3
        by_cases hlt : xs.length < n
        · go_wp2_with (fail)
          refine (refReadNumber_c s q' _ hs).mono ?_
          rintro e w2 ⟨rfl, hB3⟩
          have hsz2 := hB2.size
          have hB4 : Below w.heap.size w w2 := hB2.trans (hB3.mono hsz2)
          have ho4 := own_below ho hB3
          have hk : n - xs.length = (n - xs.length - 1) + 1 := by omega
          clear hB2 hB3 ho hsz2
          have hsz := hB4.size
          cases hx : rdAt s q' with
          | none =>
            have HN : Hid (rdMany s n q = none) := by
              show _ = _
              rw [hm.out, hk]; simp only [rdMany]; rw [hx]; rfl
            clear hx hm
            unfold numAns
            go_wp2_with (fail)
            go_ret3
            exact ⟨⟨_, rfl, by rw [HR.out, HN.out]; rfl⟩, hB4⟩
          | some y =>
            obtain ⟨m, q2⟩ := y
            obtain ⟨_, _, g3, _, _⟩ := rdAt_spec hx
            have HM : Hid (rdMany s n q = (rdMany s (n - (xs.length + 1)) q2).map fun r => ((xs ++ [(m : Int)]) ++ r.1, r.2)) := by
              show _ = _
              rw [hm.out, hk]; simp only [rdMany]; rw [hx]
              simp only [Option.map_map]
              rw [show n - xs.length - 1 = n - (xs.length + 1) by omega]
              congr 1
              funext r
              simp
            clear hx hm hk
            unfold numAns
            go_wp2_with (at_builtin; refine wpList_push elInt rfl _ _ rfl ho4 rfl _ rfl rfl (one_int _ _) (by unfold maxLen; omega) (by omega) hsz ?_; intro A4 c4 w4 ho5 p5)
            go_roundw
            case rel =>
              refine ⟨xs ++ [(m : Int)], q2, A4, c4, by simp; omega, rfl, g3, by simp, by simp, ?_, ?_, p5.below ho4 hB4 (Nat.le_refl _) hsz⟩
              · rw [List.length_append, iv_append]
                exact ho5
              · show _ = _
                rw [HM.out, List.length_append]; rfl
            case measure => simp [intOf] <;> omega
        · have hxn : xs.length = n := by omega
          have HN : Hid (rdMany s n q = some (xs, q')) := by
            show _ = _
            rw [hm.out, show n - xs.length = 0 by omega]; simp [rdMany]
          clear hm
          go_wp2_with (fail)
          go_ret3
          exact ⟨⟨_, rfl, by rw [HR.out, HN.out]; exact ⟨A, c, rfl, ho⟩⟩, hB2⟩
    · have HR : Hid (rdNums s p = none) := by show _ = _; unfold rdNums; rw [hr]; simp only; rw [if_neg hn]
      clear hr
      have d1 : (4000 : Int) < (n : Int) := by omega
      go_wp2_with (fail)
      go_ret3
      exact ⟨⟨_, rfl, by rw [HR.out]; rfl⟩, hB⟩
end Go.Proofs.Ytmnjlhifjjainaa
