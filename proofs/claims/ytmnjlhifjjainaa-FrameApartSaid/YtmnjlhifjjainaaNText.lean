/-
  Text of wire and of the reference, and its reader.
-/
import Derived.Test.YtmnjlhifjjainaaNOut
namespace Go.Proofs.Ytmnjlhifjjainaa
open Go.RowKit

/-- A text's bytes. -/
def textBytes (s : ByteArray) : ByteArray := ⟨(numBytes s.size ++ s.data.toList).toArray⟩

theorem refText_no (s : ByteArray) (w : World) (h : 4000 < s.size) :
    Calls Try.prog 42 #[.string s] w fun e w' => e = .returned (.tuple #[.string ⟨#[]⟩, .int .i64 2]) ∧ w = w' := by
  go_enter Try.func42, Try.ntmps42
  go_wp2
  go_ret2
  exact ⟨rfl, rfl⟩

set_option maxRecDepth 100000 in
theorem refText_c (s : ByteArray) (w : World) (h : s.size ≤ 4000) :
    Calls Try.prog 42 #[.string s] w fun e w' => e = .returned (.tuple #[.string (textBytes s), .int .i64 0]) ∧ Below w.heap.size w w' := by
  have hm : s.size ≤ maxNum := by unfold maxNum; omega
  have HM := Lib.hid hm
  clear hm
  go_enter Try.func42, Try.ntmps42
  go_wp2_with (fail)
  refine (refNumber_c s.size _ HM.out).mono ?_
  rintro e w1 ⟨rfl, hB⟩
  have hov : ¬ 9223372036854775807 < (numBytes s.size).length + s.size := by
    have := (numBytes_len s.size).2
    omega
  go_wp2_with (fail)
  rw [cat_bytes]
  go_ret2
  exact ⟨rfl, hB⟩
theorem text_no (s : ByteArray) (w : World) (h : 4000 < s.size) :
    Calls Try.prog 37 #[.string s] w fun e w' => e = .returned (.tuple #[.string ⟨#[]⟩, .int .i64 2]) ∧ w = w' := by
  go_enter Try.func37, Try.ntmps37
  go_wp2
  go_ret2
  exact ⟨rfl, rfl⟩
set_option maxRecDepth 100000 in
theorem text_c (s : ByteArray) (w : World) (h : s.size ≤ 4000) :
    Calls Try.prog 37 #[.string s] w fun e w' => e = .returned (.tuple #[.string (textBytes s), .int .i64 0]) ∧ Below w.heap.size w w' := by
  have hm : s.size ≤ maxNum := by unfold maxNum; omega
  have HM := Lib.hid hm
  clear hm
  go_enter Try.func37, Try.ntmps37
  go_wp2_with (fail)
  refine (number_c s.size _ HM.out).mono ?_
  rintro e w1 ⟨rfl, hB⟩
  have hov : ¬ 9223372036854775807 < (numBytes s.size).length + s.size := by
    have := (numBytes_len s.size).2
    omega
  go_wp2_with (fail)
  rw [cat_bytes]
  go_ret2
  exact ⟨rfl, hB⟩

/-- What is read from a place on: a text, and the place behind it. -/
def rdText (s : ByteArray) (p : Int) : Option (ByteArray × Nat) :=
  match rdAt s p with
  | some (n, q) => if n ≤ 4000 ∧ q + n ≤ s.size then some (s.extract q (q + n), q + n) else none
  | none => none

def textAns : Option (ByteArray × Nat) → Value
  | some (t, q) => .tuple #[.string t, .int .i64 q, .bool true]
  | none => .tuple #[.string ⟨#[]⟩, .int .i64 0, .bool false]

theorem refReadText_c (s : ByteArray) (p : Int) (w : World) (hs : s.size ≤ 1000000) :
    Calls Try.prog 90 #[.string s, .int .i64 p] w fun e w' => e = .returned (textAns (rdText s p)) ∧ Below w.heap.size w w' := by
  go_enter Try.func90, Try.ntmps90
  go_wp2_with (fail)
  refine (refReadNumber_c s p _ hs).mono ?_
  rintro e w1 ⟨rfl, hB⟩
  cases hr : rdAt s p with
  | none =>
    have HR : Hid (rdText s p = none) := by show _ = _; unfold rdText; rw [hr]
    clear hr
    unfold numAns
    go_wp2_with (fail)
    go_ret3
    exact ⟨by rw [HR.out]; rfl, hB⟩
  | some x =>
    obtain ⟨n, q⟩ := x
    obtain ⟨h1, h2, h3, h4, _⟩ := rdAt_spec hr
    unfold maxNum at h4
    unfold numAns
    by_cases hn : n ≤ 4000
    · by_cases hq : q + n ≤ s.size
      · have HR : Hid (rdText s p = some (s.extract q (q + n), q + n)) := by show _ = _; unfold rdText; rw [hr]; simp only; rw [if_pos ⟨hn, hq⟩]
        clear hr
        have d1 : ¬ (4000 : Int) < (n : Int) := by omega
        have d2 : ¬ (s.size : Int) - (q : Int) < (n : Int) := by omega
        go_wp2_with (fail)
        go_ret3
        exact ⟨by rw [HR.out]; rfl, hB⟩
      · have HR : Hid (rdText s p = none) := by show _ = _; unfold rdText; rw [hr]; simp only; rw [if_neg (fun h => hq h.2)]
        clear hr
        have d1 : ¬ (4000 : Int) < (n : Int) := by omega
        have d2 : (s.size : Int) - (q : Int) < (n : Int) := by omega
        go_wp2_with (fail)
        go_ret3
        exact ⟨by rw [HR.out]; rfl, hB⟩
    · have HR : Hid (rdText s p = none) := by show _ = _; unfold rdText; rw [hr]; simp only; rw [if_neg (fun h => hn h.1)]
      clear hr
      have d1 : (4000 : Int) < (n : Int) := by omega
      go_wp2_with (fail)
      go_ret3
      exact ⟨by rw [HR.out]; rfl, hB⟩

/-- What a reader's call of text leaves. -/
def TextDone (w w' : World) (b : Nat) (s : ByteArray) (e : Ending) : Option (ByteArray × Nat) → Prop
  | some (t, q) => e = .returned (.string t) ∧ RdrAt w' b s q false ∧ w.grownBy w' (some b)
  | none => (∃ x p', e = .returned x ∧ RdrAt w' b s p' true) ∧ w.grownBy w' (some b)

set_option maxRecDepth 100000 in
set_option maxHeartbeats 1000000 in
theorem rdrText_c (b : Nat) (s : ByteArray) (p : Int) (w : World) (hr : RdrAt w b s p false) (hs : s.size ≤ 1000000) :
    Calls Try.prog 130 #[.pointer (some ⟨b, 0, none⟩)] w fun e w' => TextDone w w' b s e (rdText s p) := by
  go_enter Try.func130, Try.ntmps130
  go_wp2_with (fail)
  refine (rdrNumber_c b s p w hr hs).mono ?_
  rintro e w1 hnd
  cases hx : rdAt s p with
  | none =>
    have HR : Hid (rdText s p = none) := by show _ = _; unfold rdText; rw [hx]
    rw [hx] at hnd
    obtain ⟨⟨x, p', rfl, hR⟩, hG⟩ := hnd
    clear hx hr
    obtain ⟨c0, c1, c2⟩ := hR.cells
    have f2 := hR.frozen 2
    go_wp2_with (fail)
    go_quiet (fail)
    go_wp2_with (fail)
    go_ret
    rw [HR.out]
    exact ⟨⟨_, _, rfl, (show RdrAt (w1.drewN _) b s p' true from hR).setBad true⟩, only_trans_row (only_drewN hG _) (grown_set _ b 2 _)⟩
  | some y =>
    obtain ⟨n, q⟩ := y
    rw [hx] at hnd
    obtain ⟨rfl, hR, hG⟩ := hnd
    obtain ⟨h1, h2, h3, h4, _⟩ := rdAt_spec hx
    unfold maxNum at h4
    clear hr
    obtain ⟨c0, c1, c2⟩ := hR.cells
    have f0 := hR.frozen 0
    have f1 := hR.frozen 1
    have f2 := hR.frozen 2
    have i0 : IntKind.i64.wrap ((s.size : Int) - (q : Int)) = (s.size : Int) - (q : Int) := IntWalk.i64_in _ (by omega)
    by_cases hn : n ≤ 4000
    · by_cases hq : q + n ≤ s.size
      · have HR : Hid (rdText s p = some (s.extract q (q + n), q + n)) := by show _ = _; unfold rdText; rw [hx]; simp only; rw [if_pos ⟨hn, hq⟩]
        clear hx
        have d1 : ¬ (4000 : Int) < (n : Int) := by omega
        have d2 : ¬ (s.size : Int) - (q : Int) < (n : Int) := by omega
        go_wp2_with (fail)
        go_quiet (fail)
        go_wp2_with (fail)
        have hR2 : RdrAt ((w1.drewN nq).setCell ⟨b, 1, none⟩ (.int .i64 ((q : Int) + (n : Int)))) b s ((q : Int) + (n : Int)) false := (show RdrAt (w1.drewN nq) b s q false from hR).setPlace _
        have hG2 : w.grownBy ((w1.drewN nq).setCell ⟨b, 1, none⟩ (.int .i64 ((q : Int) + (n : Int)))) (some b) := only_trans_row (only_drewN hG _) (grown_set _ b 1 _)
        generalize (w1.drewN nq).setCell ⟨b, 1, none⟩ (.int .i64 ((q : Int) + (n : Int))) = w2 at hR2 hG2 ⊢
        clear c0 c1 c2 f0 f1 f2 hR hG
        obtain ⟨c0, c1, c2⟩ := hR2.cells
        go_quiet (fail)
        go_wp2_with (fail)
        go_ret
        rw [HR.out]
        exact ⟨rfl, by rw [show ((q + n : Nat) : Int) = (q : Int) + (n : Int) by omega]; exact hR2, only_drewN hG2 _⟩
      · have HR : Hid (rdText s p = none) := by show _ = _; unfold rdText; rw [hx]; simp only; rw [if_neg (fun h => hq h.2)]
        clear hx
        have d1 : ¬ (4000 : Int) < (n : Int) := by omega
        have d2 : (s.size : Int) - (q : Int) < (n : Int) := by omega
        go_wp2_with (fail)
        go_quiet (fail)
        go_wp2_with (fail)
        go_ret
        rw [HR.out]
        exact ⟨⟨_, _, rfl, (show RdrAt (w1.drewN _) b s q false from hR).setBad true⟩, only_trans_row (only_drewN hG _) (grown_set _ b 2 _)⟩
    · have HR : Hid (rdText s p = none) := by show _ = _; unfold rdText; rw [hx]; simp only; rw [if_neg (fun h => hn h.1)]
      clear hx
      have d1 : (4000 : Int) < (n : Int) := by omega
      go_wp2_with (fail)
      go_quiet (fail)
      go_wp2_with (fail)
      go_ret
      rw [HR.out]
      exact ⟨⟨_, _, rfl, (show RdrAt (w1.drewN _) b s q false from hR).setBad true⟩, only_trans_row (only_drewN hG _) (grown_set _ b 2 _)⟩

theorem part_text (v : Value) (w : World) : Calls Try.prog 129 #[v] w fun e w' => e = .returned (.func (.func 130) #[v] #[]) ∧ w' = w := by
  go_enter Try.func129, Try.ntmps129
  go_wp2
  go_ret
  exact ⟨rfl, rfl⟩
set_option maxHeartbeats 1000000 in
theorem read_text (s : ByteArray) (p : Int) (w : World) (hs : s.size ≤ 1000000) :
    Calls Try.prog 128 #[.string s, .int .i64 p, .func (.func 129) #[] #[]] w fun e w' => e = .returned (textAns (rdText s p)) ∧ Below w.heap.size w w' := by
  go_enter Try.func128, Try.ntmps128
  go_wp2_with (fail)
  refine (part_text _ _).mono ?_
  rintro e w1 ⟨rfl, rfl⟩
  go_wp2_with (fail)
  refine (rdrText_c _ s p _ (rdr_new s p w) hs).mono ?_
  rintro e w2 hnd
  cases hx : rdText s p with
  | none =>
    rw [hx] at hnd
    obtain ⟨⟨x, p', rfl, hR⟩, hG⟩ := hnd
    obtain ⟨c0, c1, c2⟩ := hR.cells
    have hB := below_rdr hG
    have HX := Lib.hid hx
    clear hx hG
    go_wp2_with (fail)
    go_ret3
    exact ⟨by rw [HX.out]; rfl, hB⟩
  | some y =>
    obtain ⟨n, q⟩ := y
    rw [hx] at hnd
    obtain ⟨rfl, hR, hG⟩ := hnd
    obtain ⟨c0, c1, c2⟩ := hR.cells
    have hB := below_rdr hG
    have HX := Lib.hid hx
    clear hx hG
    go_wp2_with (fail)
    go_quiet (fail)
    go_wp2_with (fail)
    go_ret3
    exact ⟨by rw [HX.out]; rfl, below_drewN hB _⟩

theorem readText_c (s : ByteArray) (p : Int) (w : World) (hs : s.size ≤ 1000000) :
    Calls Try.prog 105 #[.string s, .int .i64 p] w fun e w' => e = .returned (textAns (rdText s p)) ∧ Below w.heap.size w w' := by
  go_enter Try.func105, Try.ntmps105
  go_wp2_with (fail)
  refine (read_text s p w hs).mono ?_
  rintro e w1 ⟨rfl, hB⟩
  cases hx : rdText s p with
  | none =>
    unfold textAns
    go_wp2_with (fail)
    go_ret3
    exact ⟨by rw [hx]; rfl, hB⟩
  | some y =>
    obtain ⟨n, q⟩ := y
    unfold textAns
    go_wp2_with (fail)
    go_ret3
    exact ⟨by rw [hx]; rfl, hB⟩

def textStr (s : ByteArray) : ByteArray := if s.size ≤ 4000 then textBytes s else ⟨#[]⟩
def textErr (s : ByteArray) : Int := if s.size ≤ 4000 then 0 else 2
def textV (s : ByteArray) : Value := .tuple #[.string (textStr s), .int .i64 (textErr s)]

theorem textT (s : ByteArray) (w : World) : Calls Try.prog 37 #[.string s] w fun e w' => e = .returned (textV s) ∧ Below w.heap.size w w' := by
  unfold textV textStr textErr
  by_cases h : s.size ≤ 4000
  · simp only [if_pos h]; exact text_c s w h
  · simp only [if_neg h]
    refine (text_no s w (by omega)).mono ?_
    rintro e w' ⟨rfl, rfl⟩
    exact ⟨rfl, Below.refl _ _⟩
theorem refTextT (s : ByteArray) (w : World) : Calls Try.prog 42 #[.string s] w fun e w' => e = .returned (textV s) ∧ Below w.heap.size w w' := by
  unfold textV textStr textErr
  by_cases h : s.size ≤ 4000
  · simp only [if_pos h]; exact refText_c s w h
  · simp only [if_neg h]
    refine (refText_no s w (by omega)).mono ?_
    rintro e w' ⟨rfl, rfl⟩
    exact ⟨rfl, Below.refl _ _⟩

def anText : Option (ByteArray × Nat) → ByteArray
  | some (t, _) => t
  | none => ⟨#[]⟩
theorem textAns_all (o : Option (ByteArray × Nat)) : textAns o = .tuple #[.string (anText o), .int .i64 (anPlace o), .bool o.isSome] := by
  rcases o with _ | ⟨n, q⟩ <;> rfl
theorem readTextT (s : ByteArray) (p : Int) (w : World) (hs : s.size ≤ 1000000) :
    Calls Try.prog 105 #[.string s, .int .i64 p] w fun e w' => e = .returned (.tuple #[.string (anText (rdText s p)), .int .i64 (anPlace (rdText s p)), .bool (rdText s p).isSome]) ∧ Below w.heap.size w w' := by
  rw [← textAns_all]; exact readText_c s p w hs
theorem refReadTextT (s : ByteArray) (p : Int) (w : World) (hs : s.size ≤ 1000000) :
    Calls Try.prog 90 #[.string s, .int .i64 p] w fun e w' => e = .returned (.tuple #[.string (anText (rdText s p)), .int .i64 (anPlace (rdText s p)), .bool (rdText s p).isSome]) ∧ Below w.heap.size w w' := by
  rw [← textAns_all]; exact refReadText_c s p w hs
theorem rdText_back {s t : ByteArray} {p : Nat} {r : List UInt8} (h : s.data.toList.drop p = numBytes t.size ++ (t.data.toList ++ r)) (ht : t.size ≤ 4000) :
    rdText s p = some (t, p + (numBytes t.size).length + t.size) := by
  have hm : t.size ≤ maxNum := by unfold maxNum; omega
  have hd : s.data.toList.drop (p + (numBytes t.size).length) = t.data.toList ++ r := by
    rw [← List.drop_drop, h, List.drop_left]
  have hsz : p + (numBytes t.size).length + t.size ≤ s.size := by
    have h1 := congrArg List.length h
    rw [List.length_drop, size_list, List.length_append, List.length_append, size_list] at h1
    have := (numBytes_len t.size).1
    omega
  unfold rdText
  rw [rdAt_back h hm]
  simp only []
  rw [if_pos ⟨ht, hsz⟩]
  congr 2
  apply bytes_ext
  rw [extract_data, hd, ← size_list t, List.take_left]

theorem split_take {α : Type} (l : List α) (i j : Nat) : l.take i ++ (l.drop i).take j = l.take (i + j) := by
  rw [List.take_add]

theorem rdText_same {s t : ByteArray} {p : Int} {q : Nat} (h : rdText s p = some (t, q)) : 0 ≤ p ∧ p < q ∧ q ≤ s.size ∧ t.size ≤ 4000 ∧ textStr t = s.extract p.toNat q := by
  unfold rdText at h
  split at h
  · rename_i n q0 hr
    obtain ⟨h1, h2, h3, h4, k, rfl, h5, h6⟩ := rdAt_spec hr
    split at h
    · rename_i hc
      injection h with h
      injection h with ht hq
      subst hq
      have hl : t.data.toList = ((s.data.toList.drop p.toNat).drop k).take n := by
        rw [← ht, extract_data, List.drop_drop]
      have hs : t.size = n := by
        rw [← size_list, hl, List.length_take, List.length_drop, List.length_drop, size_list]
        omega
      refine ⟨h1, by omega, by omega, by omega, ?_⟩
      unfold textStr textBytes
      rw [if_pos (by omega), hs]
      apply bytes_ext
      rw [Nat.add_assoc, extract_data, ← split_take, ← h6, ← hl]
    · cases h
  · cases h

theorem textStr_list {s : ByteArray} (h : s.size ≤ 4000) : (textStr s).data.toList = numBytes s.size ++ s.data.toList := by unfold textStr; rw [if_pos h]; rfl
end Go.Proofs.Ytmnjlhifjjainaa
