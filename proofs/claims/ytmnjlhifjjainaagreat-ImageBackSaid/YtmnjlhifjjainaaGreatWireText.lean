/-
  Text and Numbers of wire and of the reference: the walks.
-/
import Derived.Test.YtmnjlhifjjainaaGreatWireNumP
namespace Go.Proofs.YtmnjlhifjjainaaGreat
open Go.RowKit

/-- A text's bytes. -/
def textBytes (s : ByteArray) : ByteArray := ⟨(numBytes s.size ++ s.data.toList).toArray⟩

theorem cat_bytes (l : List UInt8) (s : ByteArray) : (⟨l.toArray⟩ : ByteArray) ++ s = ⟨(l ++ s.data.toList).toArray⟩ := by
  apply ByteArray.ext
  rw [ByteArray.data_append]
  apply Array.ext'
  simp

theorem text_no (s : ByteArray) (w : World) (h : 4000 < s.size) :
    Calls Tryz.prog 20 #[.string s] w fun e w' => e = .returned (.tuple #[.string ⟨#[]⟩, .int .i64 2]) ∧ w = w' := by
  go_enter Tryz.func20, Tryz.ntmps20
  go_wp2
  go_ret2
  exact ⟨rfl, rfl⟩
set_option maxRecDepth 100000 in
theorem text_c (s : ByteArray) (w : World) (h : s.size ≤ 4000) :
    Calls Tryz.prog 20 #[.string s] w fun e w' => e = .returned (.tuple #[.string (textBytes s), .int .i64 0]) ∧ Below w.heap.size w w' := by
  have hm : s.size ≤ maxNum := by unfold maxNum; omega
  have HM := Lib.hid hm
  clear hm
  go_enter Tryz.func20, Tryz.ntmps20
  go_wp2_with (fail)
  refine (number_c s.size _ HM.out).mono ?_
  rintro e w1 ⟨rfl, hB⟩
  have hov : ¬ 9223372036854775807 < (numBytes s.size).length + s.size := by
    have := (numBytes_len s.size).2
    omega
  go_wp2_with (fail)
  rw [cat_bytes]
  go_ret2
  exact ⟨rfl, hB⟩

/-- May it be laid? -/
def good (x : Int) : Prop := 0 ≤ x ∧ x ≤ 2147483647
instance (x : Int) : Decidable (good x) := by unfold good; infer_instance

/-- The bytes of a row's numbers. -/
def rowB (xs : List Int) : List UInt8 := xs.flatMap fun x => numBytes x.toNat

theorem rowB_snoc (xs : List Int) (x : Int) : rowB (xs ++ [x]) = rowB xs ++ numBytes x.toNat := by simp [rowB]

theorem rowB_len (xs : List Int) : (rowB xs).length ≤ 5 * xs.length := by
  induction xs with
  | nil => simp [rowB]
  | cons x xs ih =>
    have := (numBytes_len x.toNat).2
    simp only [rowB, List.flatMap_cons, List.length_append, List.length_cons] at ih ⊢
    omega

/-- A row's bytes. -/
def rowBytes (xs : List Int) : List UInt8 := numBytes xs.length ++ rowB xs

theorem number_any (x : Int) (w : World) :
    Calls Tryz.prog 18 #[.int .i64 x] w fun e w' => e = .returned (if good x then .tuple #[.string ⟨(numBytes x.toNat).toArray⟩, .int .i64 0] else .tuple #[.string ⟨#[]⟩, .int .i64 1]) ∧ Below w.heap.size w w' := by
  by_cases h : good x
  · obtain ⟨h1, h2⟩ := id h
    rw [if_pos h]
    obtain ⟨n, rfl⟩ : ∃ n : Nat, x = n := ⟨x.toNat, by omega⟩
    exact number_c n w (by unfold maxNum; omega)
  · rw [if_neg h]
    refine (number_no x w (by unfold good at h; omega)).mono ?_
    rintro e w' ⟨rfl, rfl⟩
    exact ⟨rfl, Below.refl _ _⟩

/-- What the two Numbers answer. -/
def rowAns (xs : List Int) : Value := if ∀ x ∈ xs, good x then .tuple #[.string ⟨(rowBytes xs).toArray⟩, .int .i64 0] else .tuple #[.string ⟨#[]⟩, .int .i64 1]

theorem rowAns_bad {xs : List Int} {k : Nat} {x : Int} (h : xs[k]? = some x) (hx : ¬ good x) : rowAns xs = .tuple #[.string ⟨#[]⟩, .int .i64 1] := by
  unfold rowAns
  rw [if_neg (fun h' => hx (h' x (List.mem_of_getElem? h)))]

theorem numbers_no (A : Option Addr) (n c : Nat) (w : World) (h : 4000 < n) :
    Calls Tryz.prog 19 #[.slice A n c] w fun e w' => e = .returned (.tuple #[.string ⟨#[]⟩, .int .i64 2]) ∧ w = w' := by
  go_enter Tryz.func19, Tryz.ntmps19
  go_wp2
  go_ret2
  exact ⟨rfl, rfl⟩

theorem isB_below {w w' : World} {B b : Nat} {l : List UInt8} (h : IsB w B b l) (hb : Below w.heap.size w w') : IsB w' B b l := by
  have key : ∀ p, Lib.BuilderAt 53 5 B b p (Lib.byteCells l) w → Lib.BuilderAt 53 5 B b p (Lib.byteCells l) w' := by
    intro p hp
    have hlt := hp.lt
    obtain ⟨hB, v, hbk, hown, hne⟩ := hp
    obtain ⟨A, c, rfl, _⟩ := own_form hown
    exact ⟨hB, _, (hb.block b hlt).trans hbk, own_below hown hb, hne⟩
  rcases h with h | h
  · exact .inl (key _ h)
  · exact .inr (key _ h)

set_option maxRecDepth 100000 in
set_option maxHeartbeats 1000000 in
theorem numbers_c (A : Option Addr) (n c : Nat) (xs : List Int) (w : World) (hr : Reads w w.heap.size 1 A n (iv xs)) (h : n ≤ 4000) :
    Calls Tryz.prog 19 #[.slice A n c] w fun e w' => e = .returned (rowAns xs) ∧ Below w.heap.size w w' := by
  have hl := hr.int_len
  have HL := Lib.hid hl
  clear hl
  go_enter Tryz.func19, Tryz.ntmps19
  go_wp2_with (fail)
  go_loopw [5] (fun i wr => ∃ k : Nat, k ≤ n + 1 ∧ i = .int .i64 ((k : Int) - 1) ∧ IsB wr w.heap.size w.heap.size (rowB (((n : Int) :: xs).take k)) ∧ Hid (∀ x ∈ ((n : Int) :: xs).take k, good x) ∧ Below w.heap.size w wr) (fun i _ => (n + 1) - (intOf i + 1).toNat)
  case atStart => exact ⟨0, by omega, rfl, isB_fresh w, by intro x hx; simp at hx, (Below.refl _ w).alloc (Nat.le_refl _) _⟩
  case round =>
    obtain ⟨k, hk, rfl, hib, hg, hB⟩ := hrel
    rcases Nat.eq_zero_or_pos k with rfl | hkp
    · go_wp2_with (fail)
      refine (number_any n _).mono ?_
      rintro e w2 ⟨rfl, hB2⟩
      have hib2 : IsB w2 w.heap.size w.heap.size (rowB (((n : Int) :: xs).take 0)) := isB_below hib hB2
      have hBB : Below w.heap.size w w2 := hB.trans (hB2.mono hB.size)
      clear hib hB hB2
      by_cases hgx : good n
      · rw [if_pos hgx]
        have hlen : (rowB (((n : Int) :: xs).take 0)).length + (ByteArray.mk (numBytes (n : Int).toNat).toArray).size ≤ 140737488355328 := by
          have h1 := (numBytes_len (n : Int).toNat).2
          have h3 := rowB_len (((n : Int) :: xs).take 0)
          have h4 : (((n : Int) :: xs).take 0).length ≤ 0 := by rw [List.length_take]; omega
          have h5 : (ByteArray.mk (numBytes (n : Int).toNat).toArray).size = (numBytes (n : Int).toNat).length := by simp [ByteArray.size]
          omega
        have hbsz := hBB.size
        have HB := Lib.hid hBB
        have HI := Lib.hid hib2
        have HN := Lib.hid hlen
        clear hBB hib2 hlen
        go_wp2_with (fail)
        refine (writeString_c w.heap.size w.heap.size _ _ w2 HI.out HN.out hbsz).mono ?_
        rintro e w3 ⟨rfl, hib3, hB3⟩
        go_wp2_with (fail)
        go_roundw
        case rel =>
          refine ⟨0 + 1, by omega, by go_num, ?_, ?_, HB.out.trans hB3⟩
          · rw [List.take_add_one, show ((n : Int) :: xs)[0]? = some (n : Int) from rfl, Option.toList_some, rowB_snoc]
            exact hib3
          · show ∀ y ∈ _, _
            rw [List.take_add_one, show ((n : Int) :: xs)[0]? = some (n : Int) from rfl]
            intro y hy
            rcases List.mem_append.1 hy with hy | hy
            · exact hg.out y hy
            · simp at hy; subst hy; exact hgx
        case measure => simp [intOf] <;> omega
      · rw [if_neg hgx]
        go_wp2_with (fail)
        go_ret2
        exact ⟨by exact absurd ⟨by omega, by omega⟩ hgx, hBB⟩
    · obtain ⟨j, rfl⟩ : ∃ j, k = j + 1 := ⟨k - 1, by omega⟩
      by_cases hlt : j < n
      · obtain ⟨a1, o1, x, rfl, hx, hc1⟩ := (hr.below hB).int_at hlt
        have d1 : ¬ ((j : Int) < 0) := by omega
        rw [show ((j + 1 : Nat) : Int) - 1 = (j : Int) by omega]
        go_wp2_with (fail)
        refine (number_any x _).mono ?_
        rintro e w2 ⟨rfl, hB2⟩
        have hib2 : IsB w2 w.heap.size w.heap.size (rowB (((n : Int) :: xs).take (j + 1))) := isB_below hib hB2
        have hBB : Below w.heap.size w w2 := hB.trans (hB2.mono hB.size)
        clear hib hB hB2
        by_cases hgx : good x
        · rw [if_pos hgx]
          have hlen : (rowB (((n : Int) :: xs).take (j + 1))).length + (ByteArray.mk (numBytes (x : Int).toNat).toArray).size ≤ 140737488355328 := by
            have h1 := (numBytes_len (x : Int).toNat).2
            have h3 := rowB_len (((n : Int) :: xs).take (j + 1))
            have h4 : (((n : Int) :: xs).take (j + 1)).length ≤ j + 1 := by rw [List.length_take]; omega
            have h5 : (ByteArray.mk (numBytes (x : Int).toNat).toArray).size = (numBytes (x : Int).toNat).length := by simp [ByteArray.size]
            omega
          have hbsz := hBB.size
          have HB := Lib.hid hBB
          have HI := Lib.hid hib2
          have HN := Lib.hid hlen
          clear hBB hib2 hlen
          go_wp2_with (fail)
          refine (writeString_c w.heap.size w.heap.size _ _ w2 HI.out HN.out hbsz).mono ?_
          rintro e w3 ⟨rfl, hib3, hB3⟩
          go_wp2_with (fail)
          go_roundw
          case rel =>
            refine ⟨j + 1 + 1, by omega, by go_num, ?_, ?_, HB.out.trans hB3⟩
            · rw [List.take_add_one, show ((n : Int) :: xs)[j + 1]? = some x from hx.out, Option.toList_some, rowB_snoc]
              exact hib3
            · show ∀ y ∈ _, _
              rw [List.take_add_one, show ((n : Int) :: xs)[j + 1]? = some x from hx.out]
              intro y hy
              rcases List.mem_append.1 hy with hy | hy
              · exact hg.out y hy
              · simp at hy; subst hy; exact hgx
          case measure => simp [intOf] <;> omega
        · rw [if_neg hgx]
          go_wp2_with (fail)
          go_ret2
          exact ⟨by rw [rowAns_bad hx.out hgx]; rfl, hBB⟩
      · obtain rfl : j = n := by omega
        have hx : (((j : Int) :: xs).take (j + 1)) = (j : Int) :: xs := List.take_of_length_le (by simp [HL.out])
        have hans : rowAns xs = .tuple #[.string ⟨(rowB ((j : Int) :: xs)).toArray⟩, .int .i64 0] := by
          have := hg.out
          rw [hx] at this
          unfold rowAns rowBytes
          rw [if_pos (fun y hy => this y (List.mem_cons_of_mem _ hy)), HL.out]
          rfl
        have HA := Lib.hid hans
        rw [hx] at hib
        clear hans hg hx
        have hbsz := hB.size
        go_wp2_with (fail)
        refine (builderString_c w.heap.size w.heap.size _ _ hib hbsz).mono ?_
        rintro e w3 ⟨rfl, hB3⟩
        go_wp2_with (fail)
        go_ret2
        exact ⟨by rw [HA.out]; rfl, hB.trans hB3⟩
end Go.Proofs.YtmnjlhifjjainaaGreat