/-
  The contracts of chapter 1's functions, whole: one answer each, for every argument.
-/
import Derived.Test.YtmnjlhifjjainaaGreatWireOut
namespace Go.Proofs.YtmnjlhifjjainaaGreat
open Go.RowKit

def numStr (x : Int) : ByteArray := if good x then ⟨(numBytes x.toNat).toArray⟩ else ⟨#[]⟩
def numErr (x : Int) : Int := if good x then 0 else 1
def numV (x : Int) : Value := .tuple #[.string (numStr x), .int .i64 (numErr x)]

theorem num_val (x : Int) : (if good x then Value.tuple #[.string ⟨(numBytes x.toNat).toArray⟩, .int .i64 0] else .tuple #[.string ⟨#[]⟩, .int .i64 1]) = numV x := by
  unfold numV numStr numErr
  by_cases h : good x
  · simp only [if_pos h]
  · simp only [if_neg h]

theorem numberT (x : Int) (w : World) : Calls Tryz.prog 18 #[.int .i64 x] w fun e w' => e = .returned (numV x) ∧ Below w.heap.size w w' := by
  rw [← num_val]; exact number_any x w
def textStr (s : ByteArray) : ByteArray := if s.size ≤ 4000 then textBytes s else ⟨#[]⟩
def textErr (s : ByteArray) : Int := if s.size ≤ 4000 then 0 else 2
def textV (s : ByteArray) : Value := .tuple #[.string (textStr s), .int .i64 (textErr s)]

theorem textT (s : ByteArray) (w : World) : Calls Tryz.prog 20 #[.string s] w fun e w' => e = .returned (textV s) ∧ Below w.heap.size w w' := by
  unfold textV textStr textErr
  by_cases h : s.size ≤ 4000
  · simp only [if_pos h]; exact text_c s w h
  · simp only [if_neg h]
    refine (text_no s w (by omega)).mono ?_
    rintro e w' ⟨rfl, rfl⟩
    exact ⟨rfl, Below.refl _ _⟩
def allGood (xs : List Int) : Prop := xs.length ≤ 4000 ∧ ∀ x ∈ xs, good x
instance (xs : List Int) : Decidable (allGood xs) := by unfold allGood; infer_instance
def rowStr (xs : List Int) : ByteArray := if allGood xs then ⟨(rowBytes xs).toArray⟩ else ⟨#[]⟩
def rowErr (xs : List Int) : Int := if xs.length ≤ 4000 then (if ∀ x ∈ xs, good x then 0 else 1) else 2
def rowV (xs : List Int) : Value := .tuple #[.string (rowStr xs), .int .i64 (rowErr xs)]

theorem rowV_few {xs : List Int} (h : xs.length ≤ 4000) : rowAns xs = rowV xs := by
  unfold rowAns rowV rowStr rowErr
  by_cases hg : ∀ x ∈ xs, good x
  · have ha : allGood xs := ⟨h, hg⟩
    simp only [if_pos hg, if_pos h, if_pos ha]
  · have ha : ¬ allGood xs := fun a => hg a.2
    simp only [if_neg hg, if_pos h, if_neg ha]
theorem rowV_many {xs : List Int} (h : 4000 < xs.length) : rowV xs = .tuple #[.string ⟨#[]⟩, .int .i64 2] := by
  unfold rowV rowStr rowErr
  have ha : ¬ allGood xs := fun a => by have := a.1; omega
  have hn : ¬ xs.length ≤ 4000 := by omega
  simp only [if_neg ha, if_neg hn]

theorem numbersT (A : Option Addr) (n c : Nat) (xs : List Int) (w : World) (hr : Reads w w.heap.size 1 A n (iv xs)) :
    Calls Tryz.prog 19 #[.slice A n c] w fun e w' => e = .returned (rowV xs) ∧ Below w.heap.size w w' := by
  have hl := hr.int_len
  by_cases h : n ≤ 4000
  · rw [← rowV_few (by omega)]; exact numbers_c A n c xs w hr h
  · rw [rowV_many (by omega)]
    refine (numbers_no A n c w (by omega)).mono ?_
    rintro e w' ⟨rfl, rfl⟩
    exact ⟨rfl, Below.refl _ _⟩
def anNum : Option (Nat × Nat) → Int
  | some (n, _) => n
  | none => 0
def anPlace {α : Type} : Option (α × Nat) → Int
  | some (_, q) => q
  | none => 0
def anText : Option (ByteArray × Nat) → ByteArray
  | some (t, _) => t
  | none => ⟨#[]⟩
def anRow : Option (List Int × Nat) → List Int
  | some (xs, _) => xs
  | none => []

theorem numAns_all (o : Option (Nat × Nat)) : numAns o = .tuple #[.int .i64 (anNum o), .int .i64 (anPlace o), .bool o.isSome] := by
  rcases o with _ | ⟨n, q⟩ <;> rfl
theorem textAns_all (o : Option (ByteArray × Nat)) : textAns o = .tuple #[.string (anText o), .int .i64 (anPlace o), .bool o.isSome] := by
  rcases o with _ | ⟨n, q⟩ <;> rfl
theorem numsAns_all {w w' : World} {v : Value} {o : Option (List Int × Nat)} (h : NumsAns w w' v o) :
    ∃ A c, v = .tuple #[.slice A (anRow o).length c, .int .i64 (anPlace o), .bool o.isSome] ∧ w'.ownsRow w.heap.size 3 1 (.slice A (anRow o).length c) (anRow o).length (iv (anRow o)) := by
  rcases o with _ | ⟨xs, q⟩
  · obtain rfl : v = _ := h
    exact ⟨none, 0, rfl, own_nil⟩
  · obtain ⟨A, c, rfl, ho⟩ := h
    exact ⟨A, c, rfl, ho⟩

theorem readNumberT (s : ByteArray) (p : Int) (w : World) (hs : s.size ≤ 1000000) :
    Calls Tryz.prog 50 #[.string s, .int .i64 p] w fun e w' => e = .returned (.tuple #[.int .i64 (anNum (rdAt s p)), .int .i64 (anPlace (rdAt s p)), .bool (rdAt s p).isSome]) ∧ Below w.heap.size w w' := by
  rw [← numAns_all]; exact readNumber_c s p w hs
theorem readTextT (s : ByteArray) (p : Int) (w : World) (hs : s.size ≤ 1000000) :
    Calls Tryz.prog 54 #[.string s, .int .i64 p] w fun e w' => e = .returned (.tuple #[.string (anText (rdText s p)), .int .i64 (anPlace (rdText s p)), .bool (rdText s p).isSome]) ∧ Below w.heap.size w w' := by
  rw [← textAns_all]; exact readText_c s p w hs
theorem readNumbersT (s : ByteArray) (p : Int) (w : World) (hs : s.size ≤ 1000000) :
    Calls Tryz.prog 52 #[.string s, .int .i64 p] w fun e w' => (∃ A c, e = .returned (.tuple #[.slice A (anRow (rdNums s p)).length c, .int .i64 (anPlace (rdNums s p)), .bool (rdNums s p).isSome]) ∧
      w'.ownsRow w.heap.size 3 1 (.slice A (anRow (rdNums s p)).length c) (anRow (rdNums s p)).length (iv (anRow (rdNums s p)))) ∧ Below w.heap.size w w' := by
  refine (readNumbers_c s p w hs).mono ?_
  rintro e w' ⟨⟨v, rfl, h⟩, hB⟩
  obtain ⟨A, c, rfl, ho⟩ := numsAns_all h
  exact ⟨⟨A, c, rfl, ho⟩, hB⟩
end Go.Proofs.YtmnjlhifjjainaaGreat
