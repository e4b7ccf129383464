/-
  Number of wire and of the reference: one answer each.
-/
import Derived.Test.YtmnjlhifjjainaaWireNumP
namespace Go.Proofs.Ytmnjlhifjjainaa
open Go.RowKit

theorem cat_bytes (l : List UInt8) (s : ByteArray) : (⟨l.toArray⟩ : ByteArray) ++ s = ⟨(l ++ s.data.toList).toArray⟩ := by
  apply ByteArray.ext
  rw [ByteArray.data_append]
  apply Array.ext'
  simp

/-- May it be laid? -/
def good (x : Int) : Prop := 0 ≤ x ∧ x ≤ 2147483647
instance (x : Int) : Decidable (good x) := by unfold good; infer_instance

theorem refNumber_any (x : Int) (w : World) :
    Calls Try.prog 64 #[.int .i64 x] w fun e w' => e = .returned (if good x then .tuple #[.string ⟨(numBytes x.toNat).toArray⟩, .int .i64 0] else .tuple #[.string ⟨#[]⟩, .int .i64 1]) ∧ Below w.heap.size w w' := by
  by_cases h : good x
  · obtain ⟨h1, h2⟩ := id h
    rw [if_pos h]
    obtain ⟨n, rfl⟩ : ∃ n : Nat, x = n := ⟨x.toNat, by omega⟩
    exact refNumber_c n w (by unfold maxNum; omega)
  · rw [if_neg h]
    refine (refNumber_no x w (by unfold good at h; omega)).mono ?_
    rintro e w' ⟨rfl, rfl⟩
    exact ⟨rfl, Below.refl _ _⟩

theorem number_any (x : Int) (w : World) :
    Calls Try.prog 61 #[.int .i64 x] w fun e w' => e = .returned (if good x then .tuple #[.string ⟨(numBytes x.toNat).toArray⟩, .int .i64 0] else .tuple #[.string ⟨#[]⟩, .int .i64 1]) ∧ Below w.heap.size w w' := by
  by_cases h : good x
  · obtain ⟨h1, h2⟩ := id h
    rw [if_pos h]
    obtain ⟨n, rfl⟩ : ∃ n : Nat, x = n := ⟨x.toNat, by omega⟩
    exact number_c n w (by unfold maxNum; omega)
  · rw [if_neg h]
    refine (number_no x w (by unfold good at h; omega)).mono ?_
    rintro e w' ⟨rfl, rfl⟩
    exact ⟨rfl, Below.refl _ _⟩

def numStr (x : Int) : ByteArray := if good x then ⟨(numBytes x.toNat).toArray⟩ else ⟨#[]⟩
def numErr (x : Int) : Int := if good x then 0 else 1
def numV (x : Int) : Value := .tuple #[.string (numStr x), .int .i64 (numErr x)]

theorem num_val (x : Int) : (if good x then Value.tuple #[.string ⟨(numBytes x.toNat).toArray⟩, .int .i64 0] else .tuple #[.string ⟨#[]⟩, .int .i64 1]) = numV x := by
  unfold numV numStr numErr
  by_cases h : good x
  · simp only [if_pos h]
  · simp only [if_neg h]

theorem numberT (x : Int) (w : World) : Calls Try.prog 61 #[.int .i64 x] w fun e w' => e = .returned (numV x) ∧ Below w.heap.size w w' := by
  rw [← num_val]; exact number_any x w
theorem refNumberT (x : Int) (w : World) : Calls Try.prog 64 #[.int .i64 x] w fun e w' => e = .returned (numV x) ∧ Below w.heap.size w w' := by
  rw [← num_val]; exact refNumber_any x w

theorem size_list (s : ByteArray) : s.data.toList.length = s.size := by rw [Array.length_toList]; rfl

theorem bytes_ext {s t : ByteArray} (h : s.data.toList = t.data.toList) : s = t := ByteArray.ext (Array.ext' h)

theorem good_max {x : Int} (h : good x) : x.toNat ≤ maxNum := by have := h.2; unfold maxNum; omega

theorem numBytes_front {n m : Nat} (hn : n ≤ maxNum) (hm : m ≤ maxNum) {r r' : List UInt8} (h : numBytes n ++ r = numBytes m ++ r') : n = m ∧ r = r' := by
  have h1 := rdNum_back n r hn
  rw [h, rdNum_back m r' hm] at h1
  injection h1 with h1
  injection h1 with h1 h2
  subst h1
  exact ⟨rfl, List.append_cancel_left h⟩

theorem numStr_list {n : Int} (h : good n) : (numStr n).data.toList = numBytes n.toNat := by unfold numStr; rw [if_pos h]
theorem numErr_good {n : Int} (h : good n) : numErr n = 0 := by unfold numErr; rw [if_pos h]
theorem numStr_len (n : Int) : (numStr n).size ≤ 5 := by
  by_cases h : good n
  · rw [← size_list, numStr_list h]; exact (numBytes_len _).2
  · unfold numStr; rw [if_neg h]; exact Nat.zero_le _
end Go.Proofs.Ytmnjlhifjjainaa
