/-
  The walks of the reference's Number and Text (chapter 1).
-/
import Derived.Test.YtmnjlhifjjainaaProg
import Derived.Test.YtmnjlhifjjainaaOwn
import Derived.Test.YtmnjlhifjjainaaWirePlain
import Derived.Test.YtmnjlhifjjainaaBuilder
import Derived.BigQuiet
namespace Go.Proofs.Ytmnjlhifjjainaa
open Go.RowKit

theorem elByte : Elem Try.prog 63 5 1 1 := Elem.mk_ Try.underlying63 (z := .int .u8 0) (by kernel_rfl) rfl (by decide)

theorem bytes_append (l m : List UInt8) : Lib.byteCells (l ++ m) = Lib.byteCells l ++ Lib.byteCells m := by simp [Lib.byteCells]
theorem bytes_one (n : Nat) (x : Int) (h : n < 256) (hx : x = (n : Int)) : #[Value.int .u8 x].toList = Lib.byteCells [UInt8.ofNat n] := by
  subst hx
  simp only [Lib.byteCells, List.map_cons, List.map_nil]
  rw [u8_ofNat n h]

set_option maxRecDepth 100000 in
/-- 'string(b)', b a row of the call's own that holds the bytes l. -/
theorem convert_own {w : World} {base n c : Nat} {A : Option Addr} {l : List UInt8} (h : w.ownsRow base 5 1 (.slice A n c) n (Lib.byteCells l)) (hn : 0 < n) :
    (convert 63 9 (.slice A n c)).run Try.prog w = .ok (.string ⟨l.toArray⟩) w := by
  have hl : l.length = n := by have := h.1; rw [Lib.byteCells_length] at this; omega
  obtain ⟨g, cap, hv, _⟩ := h.form hn
  injection hv with hA
  subst hA
  subst hl
  refine run_convert_bytes_back w _ _ 5 ⟨g, 0, none⟩ c l Try.underlying63 Try.underlying5 Try.underlying9 (fun j hj => ?_)
  rw [Addr.add_lit, Nat.zero_add, h.cellAt j (by omega)]
  simp [Lib.byteCells, hj]

theorem refNumber_no (n : Int) (w : World) (h : n < 0 ∨ 2147483647 < n) :
    Calls Try.prog 64 #[.int .i64 n] w fun e w' => e = .returned (.tuple #[.string ⟨#[]⟩, .int .i64 1]) ∧ w = w' := by
  rcases h with h | h
  · go_enter Try.func64, Try.ntmps64
    go_wp2
    go_ret2
    exact ⟨rfl, rfl⟩
  · have h' : ¬ n < 0 := by omega
    go_enter Try.func64, Try.ntmps64
    go_wp2
    go_ret2
    exact ⟨rfl, rfl⟩

set_option maxRecDepth 100000 in
theorem refNumber_c (n : Nat) (w : World) (h : n ≤ maxNum) :
    Calls Try.prog 64 #[.int .i64 n] w fun e w' => e = .returned (.tuple #[.string ⟨(numBytes n).toArray⟩, .int .i64 0]) ∧ Below w.heap.size w w' := by
  have hmax : n ≤ 2147483647 := h
  have HM := Lib.hid h
  have d1 : decide ((n : Int) < 0) = false := by simp
  clear h
  go_enter Try.func64, Try.ntmps64
  go_wp2
  go_loopw [0, 4] (fun x out wr => ∃ (m : Nat) (pre : List UInt8) (A : Option Addr) (c : Nat), m ≤ n ∧ x = .int .i64 m ∧ out = .slice A pre.length c ∧ wr.ownsRow w.heap.size 5 1 (.slice A pre.length c) pre.length (Lib.byteCells pre) ∧
      Hid (pre ++ numBytes m = numBytes n) ∧ Below w.heap.size w wr) (fun x _ _ => (intOf x).toNat)
  case atStart => exact ⟨n, [], none, 0, Nat.le_refl _, rfl, rfl, own_nil, rfl, Below.refl _ _⟩
  case round =>
    obtain ⟨m, pre, A, c, hm, rfl, rfl, ho, heq, hB⟩ := hrel
    have hsz := hB.size
    have hpl : pre.length ≤ 5 := by
      have h1 := (numBytes_len n).2
      rw [← heq.out, List.length_append] at h1; omega
    by_cases hlt : 128 ≤ m
    · go_wp2_with (at_builtin; refine wpList_push elByte rfl _ _ rfl ho rfl _ rfl rfl (one_int _ _) (by unfold maxLen; omega) (by omega) hsz ?_; intro A4 c4 w4 ho4 p4)
      go_roundw
      case rel =>
        refine ⟨m / 128, pre ++ [UInt8.ofNat (128 + m % 128)], A4, c4, by omega, by go_num, by simp, ?_, ?_, p4.below ho hB (Nat.le_refl _) hsz⟩
        · rw [bytes_append, ← bytes_one (128 + m % 128) _ (by omega) (by go_num), List.length_append]
          exact ho4
        · show _ = _
          rw [← heq.out, numBytes_big m hlt (Nat.le_trans hm HM.out), List.append_assoc]; rfl
      case measure => simp [intOf]; omega
    · have hfin : Hid (pre ++ [UInt8.ofNat m] = numBytes n) := by show _ = _; rw [← heq.out, numBytes_small m (by omega)]
      go_wp2_with (at_builtin; refine wpList_push elByte rfl _ _ rfl ho rfl _ rfl rfl (one_int _ _) (by unfold maxLen; omega) (by omega) hsz ?_; intro A4 c4 w4 ho4 p4; rw [bytes_one m _ (by omega) rfl, ← bytes_append, hfin.out] at ho4; have hcv := convert_own ho4 (by omega))
      go_ret2
      exact ⟨rfl, p4.below ho hB (Nat.le_refl _) hsz⟩
end Go.Proofs.Ytmnjlhifjjainaa
