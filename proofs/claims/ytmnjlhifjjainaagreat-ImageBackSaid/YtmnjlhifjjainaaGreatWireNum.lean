/-
  The walks of the reference's Number and Text (chapter 1).
-/
import Derived.Test.YtmnjlhifjjainaaGreatProg
import Derived.Test.YtmnjlhifjjainaaGreatOwn
import Derived.Test.YtmnjlhifjjainaaGreatWirePlain
import Derived.Test.YtmnjlhifjjainaaGreatBuilder
import Derived.BigQuiet
namespace Go.Proofs.YtmnjlhifjjainaaGreat
open Go.RowKit

theorem elByte : Elem Tryz.prog 51 5 1 1 := Elem.mk_ Tryz.underlying51 (z := .int .u8 0) (by kernel_rfl) rfl (by decide)

theorem bytes_append (l m : List UInt8) : Lib.byteCells (l ++ m) = Lib.byteCells l ++ Lib.byteCells m := by simp [Lib.byteCells]
theorem bytes_one (n : Nat) (x : Int) (h : n < 256) (hx : x = (n : Int)) : #[Value.int .u8 x].toList = Lib.byteCells [UInt8.ofNat n] := by
  subst hx
  simp only [Lib.byteCells, List.map_cons, List.map_nil]
  rw [u8_ofNat n h]

set_option maxRecDepth 100000 in
/-- 'string(b)', b a row of the call's own that holds the bytes l. -/
theorem convert_own {w : World} {base n c : Nat} {A : Option Addr} {l : List UInt8} (h : w.ownsRow base 5 1 (.slice A n c) n (Lib.byteCells l)) (hn : 0 < n) :
    (convert 51 9 (.slice A n c)).run Tryz.prog w = .ok (.string ⟨l.toArray⟩) w := by
  have hl : l.length = n := by have := h.1; rw [Lib.byteCells_length] at this; omega
  obtain ⟨g, cap, hv, _⟩ := h.form hn
  injection hv with hA
  subst hA
  subst hl
  refine run_convert_bytes_back w _ _ 5 ⟨g, 0, none⟩ c l Tryz.underlying51 Tryz.underlying5 Tryz.underlying9 (fun j hj => ?_)
  rw [Addr.add_lit, Nat.zero_add, h.cellAt j (by omega)]
  simp [Lib.byteCells, hj]

end Go.Proofs.YtmnjlhifjjainaaGreat
