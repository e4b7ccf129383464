/-
  Slices of integers: their elements.
-/
import Derived.Test.YtmnjlhifjjainaaGreatProg
import Derived.Test.YtmnjlhifjjainaaGreatOwn
import Derived.Handy
import Derived.BigQuiet
import Derived.WalkLawsBesides
import Derived.WalkSpells
namespace Go.Proofs.YtmnjlhifjjainaaGreat
open Go.RowKit

theorem elInt : Elem Tryz.prog 49 3 1 8 := Elem.mk_ Tryz.underlying49 (z := .int .i64 0) (by kernel_rfl) rfl (by decide)
end Go.Proofs.YtmnjlhifjjainaaGreat
