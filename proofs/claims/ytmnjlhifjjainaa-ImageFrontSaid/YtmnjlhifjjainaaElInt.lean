/-
  Slices of integers: their elements.
-/
import Derived.Test.YtmnjlhifjjainaaProg
import Derived.Test.YtmnjlhifjjainaaOwn
import Derived.Handy
import Derived.BigQuiet
import Derived.WalkLawsBesides
import Derived.WalkSpells
namespace Go.Proofs.Ytmnjlhifjjainaa
open Go.RowKit

theorem elInt : Elem Try.prog 74 3 1 8 := Elem.mk_ Try.underlying74 (z := .int .i64 0) (by kernel_rfl) rfl (by decide)
end Go.Proofs.Ytmnjlhifjjainaa
