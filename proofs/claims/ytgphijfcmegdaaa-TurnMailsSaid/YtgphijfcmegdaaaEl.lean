/-
  The rows' element types: numbers and messages.
-/
import Derived.Test.YtgphijfcmegdaaaOwn
import Derived.Test.YtgphijfcmegdaaaProg
import Derived.Handy
import Derived.BigQuiet
import Derived.WalkLawsBesides
import Derived.WalkSpells
namespace Go.Proofs.Ytgphijfcmegdaaa
open Go.RowKit

theorem elInt : Elem Try.prog 23 3 1 8 := Elem.mk_ Try.underlying23 (z := .int .i64 0) (by kernel_rfl) rfl (by decide)
theorem elMail : Elem Try.prog 22 31 4 32 := Elem.mk_ Try.underlying22 (z := .agg #[.int .i64 0, .int .i64 0, .int .i64 0, .int .i64 0]) (by kernel_rfl) rfl (by decide)
theorem infoMail : (Try.prog.info? 31).map (fun i => (i.zero, i.size, i.bytes)) = some (some (.agg #[.int .i64 0, .int .i64 0, .int .i64 0, .int .i64 0]), 4, 32) := by kernel_rfl
end Go.Proofs.Ytgphijfcmegdaaa
