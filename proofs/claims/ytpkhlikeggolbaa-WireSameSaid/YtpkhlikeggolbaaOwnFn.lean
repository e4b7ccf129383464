/-
  The walk of Own.
-/
import Derived.Test.YtpkhlikeggolbaaProg
import Derived.Test.YtpkhlikeggolbaaOwn
import Derived.Handy
import Derived.BigQuiet
import Derived.WalkLawsBesides
import Derived.WalkSpells
namespace Go.Proofs.Ytpkhlikeggolbaa
open Go.RowKit

theorem elInt : Elem Try.prog 22 3 1 8 := Elem.mk_ Try.underlying22 (z := .int .i64 0) (by kernel_rfl) rfl (by decide)

theorem own_c (A : Option Addr) (n c : Nat) (xs : List Int) (w : World) (h1 : Reads w w.heap.size 1 A n (iv xs)) (hn : n * 8 ≤ 140737488355328) :
    Calls Try.prog 16 #[.slice A n c] w fun e w' => ∃ A' c', e = .returned (.slice A' n c') ∧ w'.ownsRow w.heap.size 3 1 (.slice A' n c') n (iv xs) ∧ Below w.heap.size w w' := by
  go_enter Try.func16, Try.ntmps16
  go_wp2_with (at_builtin; refine wpList_cat elInt rfl _ _ rfl (own_nil (base := w.heap.size)) rfl h1 rfl (iv_one _) (by unfold maxLen; omega) (by omega) (Nat.le_refl _) ?_; intro A1 c1 w1 hown p1)
  go_ret
  exact ⟨A1, c1, rfl, by simpa using hown, p1.below0 (Below.refl _ _) (Nat.le_refl _)⟩
end Go.Proofs.Ytpkhlikeggolbaa
