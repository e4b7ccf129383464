/-
  MailParses: the walk.
-/
import Derived.Test.YtgphijfcmegdaaaMails
namespace Go.Proofs.Ytgphijfcmegdaaa
open Go.RowKit

theorem mailParses_far (s : ByteArray) (w : World) (h : 1000 < s.size) :
    Calls Try.prog 5 #[.string s] w fun e w' => e = .returned (.bool true) ∧ Below w.heap.size w w' := by
  go_enter Try.func5, Try.ntmps5
  go_wp2_with (fail)
  go_ret
  exact ⟨rfl, Below.refl _ _⟩

set_option maxRecDepth 100000 in
set_option maxHeartbeats 2000000 in
theorem mailParses_c (s : ByteArray) (w : World) (h : s.size ≤ 1000) :
    Calls Try.prog 5 #[.string s] w fun e w' => e = .returned (.bool true) ∧ Below w.heap.size w w' := by
  have hs : s.size ≤ 1000000 := by omega
  have hl := parse_len (s := s)
  have hml : (parseL s).length ≤ maxLen := by unfold maxLen; omega
  go_enter Try.func5, Try.ntmps5
  go_wp2_with (fail)
  refine (parse_c s _ hs).mono ?_
  rintro e w1 ⟨A1, c1, rfl, ho1, hB⟩
  go_wp2_with (fail)
  refine (parse16_c s _ hs).mono ?_
  rintro e w2 ⟨A2, c2, rfl, ho2, hB2⟩
  have ho1 := own_below ho1 hB2
  have ho2 := own_more (base := w.heap.size) ho2 hB.size
  have hb := hB.trans (hB2.mono hB.size)
  clear hB hB2
  go_wp2_with (fail)
  refine (mails_c _).mono ?_
  rintro e w3 ⟨rfl, hB3⟩
  have ho1 := own_below ho1 hB3
  have ho2 := own_below ho2 hB3
  have hB := hb.trans (hB3.mono hb.size)
  clear hb hB3
  go_wp2_with (fail)
  refine (same16_c _ _ _ _ _ _ _ _ _ (own_reads ho1) (own_reads ho2) hml hml).mono ?_
  rintro e w4 ⟨rfl, hB4⟩
  have hb := hB.trans (hB4.mono hB.size)
  have hT : decide (parseL s = parseL s) = true := decide_eq_true rfl
  rw [hT]
  clear hT ho1 ho2 hB hB4 hl hml
  go_wp2_with (fail)
  go_ret
  exact ⟨rfl, hb⟩
end Go.Proofs.Ytgphijfcmegdaaa
