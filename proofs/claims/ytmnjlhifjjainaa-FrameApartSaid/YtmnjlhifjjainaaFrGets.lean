/-
  GetRequest, the reference: whole.
-/
import Derived.Test.YtmnjlhifjjainaaFrGetR3
import Derived.Test.YtmnjlhifjjainaaFrGetR1
import Derived.Test.YtmnjlhifjjainaaFrGetR0
namespace Go.Proofs.Ytmnjlhifjjainaa
open Go.RowKit

theorem refGetRequest_c (s : ByteArray) (w : World) (hs : s.size ≤ 1000000) :
    Calls Try.prog 16 #[.string s] w fun e w' => GotReq w w' s e := by
  by_cases h3 : (cN s (cN s (0, false)).2).1 = 3
  · exact refGet_three s w hs h3
  · by_cases h12 : (cN s (cN s (0, false)).2).1 = 1 ∨ (cN s (cN s (0, false)).2).1 = 2
    · exact refGet_low s w hs ⟨h3, h12⟩
    · exact refGet_else s w hs ⟨h3, h12⟩
end Go.Proofs.Ytmnjlhifjjainaa
