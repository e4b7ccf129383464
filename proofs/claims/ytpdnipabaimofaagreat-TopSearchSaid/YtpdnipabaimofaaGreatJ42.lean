/-
  Postings, as an argument.
-/
import Derived.Test.YtpdnipabaimofaaGreatJ17
namespace Go.Proofs.YtpdnipabaimofaaGreat
open Go.RowKit

/-- What the postings are. -/
structure PsArg (w : World) (A : Option Addr) (n : Nat) (L : List Pst) : Prop where
  in_ : PsIn w w.heap.size A n L
  n_ : n ≤ maxLen
  w_ : ∀ p ∈ L, p.w.size ≤ maxLen
end Go.Proofs.YtpdnipabaimofaaGreat
