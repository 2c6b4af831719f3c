/-
  slices.Concat at rows: the rows of all lists, in order.
-/
import Derived.Test.YtdklekdpdbjfiaaGreatUGrowR
namespace Go.Proofs.YtdklekdpdbjfiaaGreat
open Go.RowKit
end Go.Proofs.YtdklekdpdbjfiaaGreat
