/-
  DoubleCosetSize on both sides.
-/
import Derived.Test.YtdklekdpdbjfiaaGreatUTwo
namespace Go.Proofs.YtdklekdpdbjfiaaGreat
open Go.RowKit
end Go.Proofs.YtdklekdpdbjfiaaGreat
