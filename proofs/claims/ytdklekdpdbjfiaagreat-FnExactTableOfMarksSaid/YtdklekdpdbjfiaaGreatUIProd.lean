/-
  impl.productSize: the size of a product set.
-/
import Derived.Test.YtdklekdpdbjfiaaGreatM9
namespace Go.Proofs.YtdklekdpdbjfiaaGreat
open Go.RowKit
end Go.Proofs.YtdklekdpdbjfiaaGreat
