/-
  ProductSize, SubgroupMeet, DoubleCosetSize on both sides.
-/
import Derived.Test.YtdklekdpdbjfiaaGreatUSProd
import Derived.Test.YtdklekdpdbjfiaaGreatM9
import Derived.Test.YtdklekdpdbjfiaaGreatUSubEl
namespace Go.Proofs.YtdklekdpdbjfiaaGreat
open Go.RowKit
end Go.Proofs.YtdklekdpdbjfiaaGreat
