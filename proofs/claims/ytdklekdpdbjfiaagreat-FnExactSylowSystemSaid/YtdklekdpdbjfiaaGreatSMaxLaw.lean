/-
  The maximal subgroups, by the masks.
-/
import Derived.Test.YtdklekdpdbjfiaaGreatK6
namespace Go.Proofs.YtdklekdpdbjfiaaGreat
open Go.RowKit

end Go.Proofs.YtdklekdpdbjfiaaGreat
