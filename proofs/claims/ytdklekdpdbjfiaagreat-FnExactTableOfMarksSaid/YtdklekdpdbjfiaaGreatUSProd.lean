/-
  Sizes of product sets on both sides; the reference's conjugate of a subgroup: spec.l13Conj, l13Size, impl.productSize.
-/
import Derived.Test.YtdklekdpdbjfiaaGreatUSMeet
import Derived.Test.YtdklekdpdbjfiaaGreatUIProd
import Derived.Test.YtdklekdpdbjfiaaGreatM9
namespace Go.Proofs.YtdklekdpdbjfiaaGreat
open Go.RowKit
end Go.Proofs.YtdklekdpdbjfiaaGreat
