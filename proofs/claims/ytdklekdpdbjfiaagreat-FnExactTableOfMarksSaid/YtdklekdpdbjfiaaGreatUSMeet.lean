/-
  The reference's intersections, conjugates and sizes of product sets: spec.l13Meet, l13Conj, l13Size; impl.productSize.
-/
import Derived.Test.YtdklekdpdbjfiaaGreatM9
import Derived.Test.YtdklekdpdbjfiaaGreatM5
namespace Go.Proofs.YtdklekdpdbjfiaaGreat
open Go.RowKit
end Go.Proofs.YtdklekdpdbjfiaaGreat
