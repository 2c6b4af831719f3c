/- Merged from templates. -/
import Derived.Test.YtldheeicjnncoaaGreatF17
import Derived.Shelf.SlSortCmp.NoneTotal
import Derived.Maps.OwnSet
import Derived.Maps.StringElems
import Derived.StringKeys
import Derived.Shelf.Spec.SlicesGrow
namespace Go.Proofs.YtldheeicjnncoaaGreat.RowQnOf
open Go.RowKit Go.ChangeShapes Go.WideShapes Go.ChangeAt
#print axioms proved
end Go.Proofs.YtldheeicjnncoaaGreat.RowQnOf
