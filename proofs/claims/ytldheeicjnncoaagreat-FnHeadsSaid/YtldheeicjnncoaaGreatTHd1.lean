/-
  laws.FnHeads holds: whatever the bytes, the law answers true and the bytes read as they did. No condition. (Printed by gen_rowb.py.)
-/
import Derived.Test.YtldheeicjnncoaaGreatE13
import Derived.Test.YtldheeicjnncoaaGreatE1
import Derived.Test.YtldheeicjnncoaaGreatE2
import Derived.Test.YtldheeicjnncoaaGreatE3
import Derived.Test.YtldheeicjnncoaaGreatE4
import Derived.Test.YtldheeicjnncoaaGreatE5
import Derived.Test.YtldheeicjnncoaaGreatE6
import Derived.Test.YtldheeicjnncoaaGreatE7
import Derived.Test.YtldheeicjnncoaaGreatE8
import Derived.Test.YtldheeicjnncoaaGreatE9
import Derived.Test.YtldheeicjnncoaaGreatE10
import Derived.Test.YtldheeicjnncoaaGreatE11
import Derived.Test.YtldheeicjnncoaaGreatE12
import Derived.Sort.OwnSortedInts
import Derived.Shelf.SlSortCmp.NoneTotal
import Derived.Shelf.Lay
import Derived.Maps.OwnSet
import Derived.Maps.StringElems
import Derived.StringKeys
import Derived.StillTailTactics
import Derived.Shelf.Spec.SlicesGrow
import Derived.Laws.BitsAllLaws
namespace Go.Proofs.YtldheeicjnncoaaGreat.RowHdOf
open Go.RowKit Go.ChangeShapes Go.WideShapes Go.ChangeAt

#print axioms proved
end Go.Proofs.YtldheeicjnncoaaGreat.RowHdOf
