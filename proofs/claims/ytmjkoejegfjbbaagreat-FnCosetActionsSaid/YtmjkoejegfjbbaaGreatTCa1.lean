/-
  laws.FnCosetActions holds: whatever the bytes, the law answers true and the bytes read as they did. No condition. (Printed by gen_rowb.py.)
-/
import Derived.Test.YtmjkoejegfjbbaaGreatC20
import Derived.Test.YtmjkoejegfjbbaaGreatC1
import Derived.Test.YtmjkoejegfjbbaaGreatC2
import Derived.Test.YtmjkoejegfjbbaaGreatC3
import Derived.Test.YtmjkoejegfjbbaaGreatC4
import Derived.Test.YtmjkoejegfjbbaaGreatC5
import Derived.Test.YtmjkoejegfjbbaaGreatC6
import Derived.Test.YtmjkoejegfjbbaaGreatC7
import Derived.Test.YtmjkoejegfjbbaaGreatC8
import Derived.Test.YtmjkoejegfjbbaaGreatC9
import Derived.Test.YtmjkoejegfjbbaaGreatC10
import Derived.Test.YtmjkoejegfjbbaaGreatC11
import Derived.Test.YtmjkoejegfjbbaaGreatC12
import Derived.Test.YtmjkoejegfjbbaaGreatC13
import Derived.Test.YtmjkoejegfjbbaaGreatC14
import Derived.Test.YtmjkoejegfjbbaaGreatC15
import Derived.Test.YtmjkoejegfjbbaaGreatC16
import Derived.Test.YtmjkoejegfjbbaaGreatC17
import Derived.Test.YtmjkoejegfjbbaaGreatC18
import Derived.Test.YtmjkoejegfjbbaaGreatC19
import Derived.Laws.BitsAllLaws
import Derived.Sort.OwnSortedInts
import Derived.Maps.OwnSet
import Derived.Maps.StringElems
import Derived.StringKeys
import Derived.Shelf.Spec.SlicesGrow
namespace Go.Proofs.YtmjkoejegfjbbaaGreat.RowCaOf
open Go.RowKit Go.ChangeShapes Go.WideShapes Go.ChangeAt
#print axioms proved
end Go.Proofs.YtmjkoejegfjbbaaGreat.RowCaOf
