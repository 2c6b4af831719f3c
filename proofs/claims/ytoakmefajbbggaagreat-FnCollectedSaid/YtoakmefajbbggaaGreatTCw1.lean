/-
  laws.FnCollected holds: whatever the bytes, the law answers true and the bytes read as they did. No condition. (Printed by gen_rowb.py.)
-/
import Derived.Test.YtoakmefajbbggaaGreatQ13
import Derived.Test.YtoakmefajbbggaaGreatQ1
import Derived.Test.YtoakmefajbbggaaGreatQ2
import Derived.Test.YtoakmefajbbggaaGreatQ3
import Derived.Test.YtoakmefajbbggaaGreatQ4
import Derived.Test.YtoakmefajbbggaaGreatQ5
import Derived.Test.YtoakmefajbbggaaGreatQ6
import Derived.Test.YtoakmefajbbggaaGreatQ7
import Derived.Test.YtoakmefajbbggaaGreatQ8
import Derived.Test.YtoakmefajbbggaaGreatQ9
import Derived.Test.YtoakmefajbbggaaGreatQ10
import Derived.Test.YtoakmefajbbggaaGreatQ11
import Derived.Test.YtoakmefajbbggaaGreatQ12
import Derived.ArgAppend
import Derived.Laws.BitsAllLaws
import Derived.Sort.OwnSortedInts
import Derived.Deep.RegionHeld3
namespace Go.Proofs.YtoakmefajbbggaaGreat.RowCwOf
open Go.RowKit Go.ChangeShapes Go.WideShapes Go.ChangeAt

#print axioms proved
end Go.Proofs.YtoakmefajbbggaaGreat.RowCwOf
