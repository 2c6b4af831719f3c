/-
  laws.FnRealised holds: whatever the bytes, the law answers true and the bytes read as they did. No condition. (Printed by gen_rowb.py.)
-/
import Derived.Test.YtoakmefajbbggaaGreatR17
import Derived.Test.YtoakmefajbbggaaGreatR1
import Derived.Test.YtoakmefajbbggaaGreatR2
import Derived.Test.YtoakmefajbbggaaGreatR3
import Derived.Test.YtoakmefajbbggaaGreatR4
import Derived.Test.YtoakmefajbbggaaGreatR5
import Derived.Test.YtoakmefajbbggaaGreatR6
import Derived.Test.YtoakmefajbbggaaGreatR7
import Derived.Test.YtoakmefajbbggaaGreatR8
import Derived.Test.YtoakmefajbbggaaGreatR9
import Derived.Test.YtoakmefajbbggaaGreatR10
import Derived.Test.YtoakmefajbbggaaGreatR11
import Derived.Test.YtoakmefajbbggaaGreatR12
import Derived.Test.YtoakmefajbbggaaGreatR13
import Derived.Test.YtoakmefajbbggaaGreatR14
import Derived.Test.YtoakmefajbbggaaGreatR15
import Derived.Test.YtoakmefajbbggaaGreatR16
import Derived.ArgAppend
import Derived.Sort.OwnSortedInts
import Derived.Shelf.SlSortCmp.NoneTotal
import Derived.Shelf.Lay
import Derived.Laws.BitsAllLaws
namespace Go.Proofs.YtoakmefajbbggaaGreat.RowRrOf
open Go.RowKit Go.ChangeShapes Go.WideShapes Go.ChangeAt

#print axioms proved
end Go.Proofs.YtoakmefajbbggaaGreat.RowRrOf
