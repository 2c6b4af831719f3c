/-
  What the program's public subgroup functions answer on subgroups (printed by gen_auxw.py).
-/
import Derived.Test.YtdklekdpdbjfiaaGreatUTwo
import Derived.Test.YtdklekdpdbjfiaaGreatUDc
import Derived.Test.YtdklekdpdbjfiaaGreatUConcat
import Derived.Test.YtdklekdpdbjfiaaGreatM5
namespace Go.Proofs.YtdklekdpdbjfiaaGreat
open Go.RowKit
end Go.Proofs.YtdklekdpdbjfiaaGreat
