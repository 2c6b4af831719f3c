/-
  What a law over one presentation and one list keeps in view.
-/
import Derived.Test.YtljdneobfbimiaaK3
namespace Go.Proofs.Ytljdneobfbimiaa
open Go.RowKit

end Go.Proofs.Ytljdneobfbimiaa
