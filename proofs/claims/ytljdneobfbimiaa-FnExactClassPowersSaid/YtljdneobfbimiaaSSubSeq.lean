/-
  Plain: the canonical sequence of a subgroup is one: a table that is reduced is determined by the subgroup; so are representatives of cosets.
-/
import Derived.Test.YtljdneobfbimiaaSSub
namespace Go.Proofs.Ytljdneobfbimiaa

section
variable {P : Pr} (G : Grp P)
include G

end

end Go.Proofs.Ytljdneobfbimiaa
