/-
  Plain: what holds while a table by depths grows: each element that was looked at is neutral, waits in the queue, or is led deeper by the table.
-/
import Derived.Test.YtljdneobfbimiaaSSubSeq
namespace Go.Proofs.Ytljdneobfbimiaa

section
variable {P : Pr} (G : Grp P)
include G

end

end Go.Proofs.Ytljdneobfbimiaa
