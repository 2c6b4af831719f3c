/-
  Three-fold lists in blocks of their own: a reading that names its blocks.
-/
import Derived.Test.YtdklekdpdbjfiaaGreatK1
namespace Go.Proofs.YtdklekdpdbjfiaaGreat
open Go.RowKit

theorem rdRows3 : RdOk (fun F w u (x : List (List (List Int))) => Rows3D F w u x) :=
  ⟨fun h hb => SlD.mono rdRows h hb, fun h => by obtain ⟨_, _, _, _, _, a, cap, rfl, _⟩ := h; rfl⟩

end Go.Proofs.YtdklekdpdbjfiaaGreat
