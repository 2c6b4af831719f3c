/- Merged from templates. -/
import Derived.Test.YtdcobapnlpeaaaaGreatX17
namespace Go.Proofs.YtdcobapnlpeaaaaGreat.RowLtOf
open Go.RowKit Go.ChangeShapes Go.WideShapes Go.ChangeAt
#print axioms proved
end Go.Proofs.YtdcobapnlpeaaaaGreat.RowLtOf
