/- Merged from templates. -/
import Derived.Test.YtdcobapnlpeaaaaGreatY17
namespace Go.Proofs.YtdcobapnlpeaaaaGreat.RowSyOf
open Go.RowKit Go.ChangeShapes Go.WideShapes Go.ChangeAt
#print axioms proved
end Go.Proofs.YtdcobapnlpeaaaaGreat.RowSyOf
