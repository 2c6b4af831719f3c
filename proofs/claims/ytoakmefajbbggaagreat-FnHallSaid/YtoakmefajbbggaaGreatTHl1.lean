/- Merged from templates. -/
import Derived.Test.YtoakmefajbbggaaGreatH17
namespace Go.Proofs.YtoakmefajbbggaaGreat.RowHlOf
open Go.RowKit Go.ChangeShapes Go.WideShapes Go.ChangeAt
#print axioms proved
end Go.Proofs.YtoakmefajbbggaaGreat.RowHlOf
