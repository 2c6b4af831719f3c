/- Merged from templates. -/
import Derived.Test.YtoakmefajbbggaaGreatM17
namespace Go.Proofs.YtoakmefajbbggaaGreat.RowMkOf
open Go.RowKit Go.ChangeShapes Go.WideShapes Go.ChangeAt
#print axioms proved
end Go.Proofs.YtoakmefajbbggaaGreat.RowMkOf
