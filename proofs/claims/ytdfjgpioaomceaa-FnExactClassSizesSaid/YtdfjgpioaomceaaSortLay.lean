/-
  The library's sort at [][]int64, laid from the shelf.
-/
import Derived.Test.YtdfjgpioaomceaaRowsA
import Derived.Shelf.SlSortCmp.NoneTotal
import Derived.Shelf.Lay
namespace Go.Proofs.Ytdfjgpioaomceaa
open Go.Proofs Go.Shelf Go.RowKit Go.Lib Go.Sort
shelf_lay_g SlLaysF.n6 Slsf 6 at Try 51 as Try.sortRows
end Go.Proofs.Ytdfjgpioaomceaa
