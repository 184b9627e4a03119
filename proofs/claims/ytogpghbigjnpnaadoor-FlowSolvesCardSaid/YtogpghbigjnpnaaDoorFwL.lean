/-
  The sort's code, laid.
-/
import Derived.Shelf.SlSortCmp.Whole1
import Derived.Shelf.Lay
import Derived.Ground.SlsfProg
import Derived.Test.YtogpghbigjnpnaaDoorChecked
namespace Go.Proofs
open Go.Shelf Go.RowKit Go.Lib Go.Sort
shelf_lay_g SlLaysF.n6 Slsf 6 at Tryd 14 as Tryd.sortInt
end Go.Proofs
