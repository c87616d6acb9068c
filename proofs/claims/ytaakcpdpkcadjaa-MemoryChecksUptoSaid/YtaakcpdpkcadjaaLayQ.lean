/-
  layings of the library's contracts
-/
import Derived.Shelf.Lay
import Derived.Shelf.LaySoft
import Derived.Shelf.SlSortCmp.WholeK
import Derived.Shelf.SlSortCmp.NoneTotal
import Derived.Shelf.SlicesG.Cmp
import Derived.Ground.SlsfProg
import Derived.Ground.SlgcProg
import Derived.Test.YtaakcpdpkcadjaaProg
namespace Go.Proofs
open Go.Shelf
shelf_try shelf_lay_g SlLaysF0.n6 Slsf 6 at Try 56 as Try.layPairs
shelf_try shelf_lay_g SlLaysC2.n5 Slgc 5 at Try 59 as Try.layCmpInt
shelf_tried
end Go.Proofs
