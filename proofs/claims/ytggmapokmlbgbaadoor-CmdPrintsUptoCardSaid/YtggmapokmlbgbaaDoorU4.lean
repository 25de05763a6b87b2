/-
  cmd: more of the library's contracts laid at this program: strings.Split, strconv.Atoi.
-/
import Derived.Shelf.Lay
import Derived.Shelf.LaySoft
import Derived.Shelf.Strings.SplitShaped
import Derived.Shelf.Strconv.AtoiAll
import Derived.Test.YtggmapokmlbgbaaDoorProg
namespace Go.Proofs
open Go.Shelf
shelf_lay LaysM.n146 Nm 146 at Tryd as Tryd.laysM146
shelf_lay LaysC.n172 Nm 172 at Tryd as Tryd.laysC172
end Go.Proofs
