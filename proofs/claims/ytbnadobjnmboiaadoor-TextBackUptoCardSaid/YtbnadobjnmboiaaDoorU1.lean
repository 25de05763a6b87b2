/-
  text: the library's contracts that this seat's functions ask for, laid at this program.
-/
import Derived.Shelf.Lay
import Derived.Shelf.LaySoft
import Derived.Shelf.Strings.Builder1
import Derived.Shelf.Strings.Builder2
import Derived.Shelf.Strings.OnBuilder
import Derived.Shelf.Strconv.Itoa0
import Derived.Shelf.Strconv.Itoa1
import Derived.Shelf.LaysM
import Derived.Shelf.Strconv.Itoa2
import Derived.Shelf.Strconv.Itoa3
import Derived.Shelf.Strings.SplitShaped
import Derived.Shelf.Strconv.AtoiAll
import Derived.Shelf.Pu.ParseUintPublic10
import Derived.Ground.MpProg
import Derived.Test.YtbnadobjnmboiaaDoorProg
namespace Go.Proofs
open Go.Shelf
shelf_lay Lays.n156 Nm 156 at Tryd as Tryd.lays156
theorem Tryd.Builder_Extra_156 : Builder.Extra Tryd.prog Tryd.lays156_ren where
  sizeBuilder := by kernel_rfl
  liesBuilder := by kernel_rfl
  t5 := Tryd.underlying5
  a5 := Tryd.isAgg5
  z5 := Tryd.sizeOf5
  v5 := Tryd.zeroValue5
  infoByte := by kernel_rfl
  cellsByte := by kernel_rfl
  sizeByte := by kernel_rfl
  neB5 := by decide
shelf_lay LaysM.n171 Nm 171 at Tryd as Tryd.laysM171
shelf_lay LaysM.n146 Nm 146 at Tryd as Tryd.laysM146
shelf_lay LaysC.n172 Nm 172 at Tryd as Tryd.laysC172
shelf_lay LaysPu.n14 Mp 14 at Tryd as Tryd.laysPu14
end Go.Proofs
