/-
  text: more of the library laid: Builder's writes, TrimSuffix, IndexByte.
-/
import Derived.Shelf.Strings.Prefix
import Derived.Shelf.Strings.Search1
import Derived.Test.YtbnadobjnmboiaaDoorU1
namespace Go.Proofs
open Go.Shelf
shelf_lay Lays.n102 Nm 102 at Tryd as Tryd.lays102
shelf_lay Lays.n217 Nm 217 at Tryd as Tryd.lays217
/-- the numbers of Join's closure, and WriteByte's -/
def Tryd.renB : Ren := ⟨fun x => if x = 167 then 37 else Tryd.lays156_ren.f x, Tryd.lays156_ren.t, Tryd.lays156_ren.g⟩
theorem Tryd.layB167 : Lays.n167 Tryd.prog Tryd.renB where
  mixed := Tryd.lays156.mixed
  f167 := by kernel_rfl
  f240 := Tryd.lays156.f240
  f276 := Tryd.lays156.f276
  t0 := Tryd.lays156.t0
  a0 := Tryd.lays156.a0
  z0 := Tryd.lays156.z0
  v0 := Tryd.lays156.v0
  t4 := Tryd.lays156.t4
  a4 := Tryd.lays156.a4
  z4 := Tryd.lays156.z4
  v4 := Tryd.lays156.v4
  t5 := Tryd.underlying5
  a5 := Tryd.isAgg5
  z5 := Tryd.sizeOf5
  v5 := Tryd.zeroValue5
  t9 := Tryd.lays156.t9
  a9 := Tryd.lays156.a9
  z9 := Tryd.lays156.z9
  v9 := Tryd.lays156.v9
  t20 := Tryd.lays156.t20
  a20 := Tryd.lays156.a20
  z20 := Tryd.lays156.z20
  v20 := Tryd.lays156.v20
  t37 := Tryd.lays156.t37
  a37 := Tryd.lays156.a37
  z37 := Tryd.lays156.z37
  v37 := Tryd.lays156.v37
  t70 := Tryd.lays156.t70
  a70 := Tryd.lays156.a70
  z70 := Tryd.lays156.z70
  v70 := Tryd.lays156.v70
  t72 := Tryd.lays156.t72
  a72 := Tryd.lays156.a72
  z72 := Tryd.lays156.z72
  v72 := Tryd.lays156.v72
  t75 := Tryd.lays156.t75
  a75 := Tryd.lays156.a75
  z75 := Tryd.lays156.z75
  v75 := Tryd.lays156.v75
  t164 := Tryd.lays156.t164
  a164 := Tryd.lays156.a164
  z164 := Tryd.lays156.z164
  v164 := Tryd.lays156.v164
theorem Tryd.Builder_Extra_B : Builder.Extra Tryd.prog Tryd.renB where
  sizeBuilder := by kernel_rfl
  liesBuilder := by kernel_rfl
  t5 := Tryd.underlying5
  a5 := Tryd.isAgg5
  z5 := Tryd.sizeOf5
  v5 := Tryd.zeroValue5
  infoByte := by kernel_rfl
  cellsByte := by kernel_rfl
  sizeByte := by kernel_rfl
  neB5 := by decide
theorem Tryd.layB166 : Lays.n166 Tryd.prog Tryd.lays156_ren := { Tryd.lays156 with }
theorem Tryd.layB169 : Lays.n169 Tryd.prog Tryd.lays156_ren := { Tryd.lays156 with }
end Go.Proofs
