/-
  cmd: the numbers of this seat's types.
-/
import Derived.Test.YtggmapokmlbgbaaDoorFn
import Derived.Test.YtggmapokmlbgbaaDoorA3
namespace Go.Proofs.YtggmapokmlbgbaaDoor
open Go X
abbrev tWin : TypeId := T.t46
abbrev tBytes : TypeId := T.t52
abbrev tByte : TypeId := 5
theorem appBytes : appB P tBytes tByte 1 1 = true := by kernel_rfl
theorem zeroByte : zeroC P tByte = some [.int .u8 0] := by kernel_rfl
abbrev tCmd : TypeId := T.t24
abbrev tW4 : TypeId := T.t26
abbrev tPart : TypeId := T.t72
abbrev tInt : TypeId := T.t3
abbrev tStr : TypeId := T.t9
abbrev tStrs : TypeId := T.t87
abbrev tU64 : TypeId := 25
abbrev tAct : TypeId := 54
abbrev tActs : TypeId := 44
end Go.Proofs.YtggmapokmlbgbaaDoor
