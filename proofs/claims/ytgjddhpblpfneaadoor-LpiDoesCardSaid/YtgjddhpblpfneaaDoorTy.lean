/-
  lpi: the numbers of this seat's types.
-/
import Derived.Test.YtgjddhpblpfneaaDoorFn
import Derived.Test.YtgjddhpblpfneaaDoorA3
namespace Go.Proofs.YtgjddhpblpfneaaDoor
open Go X
abbrev tWin : TypeId := T.t23
abbrev tBytes : TypeId := T.t46
abbrev tByte : TypeId := 5
theorem appBytes : appB P tBytes tByte 1 1 = true := by kernel_rfl
theorem zeroByte : zeroC P tByte = some [.int .u8 0] := by kernel_rfl
abbrev tWords : TypeId := T.t115
abbrev tWord : TypeId := T.t63
theorem appWords : appB P tWords tWord 1 8 = true := by kernel_rfl
abbrev tInts : TypeId := T.t37
abbrev tInt : TypeId := T.t3
theorem appInts : appB P tInts tInt 1 8 = true := by kernel_rfl
end Go.Proofs.YtgjddhpblpfneaaDoor
