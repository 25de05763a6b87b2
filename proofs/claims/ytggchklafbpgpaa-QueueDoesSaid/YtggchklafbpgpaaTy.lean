/-
  queue: the numbers of this seat's types.
-/
import Derived.Test.YtggchklafbpgpaaFn
import Derived.Test.YtggchklafbpgpaaA3
namespace Go.Proofs.Ytggchklafbpgpaa
open Go X
abbrev tWin : TypeId := T.t23
abbrev tBytes : TypeId := T.t92
abbrev tByte : TypeId := 5
theorem appBytes : appB P tBytes tByte 1 1 = true := by kernel_rfl
theorem zeroByte : zeroC P tByte = some [.int .u8 0] := by kernel_rfl
abbrev tCmd : TypeId := T.t40
abbrev tW4 : TypeId := T.t51
abbrev tPart : TypeId := T.t124
abbrev tCmds : TypeId := T.t32
abbrev tQ : TypeId := T.t26
abbrev tRing : TypeId := T.t76
abbrev tInt : TypeId := T.t3
abbrev tFn2 : TypeId := T.t82
abbrev tPm : TypeId := T.t34
end Go.Proofs.Ytggchklafbpgpaa
