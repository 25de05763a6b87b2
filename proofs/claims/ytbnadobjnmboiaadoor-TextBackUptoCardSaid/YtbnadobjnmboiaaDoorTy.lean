/-
  text: the numbers of this seat's types.
-/
import Derived.Test.YtbnadobjnmboiaaDoorFn
import Derived.Test.YtbnadobjnmboiaaDoorA3
namespace Go.Proofs.YtbnadobjnmboiaaDoor
open Go X
abbrev tBytes : TypeId := T.t74
abbrev tByte : TypeId := 5
abbrev tStep : TypeId := T.t40
abbrev tWord : TypeId := T.t64
abbrev tStr : TypeId := T.t9
abbrev tStrs : TypeId := T.t24
theorem appBytes : appB P tBytes tByte 1 1 = true := by kernel_rfl
theorem zeroByte : zeroC P tByte = some [.int .u8 0] := by kernel_rfl
theorem appStrs : appB P tStrs tStr 1 16 = true := by kernel_rfl
end Go.Proofs.YtbnadobjnmboiaaDoor
