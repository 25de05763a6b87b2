/-
  tables: the numbers of this seat's types.
-/
import Derived.Test.YthoieihffbahpaaFn
import Derived.Test.YthoieihffbahpaaA3
namespace Go.Proofs.Ythoieihffbahpaa
open Go X
abbrev tBytes : TypeId := T.t22
abbrev tByte : TypeId := 5
theorem appBytes : appB P tBytes tByte 1 1 = true := by kernel_rfl
theorem zeroByte : zeroC P tByte = some [.int .u8 0] := by kernel_rfl
end Go.Proofs.Ythoieihffbahpaa
