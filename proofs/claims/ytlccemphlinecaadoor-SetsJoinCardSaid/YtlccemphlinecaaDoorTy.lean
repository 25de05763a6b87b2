/-
  sets: the numbers of this seat's types.
-/
import Derived.Test.YtlccemphlinecaaDoorFn
import Derived.Test.YtlccemphlinecaaDoorA3
namespace Go.Proofs.YtlccemphlinecaaDoor
open Go X
abbrev tWords : TypeId := T.t54
abbrev tWord : TypeId := T.t58
theorem appWords : appB P tWords tWord 1 8 = true := by kernel_rfl
abbrev tInts : TypeId := T.t22
abbrev tInt : TypeId := T.t3
theorem appInts : appB P tInts tInt 1 8 = true := by kernel_rfl
end Go.Proofs.YtlccemphlinecaaDoor
