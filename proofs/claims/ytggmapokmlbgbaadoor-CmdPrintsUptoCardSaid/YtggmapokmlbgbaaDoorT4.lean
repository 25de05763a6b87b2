/-
  cmd: the numbers of the document's rows of fields.
-/
import Derived.Test.YtggmapokmlbgbaaDoorTy
namespace Go.Proofs.YtggmapokmlbgbaaDoor
open Go X
abbrev tFd : TypeId := T.t80
abbrev tOp : TypeId := T.t22
abbrev tFds : TypeId := T.t76
theorem appFds : appB P tFds tFd 4 32 = true := by kernel_rfl
end Go.Proofs.YtggmapokmlbgbaaDoor
