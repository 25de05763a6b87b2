/-
  queue: the numbers of the document's rows of fields.
-/
import Derived.Test.YtggchklafbpgpaaTy
namespace Go.Proofs.Ytggchklafbpgpaa
open Go X
abbrev tFd : TypeId := T.t91
abbrev tFds : TypeId := T.t86
theorem appFds : appB P tFds tFd 4 32 = true := by kernel_rfl
end Go.Proofs.Ytggchklafbpgpaa
