/-
  queue: the numbers of the document's rows of places.
-/
import Derived.Test.YtggchklafbpgpaaTy
namespace Go.Proofs.Ytggchklafbpgpaa
open Go X
abbrev tPl : TypeId := T.t97
theorem appPl : appB P tPl tInt 1 8 = true := by kernel_rfl
abbrev tRq : TypeId := T.t61
end Go.Proofs.Ytggchklafbpgpaa
