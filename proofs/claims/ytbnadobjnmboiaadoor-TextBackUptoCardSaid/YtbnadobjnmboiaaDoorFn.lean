/-
  The functions' words.
-/
import Derived.Test.YtbnadobjnmboiaaDoorFa
import Derived.Test.YtbnadobjnmboiaaDoorFb
namespace Go.Proofs.YtbnadobjnmboiaaDoor
end Go.Proofs.YtbnadobjnmboiaaDoor
