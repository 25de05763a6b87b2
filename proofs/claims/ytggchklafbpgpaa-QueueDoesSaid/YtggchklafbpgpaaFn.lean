/-
  The functions' words.
-/
import Derived.Test.YtggchklafbpgpaaFa
import Derived.Test.YtggchklafbpgpaaFb
import Derived.Test.YtggchklafbpgpaaFc
namespace Go.Proofs.Ytggchklafbpgpaa
end Go.Proofs.Ytggchklafbpgpaa
