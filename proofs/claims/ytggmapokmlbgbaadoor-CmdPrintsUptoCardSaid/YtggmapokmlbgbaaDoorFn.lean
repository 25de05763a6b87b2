/-
  The functions' words.
-/
import Derived.Test.YtggmapokmlbgbaaDoorFa
import Derived.Test.YtggmapokmlbgbaaDoorFb
import Derived.Test.YtggmapokmlbgbaaDoorFc
namespace Go.Proofs.YtggmapokmlbgbaaDoor
end Go.Proofs.YtggmapokmlbgbaaDoor
