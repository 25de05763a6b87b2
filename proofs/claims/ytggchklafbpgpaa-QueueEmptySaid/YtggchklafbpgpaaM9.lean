/-
  mem: how big a memory is.
-/
import Derived.Test.YtggchklafbpgpaaM7
namespace Go.Proofs.Ytggchklafbpgpaa
open Go Go.RowKit X
set_option maxRecDepth 100000
set_option linter.unusedVariables false
theorem size_t (b : Nat) (bs : List Int) : Tri P F.mem_Mem_Size [ptr b] [memI b bs] fun v L' => v = .int .i64 bs.length ∧ L' = [memI b bs] := by
  refine tri_mem fun w d c rest hm => mem_Mem_Size_cv ?_
  unfold mem_Mem_Size
  obtain ⟨t, r⟩ := hm.hb
  exact ldL_i r rfl ⟨rfl, Below.refl _ _⟩
end Go.Proofs.Ytggchklafbpgpaa
