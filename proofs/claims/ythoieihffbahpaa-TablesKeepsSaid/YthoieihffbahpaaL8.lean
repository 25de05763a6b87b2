/-
  tables: the arguments, as a row reads them.
-/
import Derived.Test.YthoieihffbahpaaL7
import Derived.Test.YthoieihffbahpaaS7
namespace Go.Proofs.Ythoieihffbahpaa
open Go Go.RowKit X
set_option maxRecDepth 100000
set_option linter.unusedVariables false
theorem sh_ints {w : World} {fuel : Nat} {ts te : TypeId} {k : IntKind} {v : Value} (hu : P.underlying ts = some (.slice te)) (he : P.underlying te = some (.int k)) (hc : P.cellsOf te = 1) (h : Sh P w 0 fuel ts [v]) :
    ∃ q c, ∃ xs : List Int, v = .slice q xs.length c ∧ xs.length ≤ 9223372036854775807 ∧ (∀ x ∈ xs, (Lit.int k x).wf = true) ∧ Sl w q (ints k xs) := by
  obtain ⟨q, c, xs, e, h1, h2, h3⟩ := sh_slice (mk := fun x : Int => [.int k x]) hu hc (sh_num he) h
  refine ⟨q, c, xs, e, h1, h2, Slots.sl ?_⟩
  rw [ints, List.map_map]; exact h3
theorem sh_boos {w : World} {fuel : Nat} {ts te : TypeId} {v : Value} (hu : P.underlying ts = some (.slice te)) (he : P.underlying te = some .bool) (hc : P.cellsOf te = 1) (h : Sh P w 0 fuel ts [v]) :
    ∃ q c, ∃ xs : List Bool, v = .slice q xs.length c ∧ xs.length ≤ 9223372036854775807 ∧ Sl w q (boos xs) := by
  obtain ⟨q, c, xs, e, h1, _, h3⟩ := sh_slice (mk := fun x : Bool => [.bool x]) hu hc (sh_bool he) h
  refine ⟨q, c, xs, e, h1, Slots.sl ?_⟩
  rw [boos, List.map_map]; exact h3
theorem wf_u8 {x : Int} (h : (Lit.int .u8 x).wf = true) : 0 ≤ x ∧ x < 256 := by
  simp [Lit.wf, IntKind.min, IntKind.max, IntKind.signed, IntKind.bits] at h; omega
theorem wf_u16 {x : Int} (h : (Lit.int .u16 x).wf = true) : 0 ≤ x ∧ x < 65536 := by
  simp [Lit.wf, IntKind.min, IntKind.max, IntKind.signed, IntKind.bits] at h; omega
theorem wf_i64 {x : Int} (h : (Lit.int .i64 x).wf = true) : -9223372036854775808 ≤ x ∧ x < 9223372036854775808 := by
  simp [Lit.wf, IntKind.min, IntKind.max, IntKind.signed, IntKind.bits] at h; omega
end Go.Proofs.Ythoieihffbahpaa
