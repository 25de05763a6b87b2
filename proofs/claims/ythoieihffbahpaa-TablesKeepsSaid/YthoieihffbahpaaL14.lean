/-
  tables: lists of routes, as a row reads them.
-/
import Derived.Test.YthoieihffbahpaaL13
namespace Go.Proofs.Ythoieihffbahpaa
open Go Go.RowKit X
set_option maxRecDepth 100000
set_option linter.unusedVariables false
def RouGood (d : Int × Int × Bool) : Prop := (-9223372036854775808 ≤ d.1 ∧ d.1 < 9223372036854775808) ∧ -9223372036854775808 ≤ d.2.1 ∧ d.2.1 < 9223372036854775808
theorem sh_rou {w : World} (f : Nat) (cs : List Value) (h : Sh P w 0 f 45 cs) : ∃ d : Int × Int × Bool, cs = rouC d ∧ RouGood d := by
  cases f with
  | zero => exact h.elim
  | succ f =>
    unfold Sh at h
    rw [Try.underlying45] at h
    obtain ⟨hl, h⟩ := h
    have hc : P.cellsOf 45 = 3 := by kernel_rfl
    have hc3 : P.cellsOf 3 = 1 := by kernel_rfl
    have hc4 : P.cellsOf 4 = 1 := by kernel_rfl
    rw [hc] at hl
    match cs, hl with
    | [x, y, z], _ =>
      obtain ⟨a, h1, g2⟩ := sh_num Try.underlying3 _ _ (h 0 _ rfl)
      obtain ⟨b, h2, g3⟩ := sh_num Try.underlying3 _ _ (h 1 _ rfl)
      obtain ⟨c, h3, _⟩ := sh_bool Try.underlying4 _ _ (h 2 _ rfl)
      simp [hc3, hc4] at h1 h2 h3
      exact ⟨(a, b, c), by rw [h1, h2, h3]; rfl, wf_i64 g2, wf_i64 g3⟩
theorem sh_rous {w : World} {fuel : Nat} {v : Value} (h : Sh P w 0 fuel 41 [v]) :
    ∃ q c, ∃ xs : List (Int × Int × Bool), v = .slice q xs.length c ∧ xs.length ≤ 9223372036854775807 ∧ (∀ x ∈ xs, RouGood x) ∧ Slots w q 3 (xs.map rouC) :=
  sh_slice Try.underlying41 (by kernel_rfl) sh_rou h
end Go.Proofs.Ythoieihffbahpaa
