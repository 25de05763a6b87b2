/-
  queue: scripts of acts, as a law's row reads them.
-/
import Derived.Test.YtggchklafbpgpaaL7
namespace Go.Proofs.Ytggchklafbpgpaa
open Go Go.RowKit X
set_option maxRecDepth 100000
set_option linter.unusedVariables false
theorem sh_act17 {w : World} (f : Nat) (cs : List Value) (h : Sh P w 0 f 64 cs) : ∃ x : Act17, cs = x.cells ∧ x.Good := by
  cases f with
  | zero => exact h.elim
  | succ f =>
    unfold Sh at h
    rw [Try.underlying64] at h
    obtain ⟨hl, h⟩ := h
    have hc : P.cellsOf 64 = 12 := by kernel_rfl
    have hc3 : P.cellsOf 3 = 1 := by kernel_rfl
    have hc40 : P.cellsOf 40 = 9 := by kernel_rfl
    have hc50 : P.cellsOf 50 = 1 := by kernel_rfl
    rw [hc] at hl
    match cs, hl with
    | [y0, y1, y2, y3, y4, y5, y6, y7, y8, y9, y10, y11], _ =>
      obtain ⟨a0, h0, g0⟩ := sh_num Try.underlying3 _ _ (h 0 _ rfl)
      obtain ⟨a1, h1, g1⟩ := sh_num Try.underlying3 _ _ (h 1 _ rfl)
      obtain ⟨c, h2, g2⟩ := sh_cm _ _ (h 2 _ rfl)
      obtain ⟨v, h3, g3⟩ := sh_num Try.underlying50 _ _ (h 3 _ rfl)
      unfold Cm.cells at h2
      simp [hc3, hc40, hc50] at h0 h1 h2 h3
      obtain ⟨i0, i1, i2, i3, i4, i5, i6, i7, i8⟩ := h2
      refine ⟨⟨a0, a1, c, v⟩, by rw [h0, h1, i0, i1, i2, i3, i4, i5, i6, i7, i8, h3]; rfl, g2, ?_⟩
      show 0 ≤ v ∧ v < 2 ^ 64
      simp [Lit.wf, IntKind.min, IntKind.max, IntKind.signed, IntKind.bits] at g3
      omega
theorem sh_acts17 {w : World} {fuel : Nat} {v : Value} (h : Sh P w 0 fuel 57 [v]) :
    ∃ q c, ∃ xs : List Act17, v = .slice q xs.length c ∧ xs.length ≤ 9223372036854775807 ∧ (∀ x ∈ xs, x.Good) ∧ Slots w q 12 (xs.map Act17.cells) :=
  sh_slice Try.underlying57 (by kernel_rfl) sh_act17 h
end Go.Proofs.Ytggchklafbpgpaa
