/-
  shadow: events and scripts of acts, as a row reads them.
-/
import Derived.Test.YtmobpenjbaaicaaL9
namespace Go.Proofs.Ytmobpenjbaaicaa
open Go Go.RowKit X
set_option maxRecDepth 100000
set_option linter.unusedVariables false
theorem sh_ev {w : World} (f : Nat) (cs : List Value) (h : Sh P w 0 f 24 cs) : ∃ a s : Int, cs = [.int .i64 a, .int .i64 s] := by
  cases f with
  | zero => exact h.elim
  | succ f =>
    unfold Sh at h
    rw [Try.underlying24] at h
    obtain ⟨hl, h⟩ := h
    have hc : P.cellsOf 24 = 2 := by kernel_rfl
    have hc3 : P.cellsOf 3 = 1 := by kernel_rfl
    rw [hc] at hl
    match cs, hl with
    | [x, y], _ =>
      obtain ⟨a, h1, _⟩ := sh_num Try.underlying3 _ _ (h 0 _ rfl)
      obtain ⟨b, h2, _⟩ := sh_num Try.underlying3 _ _ (h 1 _ rfl)
      simp [hc3] at h1 h2
      exact ⟨a, b, by rw [h1, h2]⟩
theorem sh_act {w : World} (f : Nat) (cs : List Value) (h : Sh P w 0 f 32 cs) : ∃ x : Act25, cs = actC x ∧ True := by
  cases f with
  | zero => exact h.elim
  | succ f =>
    unfold Sh at h
    rw [Try.underlying32] at h
    obtain ⟨hl, h⟩ := h
    have hc : P.cellsOf 32 = 3 := by kernel_rfl
    have hc24 : P.cellsOf 24 = 2 := by kernel_rfl
    have hc3 : P.cellsOf 3 = 1 := by kernel_rfl
    rw [hc] at hl
    match cs, hl with
    | [x, y, z], _ =>
      obtain ⟨a, h1, _⟩ := sh_num Try.underlying3 _ _ (h 0 _ rfl)
      obtain ⟨d, e, h2⟩ := sh_ev _ _ (h 1 _ rfl)
      simp [hc3, hc24] at h1 h2
      exact ⟨(a, d, e), by rw [h1, h2.1, h2.2]; rfl, trivial⟩
theorem sh_acts {w : World} {fuel : Nat} {v : Value} (h : Sh P w 0 fuel 22 [v]) :
    ∃ q c, ∃ xs : List Act25, v = .slice q xs.length c ∧ xs.length ≤ 9223372036854775807 ∧ (∀ x ∈ xs, True) ∧ Slots w q 3 (xs.map actC) :=
  sh_slice Try.underlying22 (by kernel_rfl) sh_act h
end Go.Proofs.Ytmobpenjbaaicaa
