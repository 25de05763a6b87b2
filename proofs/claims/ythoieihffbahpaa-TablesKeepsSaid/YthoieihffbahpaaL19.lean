/-
  tables: tables and scripts of acts, as a row reads them.
-/
import Derived.Test.YthoieihffbahpaaL18
namespace Go.Proofs.Ythoieihffbahpaa
open Go Go.RowKit X
set_option maxRecDepth 100000
set_option linter.unusedVariables false
theorem sh_win {w : World} (f : Nat) (cs : List Value) (h : Sh P w 0 f 30 cs) : ∃ a s : Int, cs = [.int .i64 a, .int .i64 s] := by
  cases f with
  | zero => exact h.elim
  | succ f =>
    unfold Sh at h
    rw [Try.underlying30] at h
    obtain ⟨hl, h⟩ := h
    have hc : P.cellsOf 30 = 2 := by kernel_rfl
    have hc3 : P.cellsOf 3 = 1 := by kernel_rfl
    rw [hc] at hl
    match cs, hl with
    | [x, y], _ =>
      obtain ⟨a, h1, _⟩ := sh_num Try.underlying3 _ _ (h 0 _ rfl)
      obtain ⟨b, h2, _⟩ := sh_num Try.underlying3 _ _ (h 1 _ rfl)
      simp [hc3] at h1 h2
      exact ⟨a, b, by rw [h1, h2]⟩
theorem sh_tab {w : World} (f : Nat) (cs : List Value) (h : Sh P w 0 f 32 cs) : ∃ a s p : Int, cs = [.int .i64 a, .int .i64 s, .int .i64 p] := by
  cases f with
  | zero => exact h.elim
  | succ f =>
    unfold Sh at h
    rw [Try.underlying32] at h
    obtain ⟨hl, h⟩ := h
    have hc : P.cellsOf 32 = 3 := by kernel_rfl
    have hc30 : P.cellsOf 30 = 2 := by kernel_rfl
    have hc3 : P.cellsOf 3 = 1 := by kernel_rfl
    rw [hc] at hl
    match cs, hl with
    | [x, y, z], _ =>
      obtain ⟨a, s, h1⟩ := sh_win _ _ (h 0 _ rfl)
      obtain ⟨b, h2, _⟩ := sh_num Try.underlying3 _ _ (h 1 _ rfl)
      simp [hc3, hc30] at h1 h2
      exact ⟨a, s, b, by rw [h1.1, h1.2, h2]⟩
theorem wf_u64 {x : Int} (h : (Lit.int .u64 x).wf = true) : 0 ≤ x ∧ x < 2 ^ 64 := by
  simp [Lit.wf, IntKind.min, IntKind.max, IntKind.signed, IntKind.bits] at h; omega
theorem sh_act {w : World} (f : Nat) (cs : List Value) (h : Sh P w 0 f 62 cs) : ∃ x : Act18, cs = x.cells ∧ x.Good := by
  cases f with
  | zero => exact h.elim
  | succ f =>
    unfold Sh at h
    rw [Try.underlying62] at h
    obtain ⟨hl, h⟩ := h
    have hc : P.cellsOf 62 = 14 := by kernel_rfl
    have hc30 : P.cellsOf 30 = 2 := by kernel_rfl
    have hc36 : P.cellsOf 36 = 3 := by kernel_rfl
    have hc45 : P.cellsOf 45 = 3 := by kernel_rfl
    have hc3 : P.cellsOf 3 = 1 := by kernel_rfl
    have hc4 : P.cellsOf 4 = 1 := by kernel_rfl
    have hc60 : P.cellsOf 60 = 1 := by kernel_rfl
    rw [hc] at hl
    match cs, hl with
    | [x0, x1, x2, x3, x4, x5, x6, x7, x8, x9, x10, x11, x12, x13], _ =>
      obtain ⟨k, h0, _⟩ := sh_num Try.underlying3 _ _ (h 0 _ rfl)
      obtain ⟨id, h1, _⟩ := sh_num Try.underlying3 _ _ (h 1 _ rfl)
      obtain ⟨at', h2, _⟩ := sh_num Try.underlying3 _ _ (h 2 _ rfl)
      obtain ⟨ev, h3, _⟩ := sh_num Try.underlying3 _ _ (h 3 _ rfl)
      obtain ⟨⟨dv, db, da⟩, h4, g4⟩ := sh_dev _ _ (h 4 _ rfl)
      obtain ⟨⟨rn, rc, rv⟩, h5, _⟩ := sh_rou _ _ (h 5 _ rfl)
      obtain ⟨wa, ws, h6⟩ := sh_win _ _ (h 6 _ rfl)
      obtain ⟨is, h7, _⟩ := sh_bool Try.underlying4 _ _ (h 7 _ rfl)
      obtain ⟨v, h8, g8⟩ := sh_num Try.underlying60 _ _ (h 8 _ rfl)
      simp [hc3, hc4, hc30, hc36, hc45, hc60, devC, rouC] at h0 h1 h2 h3 h4 h5 h6 h7 h8
      obtain ⟨e4, e5, e6⟩ := h4
      obtain ⟨e7, e8, e9⟩ := h5
      obtain ⟨e10, e11⟩ := h6
      refine ⟨⟨k, id, at', ev, dv, db, da, rn, rc, rv, wa, ws, is, v⟩, ?_, g4.2.2, wf_u64 g8⟩
      rw [h0, h1, h2, h3, e4, e5, e6, e7, e8, e9, e10, e11, h7, h8]; rfl
theorem sh_acts {w : World} {fuel : Nat} {v : Value} (h : Sh P w 0 fuel 59 [v]) :
    ∃ q c, ∃ xs : List Act18, v = .slice q xs.length c ∧ xs.length ≤ 9223372036854775807 ∧ (∀ x ∈ xs, x.Good) ∧ Slots w q 14 (xs.map Act18.cells) :=
  sh_slice Try.underlying59 (by kernel_rfl) sh_act h
end Go.Proofs.Ythoieihffbahpaa
