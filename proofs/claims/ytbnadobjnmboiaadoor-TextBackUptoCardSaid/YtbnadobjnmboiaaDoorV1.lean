/-
  text: steps, rows of them, as a law's row reads them.
-/
import Derived.Test.YtbnadobjnmboiaaDoorWB
import Derived.ProofKit
import Derived.OpenShut
namespace Go.Proofs.YtbnadobjnmboiaaDoor
open Go Go.RowKit X Go.ChangeShapes Go.WideShapes Go.ChangeAt
set_option maxRecDepth 100000
set_option linter.unusedVariables false
theorem wf_u64 {x : Int} (h : (Lit.int .u64 x).wf = true) : 0 ≤ x ∧ x < 18446744073709551616 := by
  simp [Lit.wf, IntKind.min, IntKind.max, IntKind.signed, IntKind.bits] at h; omega
theorem sh_st {w : World} (f : Nat) (cs : List Value) (h : Sh P w 0 f 40 cs) : ∃ x : St, cs = x.cells ∧ x.Fit := by
  cases f with
  | zero => exact h.elim
  | succ f =>
    unfold Sh at h
    rw [Tryd.underlying40] at h
    obtain ⟨hl, h⟩ := h
    have hc : P.cellsOf 40 = 13 := by kernel_rfl
    have hc3 : P.cellsOf 3 = 1 := by kernel_rfl
    have hc4 : P.cellsOf 4 = 1 := by kernel_rfl
    have hc35 : P.cellsOf 35 = 1 := by kernel_rfl
    have hc36 : P.cellsOf 36 = 1 := by kernel_rfl
    have hc37 : P.cellsOf 37 = 1 := by kernel_rfl
    have hc38 : P.cellsOf 38 = 1 := by kernel_rfl
    rw [hc] at hl
    match cs, hl with
    | [y0, y1, y2, y3, y4, y5, y6, y7, y8, y9, y10, y11, y12], _ =>
      obtain ⟨a0, h0, g0⟩ := sh_num Tryd.underlying35 _ _ (h 0 _ rfl)
      obtain ⟨a1, h1, g1⟩ := sh_num Tryd.underlying3 _ _ (h 1 _ rfl)
      obtain ⟨a2, h2, g2⟩ := sh_num Tryd.underlying3 _ _ (h 2 _ rfl)
      obtain ⟨a3, h3, g3⟩ := sh_num Tryd.underlying3 _ _ (h 3 _ rfl)
      obtain ⟨a4, h4, g4⟩ := sh_num Tryd.underlying3 _ _ (h 4 _ rfl)
      obtain ⟨a5, h5, g5⟩ := sh_num Tryd.underlying3 _ _ (h 5 _ rfl)
      obtain ⟨a6, h6, g6⟩ := sh_num Tryd.underlying3 _ _ (h 6 _ rfl)
      obtain ⟨a7, h7, g7⟩ := sh_num Tryd.underlying36 _ _ (h 7 _ rfl)
      obtain ⟨a8, h8, g8⟩ := sh_num Tryd.underlying37 _ _ (h 8 _ rfl)
      obtain ⟨a9, h9, g9⟩ := sh_num Tryd.underlying3 _ _ (h 9 _ rfl)
      obtain ⟨a10, h10, g10⟩ := sh_num Tryd.underlying3 _ _ (h 10 _ rfl)
      obtain ⟨a11, h11, g11⟩ := sh_num Tryd.underlying38 _ _ (h 11 _ rfl)
      obtain ⟨a12, h12, _⟩ := sh_bool Tryd.underlying4 _ _ (h 12 _ rfl)
      simp [hc3, hc4, hc35, hc36, hc37, hc38] at h0 h1 h2 h3 h4 h5 h6 h7 h8 h9 h10 h11 h12
      exact ⟨⟨a0, a1, a2, a3, a4, a5, a6, a7, a8, a9, a10, a11, a12⟩, by rw [h0, h1, h2, h3, h4, h5, h6, h7, h8, h9, h10, h11, h12]; rfl, wf_i64 g0, wf_i64 g1, wf_i64 g2, wf_i64 g3, wf_i64 g4, wf_i64 g5, wf_i64 g6, wf_i64 g7, wf_i64 g8, wf_i64 g9, wf_i64 g10, (wf_u64 g11).1, (wf_u64 g11).2⟩
theorem sh_steps {w : World} {fuel : Nat} {v : Value} (h : Sh P w 0 fuel 31 [v]) :
    ∃ q c, ∃ xs : List St, v = .slice q xs.length c ∧ xs.length * 104 ≤ 140737488355328 ∧ (∀ x ∈ xs, x.Fit) ∧ Slots w q 13 (xs.map St.cells) := by
  have hb : P.bytesOf 40 = 104 := by kernel_rfl
  have hcap : ∀ q n c, v = .slice q n c → n * 104 ≤ 140737488355328 := by
    intro q n c hv
    cases fuel with
    | zero => exact h.elim
    | succ f =>
      unfold Sh at h
      rw [Tryd.underlying31] at h
      rcases h with h | ⟨a, len, cap, h1, h2, h3, h4, _⟩
      · simp only [List.cons.injEq, and_true] at h
        rw [h] at hv; cases hv; omega
      · simp only [List.cons.injEq, and_true] at h1
        rw [h1] at hv; cases hv
        rw [hb] at h4
        have h4 := Nat.le_trans h4 (show reachBytes ≤ 140737488355328 by decide)
        omega
  obtain ⟨q, c, xs, e, h1, h2, h3⟩ := sh_slice Tryd.underlying31 (by kernel_rfl) sh_st h
  exact ⟨q, c, xs, e, hcap _ _ _ e, h2, h3⟩
theorem sh_bools {w : World} {fuel : Nat} {v : Value} (h : Sh P w 0 fuel 55 [v]) :
    ∃ q c, ∃ xs : List Bool, v = .slice q xs.length c ∧ xs.length ≤ 9223372036854775807 ∧ Sl w q (xs.map Value.bool) := by
  obtain ⟨q, c, xs, e, h1, h2, h3⟩ := sh_slice (mk := fun b : Bool => [Value.bool b]) (Good := fun _ => True) Tryd.underlying55 (by kernel_rfl) (fun f cs h => sh_bool Tryd.underlying4 f cs h) h
  refine ⟨q, c, xs, e, h1, Slots.sl ?_⟩
  rw [List.map_map]
  exact h3
end Go.Proofs.YtbnadobjnmboiaaDoor
