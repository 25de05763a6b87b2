/-
  sets: lists of numbers and scripts of acts, as a row reads them.
-/
import Derived.Test.YtlccemphlinecaaDoorL9
import Derived.Test.YtlccemphlinecaaDoorS5
namespace Go.Proofs.YtlccemphlinecaaDoor
open Go Go.RowKit X
set_option maxRecDepth 100000
set_option linter.unusedVariables false
def intAt (w : World) (a : Addr) : Int := match w.cell? a with | some (.int _ n) => n | _ => 0
theorem sh_i64 {w : World} {fuel : Nat} {cs : List Value} (h : Sh P w 0 fuel 3 cs) : ∃ n, cs = [.int .i64 n] := by
  cases fuel with
  | zero => exact h.elim
  | succ f =>
    unfold Sh at h
    rw [Tryd.underlying3] at h
    obtain ⟨n, h1, _⟩ := h
    exact ⟨n, h1⟩
theorem sh_ints {w : World} {fuel : Nat} {v : Value} (h : Sh P w 0 fuel 22 [v]) : ∃ q c xs, v = .slice q (List.length (α := Int) xs) c ∧ Sl w q (i64s xs) ∧ xs.length ≤ 9223372036854775807 := by
  cases fuel with
  | zero => exact h.elim
  | succ f =>
    unfold Sh at h
    rw [Tryd.underlying22] at h
    rcases h with h | ⟨a, len, cap, h1, h2, h3, h4, h5⟩
    · exact ⟨none, 0, [], by simpa using h, (by intro j u hj; cases hj), by simp⟩
    · have hc : P.cellsOf 3 = 1 := by kernel_rfl
      have key : ∀ i, i < len → w.cell? (a.add i) = some (.int .i64 (intAt w (a.add i))) := by
        intro i hi
        obtain ⟨ecs, h6, h7⟩ := h5 i hi
        rw [hc] at h6
        obtain ⟨n, rfl⟩ := sh_i64 h7
        obtain ⟨_, _, h9⟩ := World.cells?_some h6
        have h10 := h9 0 (by omega)
        have e : (a.add (i * 1)).add 0 = a.add i := by rw [Nat.mul_one]; unfold Addr.add; split <;> simp_all
        rw [e] at h10
        have h10 : w.cell? (a.add i) = some (.int .i64 n) := h10
        have h11 : intAt w (a.add i) = n := by unfold intAt; rw [h10]
        rw [h11]; exact h10
      refine ⟨some a, cap, (List.range len).map fun i => intAt w (a.add i), by simpa using h1, ?_, ?_⟩
      · intro j u hj
        have hj' : j < len := by have := (List.getElem?_eq_some_iff.1 hj).1; simpa [i64s] using this
        refine ⟨a, rfl, ?_⟩
        rw [key j hj', ← hj]; simp [i64s, hj']
      · unfold maxLen at h3; simp; omega
theorem sh_act2 {w : World} {fuel : Nat} {cs : List Value} (h : Sh P w 0 fuel 45 cs) : ∃ k x, cs = [.int .i64 k, .int .i64 x] := by
  cases fuel with
  | zero => exact h.elim
  | succ f =>
    unfold Sh at h
    rw [Tryd.underlying45] at h
    obtain ⟨hl, h⟩ := h
    have hc : P.cellsOf 45 = 2 := by kernel_rfl
    have hc3 : P.cellsOf 3 = 1 := by kernel_rfl
    rw [hc] at hl
    match cs, hl with
    | [x, y], _ =>
      obtain ⟨a, h1⟩ := sh_i64 (h 0 _ rfl)
      obtain ⟨s, h2⟩ := sh_i64 (h 1 _ rfl)
      simp [hc3] at h1 h2
      exact ⟨a, s, by rw [h1, h2]⟩
theorem sh_acts2 {w : World} {fuel : Nat} {v : Value} (h : Sh P w 0 fuel 41 [v]) : ∃ p m c, v = .slice p m c ∧ Acts2 w p m := by
  cases fuel with
  | zero => exact h.elim
  | succ f =>
    unfold Sh at h
    rw [Tryd.underlying41] at h
    rcases h with h | ⟨a, len, cap, h1, h2, h3, _, h5⟩
    · exact ⟨none, 0, 0, by simpa using h, fun j hj => by omega⟩
    · refine ⟨some a, len, cap, by simpa using h1, fun j hj => ?_⟩
      obtain ⟨ecs, h6, h7⟩ := h5 j hj
      have hc : P.cellsOf 45 = 2 := by kernel_rfl
      rw [hc] at h6
      obtain ⟨k, x, rfl⟩ := sh_act2 h7
      obtain ⟨_, _, h9⟩ := World.cells?_some h6
      have e : (a.add (j * 2)).add 0 = a.add (j * 2) := by unfold Addr.add; split <;> simp_all
      have h90 := h9 0 (by omega)
      rw [e] at h90
      exact ⟨a, k, x, rfl, h90, h9 1 (by omega)⟩
end Go.Proofs.YtlccemphlinecaaDoor
