/-
  mem: a script of acts, as a row reads it (the seat's Ty names tWin tBytes tByte tInt tU64 tAct tActs).
-/
import Derived.Test.YtggmapokmlbgbaaDoorN1
import Derived.Test.YtggmapokmlbgbaaDoorTy
namespace Go.Proofs.YtggmapokmlbgbaaDoor
open Go Go.RowKit X
set_option maxRecDepth 100000
set_option linter.unusedVariables false
def intAt (w : World) (a : Addr) : Int := match w.cell? a with | some (.int _ n) => n | _ => 0
theorem sh_u8 {w : World} {fuel : Nat} {cs : List Value} (h : Sh P w 0 fuel tByte cs) : ∃ n, cs = [.int .u8 n] ∧ 0 ≤ n ∧ n < 256 := by
  cases fuel with
  | zero => exact h.elim
  | succ f =>
    unfold Sh at h
    rw [Tryd.underlying5] at h
    obtain ⟨n, h1, h2⟩ := h
    refine ⟨n, h1, ?_⟩
    simp [Lit.wf, IntKind.min, IntKind.max, IntKind.signed, IntKind.bits] at h2; omega
theorem sh_bytes {w : World} {fuel : Nat} {v : Value} (h : Sh P w 0 fuel tBytes [v]) : ∃ q c xs, v = .slice q xs.length c ∧ Sl w q (u8s xs) ∧ (∀ y ∈ xs, 0 ≤ y ∧ y < 256) ∧ xs.length ≤ 140737488355328 := by
  cases fuel with
  | zero => exact h.elim
  | succ f =>
    unfold Sh at h
    rw [Tryd.underlying52] at h
    rcases h with h | ⟨a, len, cap, h1, h2, h3, h4, h5⟩
    · exact ⟨none, 0, [], by simpa using h, (by intro j u hj; cases hj), by simp, by simp⟩
    · have hb : P.bytesOf tByte = 1 := by kernel_rfl
      have hc : P.cellsOf tByte = 1 := by kernel_rfl
      rw [hb] at h4
      have key : ∀ i, i < len → w.cell? (a.add i) = some (.int .u8 (intAt w (a.add i))) ∧ 0 ≤ intAt w (a.add i) ∧ intAt w (a.add i) < 256 := by
        intro i hi
        obtain ⟨ecs, h6, h7⟩ := h5 i hi
        rw [hc] at h6
        obtain ⟨n, rfl, h8⟩ := sh_u8 h7
        obtain ⟨_, _, h9⟩ := World.cells?_some h6
        have h10 := h9 0 (by omega)
        have e : (a.add (i * 1)).add 0 = a.add i := by rw [Nat.mul_one]; unfold Addr.add; split <;> simp_all
        rw [e] at h10
        have h10 : w.cell? (a.add i) = some (.int .u8 n) := h10
        have h11 : intAt w (a.add i) = n := by unfold intAt; rw [h10]
        rw [h11]; exact ⟨h10, h8⟩
      refine ⟨some a, cap, (List.range len).map fun i => intAt w (a.add i), by simpa using h1, ?_, ?_, ?_⟩
      · intro j u hj
        have hj' : j < len := by have := (List.getElem?_eq_some_iff.1 hj).1; simpa [u8s] using this
        refine ⟨a, rfl, ?_⟩
        rw [(key j hj').1, ← hj]; simp [u8s, hj']
      · intro y hy
        obtain ⟨i, hi, rfl⟩ := List.mem_map.1 hy
        exact (key i (List.mem_range.1 hi)).2
      · have := reachBytes_lt; simp; omega
theorem sh_i64 {w : World} {fuel : Nat} {cs : List Value} (h : Sh P w 0 fuel tInt cs) : ∃ n, cs = [.int .i64 n] := by
  cases fuel with
  | zero => exact h.elim
  | succ f =>
    unfold Sh at h
    rw [Tryd.underlying3] at h
    obtain ⟨n, h1, _⟩ := h
    exact ⟨n, h1⟩
theorem sh_u64 {w : World} {fuel : Nat} {cs : List Value} (h : Sh P w 0 fuel tU64 cs) : ∃ n, cs = [.int .u64 n] ∧ 0 ≤ n ∧ n < 2 ^ 64 := by
  cases fuel with
  | zero => exact h.elim
  | succ f =>
    unfold Sh at h
    rw [Tryd.underlying25] at h
    obtain ⟨n, h1, h2⟩ := h
    refine ⟨n, h1, ?_⟩
    simp [Lit.wf, IntKind.min, IntKind.max, IntKind.signed, IntKind.bits] at h2; omega
theorem sh_win {w : World} {fuel : Nat} {cs : List Value} (h : Sh P w 0 fuel tWin cs) : ∃ a s, cs = [.int .i64 a, .int .i64 s] := by
  cases fuel with
  | zero => exact h.elim
  | succ f =>
    unfold Sh at h
    rw [Tryd.underlying46] at h
    obtain ⟨hl, h⟩ := h
    have hc : P.cellsOf tWin = 2 := by kernel_rfl
    have hc3 : P.cellsOf tInt = 1 := by kernel_rfl
    rw [hc] at hl
    match cs, hl with
    | [x, y], _ =>
      obtain ⟨a, h1⟩ := sh_i64 (h 0 _ rfl)
      obtain ⟨s, h2⟩ := sh_i64 (h 1 _ rfl)
      simp [hc3] at h1 h2
      exact ⟨a, s, by rw [h1, h2]⟩
theorem sh_act {w : World} {fuel : Nat} {cs : List Value} (h : Sh P w 0 fuel tAct cs) : ∃ k x s o n v q c xs, cs = [.int .i64 k, .int .i64 x, .int .i64 s, .int .i64 o, .int .i64 n, .int .u64 v, .slice q (List.length (α := Int) xs) c] ∧ Sl w q (u8s xs) ∧ (∀ y ∈ xs, 0 ≤ y ∧ y < 256) ∧ xs.length ≤ 140737488355328 ∧ 0 ≤ v ∧ v < 2 ^ 64 := by
  cases fuel with
  | zero => exact h.elim
  | succ f =>
    unfold Sh at h
    rw [Tryd.underlying54] at h
    obtain ⟨hl, h⟩ := h
    have hc : P.cellsOf tAct = 7 := by kernel_rfl
    have hc3 : P.cellsOf tInt = 1 := by kernel_rfl
    have hc23 : P.cellsOf tWin = 2 := by kernel_rfl
    have hc27 : P.cellsOf tU64 = 1 := by kernel_rfl
    have hc34 : P.cellsOf tBytes = 1 := by kernel_rfl
    rw [hc] at hl
    match cs, hl with
    | [x0, x1, x2, x3, x4, x5, x6], _ =>
      obtain ⟨k, h0⟩ := sh_i64 (h 0 _ rfl)
      obtain ⟨a, s, h1⟩ := sh_win (h 1 _ rfl)
      obtain ⟨o, h3⟩ := sh_i64 (h 2 _ rfl)
      obtain ⟨n, h4⟩ := sh_i64 (h 3 _ rfl)
      obtain ⟨v, h5, hv⟩ := sh_u64 (h 4 _ rfl)
      have h6 := h 5 _ rfl
      simp [hc3] at h0 h3 h4
      simp [hc23] at h1
      simp [hc27] at h5
      simp [hc34] at h6
      obtain ⟨q, c, xs, e6, g1, g2, g3⟩ := sh_bytes h6
      exact ⟨k, a, s, o, n, v, q, c, xs, by rw [h0, h1.1, h1.2, h3, h4, h5, e6], g1, g2, g3, hv⟩
theorem acts_of_sh {w : World} {fuel : Nat} {v : Value} (h : Sh P w 0 fuel tActs [v]) : ∃ p m c, v = .slice p m c ∧ m ≤ 9223372036854775807 ∧ Acts w p m := by
  cases fuel with
  | zero => exact h.elim
  | succ f =>
    unfold Sh at h
    rw [Tryd.underlying44] at h
    rcases h with h | ⟨a, len, cap, h1, h2, h3, _, h5⟩
    · exact ⟨none, 0, 0, by simpa using h, by omega, fun j hj => by omega⟩
    · refine ⟨some a, len, cap, by simpa using h1, by unfold maxLen at h3; omega, fun j hj => ?_⟩
      obtain ⟨ecs, h6, h7⟩ := h5 j hj
      have hc : P.cellsOf tAct = 7 := by kernel_rfl
      rw [hc] at h6
      obtain ⟨k, x, s, o, n, v, q, c, xs, rfl, g1, g2, g3⟩ := sh_act h7
      obtain ⟨_, _, h9⟩ := World.cells?_some h6
      have e : (a.add (j * 7)).add 0 = a.add (j * 7) := by unfold Addr.add; split <;> simp_all
      have h90 := h9 0 (by omega)
      rw [e] at h90
      exact ⟨a, k, x, s, o, n, v, q, c, xs, rfl, h90, h9 1 (by omega), h9 2 (by omega), h9 3 (by omega), h9 4 (by omega), h9 5 (by omega), h9 6 (by omega), g1, g2, g3⟩
end Go.Proofs.YtggmapokmlbgbaaDoor
