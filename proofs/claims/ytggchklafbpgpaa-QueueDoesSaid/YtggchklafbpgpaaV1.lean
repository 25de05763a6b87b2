/-
  queue: commands, queues, and rows of them, as a law's row reads them.
-/
import Derived.Test.YtggchklafbpgpaaQA
import Derived.Test.YtggchklafbpgpaaA6
namespace Go.Proofs.Ytggchklafbpgpaa
open Go Go.RowKit X
set_option maxRecDepth 100000
set_option linter.unusedVariables false
/-- a number of 64 bits -/
def I64 (x : Int) : Prop := -9223372036854775808 ≤ x ∧ x ≤ 9223372036854775807
def Cm.Fit (c : Cm) : Prop := I64 c.op ∧ I64 c.dev ∧ I64 c.ev ∧ I64 c.num ∧ I64 c.coll ∧ I64 c.tgt ∧ I64 c.bits ∧ I64 c.addr
def Qu.Fit (q : Qu) : Prop := I64 q.a ∧ I64 q.s ∧ I64 q.r ∧ I64 q.w
theorem sh_cm {w : World} (f : Nat) (cs : List Value) (h : Sh P w 0 f 40 cs) : ∃ x : Cm, cs = x.cells ∧ x.Fit := by
  cases f with
  | zero => exact h.elim
  | succ f =>
    unfold Sh at h
    rw [Try.underlying40] at h
    obtain ⟨hl, h⟩ := h
    have hc : P.cellsOf 40 = 9 := by kernel_rfl
    have hc3 : P.cellsOf 3 = 1 := by kernel_rfl
    have hc4 : P.cellsOf 4 = 1 := by kernel_rfl
    have hc38 : P.cellsOf 38 = 1 := by kernel_rfl
    rw [hc] at hl
    match cs, hl with
    | [y0, y1, y2, y3, y4, y5, y6, y7, y8], _ =>
      obtain ⟨a0, h0, g0⟩ := sh_num Try.underlying38 _ _ (h 0 _ rfl)
      obtain ⟨a1, h1, g1⟩ := sh_num Try.underlying3 _ _ (h 1 _ rfl)
      obtain ⟨a2, h2, g2⟩ := sh_num Try.underlying3 _ _ (h 2 _ rfl)
      obtain ⟨a3, h3, g3⟩ := sh_num Try.underlying3 _ _ (h 3 _ rfl)
      obtain ⟨a4, h4, g4⟩ := sh_num Try.underlying3 _ _ (h 4 _ rfl)
      obtain ⟨a5, h5, g5⟩ := sh_num Try.underlying3 _ _ (h 5 _ rfl)
      obtain ⟨a6, h6, g6⟩ := sh_num Try.underlying3 _ _ (h 6 _ rfl)
      obtain ⟨a7, h7, g7⟩ := sh_num Try.underlying3 _ _ (h 7 _ rfl)
      obtain ⟨a8, h8, _⟩ := sh_bool Try.underlying4 _ _ (h 8 _ rfl)
      simp [hc3, hc4, hc38] at h0 h1 h2 h3 h4 h5 h6 h7 h8
      exact ⟨⟨a0, a1, a2, a3, a4, a5, a6, a7, a8⟩, by rw [h0, h1, h2, h3, h4, h5, h6, h7, h8]; rfl, wf_i64 g0, wf_i64 g1, wf_i64 g2, wf_i64 g3, wf_i64 g4, wf_i64 g5, wf_i64 g6, wf_i64 g7⟩
theorem sh_win {w : World} (f : Nat) (cs : List Value) (h : Sh P w 0 f 23 cs) : ∃ a s : Int, cs = [.int .i64 a, .int .i64 s] ∧ I64 a ∧ I64 s := by
  cases f with
  | zero => exact h.elim
  | succ f =>
    unfold Sh at h
    rw [Try.underlying23] at h
    obtain ⟨hl, h⟩ := h
    have hc : P.cellsOf 23 = 2 := by kernel_rfl
    have hc3 : P.cellsOf 3 = 1 := by kernel_rfl
    rw [hc] at hl
    match cs, hl with
    | [x, y], _ =>
      obtain ⟨a, h1, g1⟩ := sh_num Try.underlying3 _ _ (h 0 _ rfl)
      obtain ⟨b, h2, g2⟩ := sh_num Try.underlying3 _ _ (h 1 _ rfl)
      simp [hc3] at h1 h2
      exact ⟨a, b, by rw [h1, h2], wf_i64 g1, wf_i64 g2⟩
theorem sh_qu {w : World} (f : Nat) (cs : List Value) (h : Sh P w 0 f 26 cs) : ∃ q : Qu, cs = q.cells ∧ q.Fit := by
  cases f with
  | zero => exact h.elim
  | succ f =>
    unfold Sh at h
    rw [Try.underlying26] at h
    obtain ⟨hl, h⟩ := h
    have hc : P.cellsOf 26 = 4 := by kernel_rfl
    have hc3 : P.cellsOf 3 = 1 := by kernel_rfl
    have hc23 : P.cellsOf 23 = 2 := by kernel_rfl
    rw [hc] at hl
    match cs, hl with
    | [y0, y1, y2, y3], _ =>
      obtain ⟨a, s, h0, g0, g1⟩ := sh_win _ _ (h 0 _ rfl)
      obtain ⟨r, h2, g2⟩ := sh_num Try.underlying3 _ _ (h 1 _ rfl)
      obtain ⟨v, h3, g3⟩ := sh_num Try.underlying3 _ _ (h 2 _ rfl)
      simp [hc3, hc23] at h0 h2 h3
      exact ⟨⟨a, s, r, v⟩, by rw [h0.1, h0.2, h2, h3]; rfl, g0, g1, wf_i64 g2, wf_i64 g3⟩
theorem sh_cms {w : World} {fuel : Nat} {v : Value} (h : Sh P w 0 fuel 32 [v]) :
    ∃ q c, ∃ xs : List Cm, v = .slice q xs.length c ∧ xs.length * 72 ≤ 140737488355328 ∧ (∀ x ∈ xs, x.Fit) ∧ Slots w q 9 (xs.map Cm.cells) := by
  have hb : P.bytesOf 40 = 72 := by kernel_rfl
  have hcap : ∀ q n c, v = .slice q n c → n * 72 ≤ 140737488355328 := by
    intro q n c hv
    cases fuel with
    | zero => exact h.elim
    | succ f =>
      unfold Sh at h
      rw [Try.underlying32] at h
      rcases h with h | ⟨a, len, cap, h1, h2, h3, h4, _⟩
      · simp only [List.cons.injEq, and_true] at h
        rw [h] at hv; cases hv; omega
      · simp only [List.cons.injEq, and_true] at h1
        rw [h1] at hv; cases hv
        rw [hb] at h4
        have h4 := Nat.le_trans h4 (show reachBytes ≤ 140737488355328 by decide)
        exact h4
  obtain ⟨q, c, xs, e, _, h2, h3⟩ := sh_slice Try.underlying32 (by kernel_rfl) sh_cm h
  exact ⟨q, c, xs, e, hcap _ _ _ e, h2, h3⟩
theorem sh_bools {w : World} {fuel : Nat} {v : Value} (h : Sh P w 0 fuel 33 [v]) :
    ∃ q c, ∃ xs : List Bool, v = .slice q xs.length c ∧ Sl w q (xs.map Value.bool) := by
  obtain ⟨q, c, xs, e, _, _, h3⟩ := sh_slice (mk := fun x : Bool => [Value.bool x]) (Good := fun _ => True) Try.underlying33 (by kernel_rfl) (sh_bool Try.underlying4) h
  refine ⟨q, c, xs, e, Slots.sl ?_⟩
  rw [List.map_map]; exact h3
end Go.Proofs.Ytggchklafbpgpaa
