/-
  lpi: bytes and scripts of acts, as a row reads them.
-/
import Derived.Test.YtgjddhpblpfneaaDoorL14
namespace Go.Proofs.YtgjddhpblpfneaaDoor
open Go Go.RowKit X
set_option maxRecDepth 100000
set_option linter.unusedVariables false
theorem sh_bytes {w : World} {fuel : Nat} {v : Value} (h : Sh P w 0 fuel 46 [v]) :
    ∃ q c, ∃ xs : List Int, v = .slice q xs.length c ∧ xs.length ≤ c ∧ (∀ x ∈ xs, 0 ≤ x ∧ x < 256) ∧ Sl w q (u8s xs) := by
  have hcap : ∀ q n c, v = .slice q n c → n ≤ c := by
    intro q n c hv
    cases fuel with
    | zero => exact h.elim
    | succ f =>
      unfold Sh at h
      rw [Tryd.underlying46] at h
      rcases h with h | ⟨a, len, cap, h1, h2, _⟩
      · simp only [List.cons.injEq, and_true] at h
        rw [h] at hv; cases hv; exact Nat.le_refl _
      · simp only [List.cons.injEq, and_true] at h1
        rw [h1] at hv; cases hv; exact h2
  obtain ⟨q, c, xs, e, h1, h2, h3⟩ := sh_slice (mk := fun x : Int => [Value.int .u8 x]) (Good := fun x : Int => (Lit.int .u8 x).wf = true) Tryd.underlying46 (by kernel_rfl) (sh_num Tryd.underlying5) h
  refine ⟨q, c, xs, e, hcap _ _ _ e, fun x hx => ?_, Slots.sl ?_⟩
  · have := h2 x hx
    simp [Lit.wf, IntKind.min, IntKind.max, IntKind.signed, IntKind.bits] at this; omega
  · unfold u8s
    rw [List.map_map]; exact h3
theorem sh_act {w : World} (f : Nat) (cs : List Value) (h : Sh P w 0 f 70 cs) : ∃ x : Act15, cs = x.cells ∧ x.Good := by
  cases f with
  | zero => exact h.elim
  | succ f =>
    unfold Sh at h
    rw [Tryd.underlying70] at h
    obtain ⟨hl, h⟩ := h
    have hc : P.cellsOf 70 = 5 := by kernel_rfl
    have hc3 : P.cellsOf 3 = 1 := by kernel_rfl
    have hc4 : P.cellsOf 4 = 1 := by kernel_rfl
    have hc5 : P.cellsOf 5 = 1 := by kernel_rfl
    rw [hc] at hl
    match cs, hl with
    | [x0, x1, x2, x3, x4], _ =>
      obtain ⟨k, h0, _⟩ := sh_num Tryd.underlying3 _ _ (h 0 _ rfl)
      obtain ⟨id, h1, g1⟩ := sh_num Tryd.underlying3 _ _ (h 1 _ rfl)
      obtain ⟨is, h2, _⟩ := sh_bool Tryd.underlying4 _ _ (h 2 _ rfl)
      obtain ⟨two, h3, _⟩ := sh_bool Tryd.underlying4 _ _ (h 3 _ rfl)
      obtain ⟨v, h4, g4⟩ := sh_num Tryd.underlying5 _ _ (h 4 _ rfl)
      simp [hc3, hc4, hc5] at h0 h1 h2 h3 h4
      refine ⟨⟨k, id, is, two, v⟩, by rw [h0, h1, h2, h3, h4]; rfl, wf_i64 g1, ?_⟩
      show 0 ≤ v ∧ v < 256
      simp [Lit.wf, IntKind.min, IntKind.max, IntKind.signed, IntKind.bits] at g4; omega
theorem sh_acts {w : World} {fuel : Nat} {v : Value} (h : Sh P w 0 fuel 47 [v]) :
    ∃ q c, ∃ xs : List Act15, v = .slice q xs.length c ∧ xs.length ≤ 9223372036854775807 ∧ (∀ x ∈ xs, x.Good) ∧ Slots w q 5 (xs.map Act15.cells) :=
  sh_slice Tryd.underlying47 (by kernel_rfl) sh_act h
end Go.Proofs.YtgjddhpblpfneaaDoor
