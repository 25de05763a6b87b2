/-
  cmd: commands and words, as a law's row reads them.
-/
import Derived.Test.YtggmapokmlbgbaaDoorL1
import Derived.Test.YtggmapokmlbgbaaDoorA6
import Derived.Test.YtggmapokmlbgbaaDoorS7
import Derived.ProofKit
import Derived.OpenShut
namespace Go.Proofs.YtggmapokmlbgbaaDoor
open Go Go.RowKit X Go.ChangeShapes Go.WideShapes Go.ChangeAt
set_option maxRecDepth 100000
set_option linter.unusedVariables false
/-- a number of 64 bits -/
def I64 (x : Int) : Prop := -9223372036854775808 ≤ x ∧ x ≤ 9223372036854775807
def Cm.Fit (c : Cm) : Prop := I64 c.op ∧ I64 c.dev ∧ I64 c.ev ∧ I64 c.num ∧ I64 c.coll ∧ I64 c.tgt ∧ I64 c.bits ∧ I64 c.addr
theorem sh_cm {w : World} (f : Nat) (cs : List Value) (h : Sh P w 0 f 24 cs) : ∃ x : Cm, cs = x.cells ∧ x.Fit := by
  cases f with
  | zero => exact h.elim
  | succ f =>
    unfold Sh at h
    rw [Tryd.underlying24] at h
    obtain ⟨hl, h⟩ := h
    have hc : P.cellsOf 24 = 9 := by kernel_rfl
    have hc3 : P.cellsOf 3 = 1 := by kernel_rfl
    have hc4 : P.cellsOf 4 = 1 := by kernel_rfl
    have hc38 : P.cellsOf 22 = 1 := by kernel_rfl
    rw [hc] at hl
    match cs, hl with
    | [y0, y1, y2, y3, y4, y5, y6, y7, y8], _ =>
      obtain ⟨a0, h0, g0⟩ := sh_num Tryd.underlying22 _ _ (h 0 _ rfl)
      obtain ⟨a1, h1, g1⟩ := sh_num Tryd.underlying3 _ _ (h 1 _ rfl)
      obtain ⟨a2, h2, g2⟩ := sh_num Tryd.underlying3 _ _ (h 2 _ rfl)
      obtain ⟨a3, h3, g3⟩ := sh_num Tryd.underlying3 _ _ (h 3 _ rfl)
      obtain ⟨a4, h4, g4⟩ := sh_num Tryd.underlying3 _ _ (h 4 _ rfl)
      obtain ⟨a5, h5, g5⟩ := sh_num Tryd.underlying3 _ _ (h 5 _ rfl)
      obtain ⟨a6, h6, g6⟩ := sh_num Tryd.underlying3 _ _ (h 6 _ rfl)
      obtain ⟨a7, h7, g7⟩ := sh_num Tryd.underlying3 _ _ (h 7 _ rfl)
      obtain ⟨a8, h8, _⟩ := sh_bool Tryd.underlying4 _ _ (h 8 _ rfl)
      simp [hc3, hc4, hc38] at h0 h1 h2 h3 h4 h5 h6 h7 h8
      exact ⟨⟨a0, a1, a2, a3, a4, a5, a6, a7, a8⟩, by rw [h0, h1, h2, h3, h4, h5, h6, h7, h8]; rfl, wf_i64 g0, wf_i64 g1, wf_i64 g2, wf_i64 g3, wf_i64 g4, wf_i64 g5, wf_i64 g6, wf_i64 g7⟩
theorem okWide_w4 {w : World} {r : Reach} {base : Nat} {v : Value} (h : Value.okWide Tryd.prog w r base 26 v) : ∃ cs, v = .agg cs := by
  simp only [Value.okWide, Tryd.underlying26] at h
  obtain ⟨cs, h1, _⟩ := h
  exact ⟨cs, h1⟩
theorem w4_of_trod {H : Type} {enc : TypeId × Value → H} {w : World} {sp : Nat → Bool} {held : Bool} {fuel : Nat} {cs : List Value} {x : DataW H × List MemPlace} (h : DataW.trod enc Tryd.prog w 0 sp held fuel 26 cs = some x) :
    ∃ a0 a1 a2 a3 : Int, cs = wI [a0, a1, a2, a3] ∧ ∀ x ∈ [a0, a1, a2, a3], 0 ≤ x ∧ x < 2 ^ 64 := by
  obtain ⟨xs, m, rfl, hx, hlen, hn, hel⟩ := DataW.trod_array Tryd.underlying26 h
  have c25 : Tryd.prog.cellsOf 25 = 1 := by kernel_rfl
  have c26 : Tryd.prog.cellsOf 26 = 4 := by kernel_rfl
  rw [c26] at hlen
  have key : ∀ i, i < 4 → ∃ n : Int, cs[i]? = some (.int .u64 n) ∧ 0 ≤ n ∧ n < 2 ^ 64 := by
    intro i hi
    have h1 := hel i hi
    rw [c25, Nat.mul_one, List.getElem?_eq_getElem (by omega)] at h1
    obtain ⟨k, e1, _, e2⟩ := DataW.trod_int Tryd.underlying25 h1
    refine ⟨k, ?_, ?_⟩
    · have hh := congrArg (fun l => l[0]?) e1
      simp only [List.getElem?_take, List.getElem?_drop, Nat.add_zero] at hh
      simpa using hh
    · simp [Lit.wf, IntKind.min, IntKind.max, IntKind.signed, IntKind.bits] at e2
      omega
  clear hel hx hn h
  match cs, hlen, key with
  | [y0, y1, y2, y3], _, key =>
    obtain ⟨n0, h0, g0⟩ := key 0 (by omega)
    obtain ⟨n1, h1, g1⟩ := key 1 (by omega)
    obtain ⟨n2, h2, g2⟩ := key 2 (by omega)
    obtain ⟨n3, h3, g3⟩ := key 3 (by omega)
    have h0 : y0 = .int .u64 n0 := by simpa using h0
    have h1 : y1 = .int .u64 n1 := by simpa using h1
    have h2 : y2 = .int .u64 n2 := by simpa using h2
    have h3 : y3 = .int .u64 n3 := by simpa using h3
    refine ⟨n0, n1, n2, n3, by rw [h0, h1, h2, h3]; rfl, fun x hx => ?_⟩
    simp only [List.mem_cons, List.not_mem_nil, or_false] at hx
    rcases hx with rfl | rfl | rfl | rfl <;> assumption
end Go.Proofs.YtggmapokmlbgbaaDoor
