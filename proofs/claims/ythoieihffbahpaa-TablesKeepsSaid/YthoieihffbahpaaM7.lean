/-
  mem: windows of windows.
-/
import Derived.Test.YthoieihffbahpaaM6
namespace Go.Proofs.Ythoieihffbahpaa
open Go Go.RowKit X
set_option maxRecDepth 100000
set_option linter.unusedVariables false
def fairB (a s : Int) : Bool := decide (a ≥ 0) && (decide (a ≤ 1099511627776) && (decide (s ≥ 0) && decide (s ≤ 1099511627776)))
theorem fair_plain (a s : Int) : Plain F.mem_fair [winV a s] (.bool (fairB a s)) := by
  intro w
  refine mem_fair_cv ?_
  refine alc_i fun w1 hB1 h1 hs1 => ?_
  have hb1 := hB1 _ (Nat.le_refl _)
  unfold JoinT
  have no : ∀ x, x = false → fairB a s = x → mem_fair_j0 (fun v' w' => v' = .bool (fairB a s) ∧ Below w.heap.size w w') x w1 := fun x hx h => ⟨by rw [h], hb1⟩
  refine ldI_i h1 rfl (cnd_i (fun ha => ?_) fun ha => no _ rfl (by simp only [fairB, ha, Bool.false_and]))
  refine ldI_i h1 rfl (cnd_i (fun ha' => ?_) fun ha' => no _ rfl (by simp only [fairB, ha', Bool.false_and, Bool.and_false]))
  refine ldI_i h1 rfl (cnd_i (fun hs => ?_) fun hs => no _ rfl (by simp only [fairB, hs, Bool.false_and, Bool.and_false]))
  exact ldI_i h1 rfl ⟨by simp only [fairB, ha, ha', hs, Bool.true_and], hb1⟩
theorem fairB_iff {a s : Int} : fairB a s = true ↔ 0 ≤ a ∧ a ≤ 1099511627776 ∧ 0 ≤ s ∧ s ≤ 1099511627776 := by simp [fairB]
def partW (a s x n : Int) : Value := if fairB a s && (decide (0 ≤ x) && (decide (0 ≤ n) && (decide (n ≤ s) && decide (x ≤ s - n)))) then .tuple [winV (a + x) n, .int .i64 0].toArray else .tuple [winV 0 0, .int .i64 42].toArray
theorem cond_false {a s x n : Int} (h : ¬ (fairB a s = true ∧ 0 ≤ x ∧ 0 ≤ n ∧ n ≤ s ∧ x ≤ s - n)) : partW a s x n = .tuple [winV 0 0, .int .i64 42].toArray := by
  unfold partW; rw [if_neg]; simpa using h
theorem cond_true {a s x n : Int} (h : fairB a s = true ∧ 0 ≤ x ∧ 0 ≤ n ∧ n ≤ s ∧ x ≤ s - n) : partW a s x n = .tuple [winV (a + x) n, .int .i64 0].toArray := by
  unfold partW; rw [if_pos]; simpa using h
theorem Part_plain (a s x n : Int) : Plain F.mem_Part [winV a s, .int .i64 x, .int .i64 n] (partW a s x n) := by
  intro w
  refine mem_Part_cv ?_
  refine alc_i fun w1 hB1 h1 hs1 => alc_i fun w2 hB2 h2 hs2 => ?_
  have h1 := h1.below (hB2 w1.heap.size (Nat.le_refl _)) (by omega)
  have hb2 := (hB1 _ (Nat.le_refl _)).trans (hB2 w.heap.size (by omega))
  unfold JoinT
  refine ldI_i h1 rfl (ldI_i h1 rfl ?_)
  refine (fair_plain a s w2).mono ?_
  rintro _ w3 ⟨rfl, hB3⟩
  have h1 := h1.ext hB3
  have h2 := h2.ext hB3
  have hb3 := hb2.trans (hB3.mono hb2.size)
  have no : ¬ (fairB a s = true ∧ 0 ≤ x ∧ 0 ≤ n ∧ n ≤ s ∧ x ≤ s - n) → mem_Part_j0 x n (fun v' w' => v' = partW a s x n ∧ Below w.heap.size w w') w.heap.size w1.heap.size true w3 := by
    intro h
    unfold mem_Part_j0
    refine cnd_i (fun _ => ?_) fun h => by cases h
    refine st1_i h2 (by simp) fun w4 hB4 _ _ h4 => st1_i h4 (by simp) fun w5 hB5 _ _ h5 => ?_
    have h5 : Row w5 w1.heap.size [.int .i64 0, .int .i64 0] _ := h5
    exact ldI_i h5 rfl (ldI_i h5 rfl ⟨by rw [cond_false h]; rfl, (hb3.trans (hB4 _ (by omega))).trans (hB5 _ (by omega))⟩)
  refine ⟨_, rfl, cnd_i (fun h => no (by simp only [Bool.not_eq_true'] at h; simp [h])) fun hf => ?_⟩
  simp only [Bool.not_eq_false'] at hf
  have hf' := fairB_iff.1 hf
  refine cnd_i (fun h => no (by have h := of_decide_eq_true h; omega)) fun hx => cnd_i (fun h => no (by have h := of_decide_eq_true h; omega)) fun hn => ldI_i h1 rfl (cnd_i (fun h => no (by have h := of_decide_eq_true h; omega)) fun hns => ldI_i h1 rfl ?_)
  have hx := of_decide_eq_false hx
  have hn := of_decide_eq_false hn
  have hns := of_decide_eq_false hns
  rw [W_id (n := s - n) (by omega) (by omega)]
  cases hg : decide (x > s - n)
  · have hg := of_decide_eq_false hg
    unfold mem_Part_j0
    refine cnd_i (fun h => by cases h) fun _ => ldI_i h1 rfl ?_
    refine st1_i h2 (by simp) fun w4 hB4 _ _ h4 => st1_i h4 (by simp) fun w5 hB5 _ _ h5 => ?_
    have h5 : Row w5 w1.heap.size [.int .i64 (IntKind.i64.wrap (a + x)), .int .i64 n] _ := h5
    refine ldI_i h5 rfl (ldI_i h5 rfl ⟨?_, (hb3.trans (hB4 _ (by omega))).trans (hB5 _ (by omega))⟩)
    rw [cond_true ⟨hf, by omega, by omega, by omega, by omega⟩, W_id (by omega) (by omega)]; rfl
  · exact no (by have hg := of_decide_eq_true hg; omega)
theorem and_low {v : Int} (h0 : 0 ≤ v) (h1 : v < 2 ^ 64) (m : Nat) (hm : m ≤ 64) : bitX .and .u64 v ((2 ^ m - 1 : Nat) : Int) = v % 2 ^ m := by
  obtain ⟨x, rfl⟩ := Int.eq_ofNat_of_zero_le h0
  have hx : x < 2 ^ 64 := by omega
  have hle : 2 ^ m ≤ 2 ^ 64 := Nat.pow_le_pow_right (by omega) hm
  have hp : 0 < 2 ^ m := Nat.pow_pos (by omega)
  show IntKind.u64.wrap ((BitVec.ofInt 64 (x : Int) &&& BitVec.ofInt 64 ((2 ^ m - 1 : Nat) : Int)).toNat : Int) = _
  rw [BitVec.toNat_and, BitVec.ofInt_natCast, BitVec.ofInt_natCast, BitVec.toNat_ofNat, BitVec.toNat_ofNat, Nat.mod_eq_of_lt hx, Nat.mod_eq_of_lt (by omega), Nat.and_two_pow_sub_one_eq_mod]
  have hlt : x % 2 ^ m < 2 ^ m := Nat.mod_lt _ hp
  have : IntKind.u64.wrap ((x % 2 ^ m : Nat) : Int) = ((x % 2 ^ m : Nat) : Int) := by
    generalize x % 2 ^ m = y at *
    simp [IntKind.wrap, IntKind.signed, IntKind.bits]
    omega
  rw [this]; push_cast; rfl
end Go.Proofs.Ythoieihffbahpaa
