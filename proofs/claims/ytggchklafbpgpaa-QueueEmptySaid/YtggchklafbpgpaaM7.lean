/-
  mem: windows of windows.
-/
import Derived.Test.YtggchklafbpgpaaM6
namespace Go.Proofs.Ytggchklafbpgpaa
open Go Go.RowKit X
set_option maxRecDepth 100000
set_option linter.unusedVariables false
def fairB (a s : Int) : Bool := decide (a ≥ 0) && (decide (a ≤ 1099511627776) && (decide (s ≥ 0) && decide (s ≤ 1099511627776)))
theorem fairB_iff {a s : Int} : fairB a s = true ↔ 0 ≤ a ∧ a ≤ 1099511627776 ∧ 0 ≤ s ∧ s ≤ 1099511627776 := by simp [fairB]
def partW (a s x n : Int) : Value := if fairB a s && (decide (0 ≤ x) && (decide (0 ≤ n) && (decide (n ≤ s) && decide (x ≤ s - n)))) then .tuple [winV (a + x) n, .int .i64 0].toArray else .tuple [winV 0 0, .int .i64 42].toArray
theorem cond_false {a s x n : Int} (h : ¬ (fairB a s = true ∧ 0 ≤ x ∧ 0 ≤ n ∧ n ≤ s ∧ x ≤ s - n)) : partW a s x n = .tuple [winV 0 0, .int .i64 42].toArray := by
  unfold partW; rw [if_neg]; simpa using h
theorem cond_true {a s x n : Int} (h : fairB a s = true ∧ 0 ≤ x ∧ 0 ≤ n ∧ n ≤ s ∧ x ≤ s - n) : partW a s x n = .tuple [winV (a + x) n, .int .i64 0].toArray := by
  unfold partW; rw [if_pos]; simpa using h
theorem and_low {v : Int} (h0 : 0 ≤ v) (h1 : v < 2 ^ 64) (m : Nat) (hm : m ≤ 64) : bitX .and .u64 v ((2 ^ m - 1 : Nat) : Int) = v % 2 ^ m := by
  obtain ⟨x, rfl⟩ := Int.eq_ofNat_of_zero_le h0
  have hx : x < 2 ^ 64 := by omega
  have hle : 2 ^ m ≤ 2 ^ 64 := Nat.pow_le_pow_right (by omega) hm
  have hp : 0 < 2 ^ m := Nat.pow_pos (by omega)
  show IntKind.u64.wrap ((BitVec.ofInt 64 (x : Int) &&& BitVec.ofInt 64 ((2 ^ m - 1 : Nat) : Int)).toNat : Int) = _
  rw [BitVec.toNat_and, BitVec.ofInt_natCast, BitVec.ofInt_natCast, BitVec.toNat_ofNat, BitVec.toNat_ofNat, Nat.mod_eq_of_lt hx, Nat.mod_eq_of_lt (by omega), Nat.and_two_pow_sub_one_eq_mod]
  have hlt : x % 2 ^ m < 2 ^ m := Nat.mod_lt _ hp
  have : IntKind.u64.wrap ((x % 2 ^ m : Nat) : Int) = ((x % 2 ^ m : Nat) : Int) := by
    generalize x % 2 ^ m = y at *
    simp [IntKind.wrap, IntKind.signed, IntKind.bits]
    omega
  rw [this]; push_cast; rfl
end Go.Proofs.Ytggchklafbpgpaa
