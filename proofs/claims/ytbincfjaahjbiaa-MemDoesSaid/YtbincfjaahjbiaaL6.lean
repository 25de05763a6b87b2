/-
  mem: what is written is read.
-/
import Derived.Test.YtbincfjaahjbiaaL5
namespace Go.Proofs.Ytbincfjaahjbiaa
open Go Go.RowKit X
set_option maxRecDepth 100000
set_option linter.unusedVariables false
def bytesOf (v : Int) (n : Nat) : List Int := (List.range n).map (byteI v)
theorem le_bytes (v : Int) (h : 0 ≤ v) : ∀ n, le (bytesOf v n) = v % 256 ^ n
  | 0 => by simp [bytesOf, le, Int.emod_one]
  | n + 1 => by
    have e : bytesOf v (n + 1) = bytesOf v n ++ [byteI v n] := by simp [bytesOf, List.range_succ]
    rw [e, le_append, le_bytes v h n]
    simp only [bytesOf, List.length_map, List.length_range, le, byteI, Int.mul_zero, Int.add_zero]
    have hp : (0 : Int) < 256 ^ n := Int.pow_pos (by omega)
    rw [Int.pow_succ]
    have h1 := Int.emod_add_mul_ediv v (256 ^ n)
    have h2 := Int.emod_add_mul_ediv (v / 256 ^ n) 256
    have h3 : v / 256 ^ n / 256 = v / (256 ^ n * 256) := Int.ediv_ediv_of_nonneg (Int.le_of_lt hp)
    have h4 := Int.emod_add_mul_ediv v (256 ^ n * 256)
    rw [h3] at h2
    have h5 : 256 ^ n * (256 * (v / (256 ^ n * 256))) = 256 ^ n * 256 * (v / (256 ^ n * 256)) := by rw [Int.mul_assoc]
    have h6 : 256 ^ n * (v / 256 ^ n) = 256 ^ n * (v / 256 ^ n % 256) + 256 ^ n * (256 * (v / (256 ^ n * 256))) := by
      conv => lhs; rw [← h2]
      rw [Int.mul_add]
    omega
theorem cut_wr {bs : List Int} {k n : Nat} (v : Int) (h : k + n ≤ bs.length) : cut (wr bs k v n) k n = bytesOf v n := by
  apply List.ext_getElem?
  intro j
  simp only [cut, List.getElem?_take, List.getElem?_drop, wr_get, bytesOf, List.getElem?_map]
  by_cases hj : j < n
  · rw [if_pos hj, if_pos (by omega)]; simp [hj]
  · rw [if_neg hj]; simp [hj]
theorem cut_wr_one {bs : List Int} {k n i : Nat} (v : Int) (h : k + n ≤ bs.length) (hi : i < n) : le (cut (wr bs k v n) (k + i) 1) = byteI v i := by
  have : cut (wr bs k v n) (k + i) 1 = [byteI v i] := by
    apply List.ext_getElem?
    intro j
    simp only [cut, List.getElem?_take, List.getElem?_drop, wr_get]
    by_cases hj : j < 1
    · rw [if_pos hj, if_pos (by omega)]
      have : j = 0 := by omega
      subst this
      simp
    · rw [if_neg hj]; simp; omega
  rw [this]; simp [le]
theorem and_low {v : Int} (h0 : 0 ≤ v) (h1 : v < 2 ^ 64) (m : Nat) (hm : m ≤ 64) : bitX .and .u64 v ((2 ^ m - 1 : Nat) : Int) = v % 2 ^ m := by
  obtain ⟨x, rfl⟩ := Int.eq_ofNat_of_zero_le h0
  have hx : x < 2 ^ 64 := by omega
  have hle : 2 ^ m ≤ 2 ^ 64 := Nat.pow_le_pow_right (by omega) hm
  have hp : 0 < 2 ^ m := Nat.pow_pos (by omega)
  show IntKind.u64.wrap ((BitVec.ofInt 64 (x : Int) &&& BitVec.ofInt 64 ((2 ^ m - 1 : Nat) : Int)).toNat : Int) = _
  rw [BitVec.toNat_and, BitVec.ofInt_natCast, BitVec.ofInt_natCast, BitVec.toNat_ofNat, BitVec.toNat_ofNat, Nat.mod_eq_of_lt hx, Nat.mod_eq_of_lt (by omega), Nat.and_two_pow_sub_one_eq_mod]
  have hlt : x % 2 ^ m < 2 ^ m := Nat.mod_lt _ hp
  have : IntKind.u64.wrap ((x % 2 ^ m : Nat) : Int) = ((x % 2 ^ m : Nat) : Int) := by
    generalize x % 2 ^ m = y at *
    simp [IntKind.wrap, IntKind.signed, IntKind.bits]
    omega
  rw [this]; push_cast; rfl
end Go.Proofs.Ytbincfjaahjbiaa
