/-
  The program's bit counts.
-/
import Derived.Test.YtlccemphlinecaaDoorFn
import Derived.Test.YtlccemphlinecaaDoorA3
import Derived.Test.YtlccemphlinecaaDoorB1
namespace Go.Proofs.YtlccemphlinecaaDoor
open Go Go.RowKit X
set_option maxRecDepth 100000
set_option linter.unusedVariables false
def PlainB (f : FuncId) (args : List Value) (v : Value) : Prop := ∀ w, CV P f args w fun v' w' => v' = v ∧ Below w.heap.size w w'
def i1 (x : Int) : Int := IntKind.u64.wrap (bitX .and .u64 (Int.fdiv x (2 ^ min (Int.toNat 1) IntKind.u64.bits)) 6148914691236517205 + bitX .and .u64 x 6148914691236517205)
def i2 (x : Int) : Int := IntKind.u64.wrap (bitX .and .u64 (Int.fdiv x (2 ^ min (Int.toNat 2) IntKind.u64.bits)) 3689348814741910323 + bitX .and .u64 x 3689348814741910323)
def i3 (x : Int) : Int := bitX .and .u64 (IntKind.u64.wrap (Int.fdiv x (2 ^ min (Int.toNat 4) IntKind.u64.bits) + x)) 1085102592571150095
def i4 (s x : Int) : Int := IntKind.u64.wrap (x + Int.fdiv x (2 ^ min (Int.toNat s) IntKind.u64.bits))
theorem ones_plain {x : Nat} (hx : x < 2 ^ 64) : PlainB F.math_bits_OnesCount64 [.int .u64 x] (.int .i64 (wbits x).length) := by
  intro w
  refine math_bits_OnesCount64_cv ?_
  unfold math_bits_OnesCount64
  refine ⟨by omega, by omega, by omega, by omega, by omega, by omega, ?_, Below.refl _ _⟩
  show Value.int .i64 (bitX .and .i64 (IntKind.i64.wrap (i4 32 (i4 16 (i4 8 (i3 (i2 (i1 (x : Int)))))))) 127) = _
  have m1 : ∀ (y m s : Nat), y < 2 ^ 64 → m < 2 ^ 64 → s < 64 → bitX .and .u64 (Int.fdiv (y : Int) (2 ^ min (Int.toNat (s : Int)) IntKind.u64.bits)) (m : Int) = ((y / 2 ^ s &&& m : Nat) : Int) := by
    intro y m s hy hm hs
    rw [shr_u64 y hs, and_u64 (Nat.lt_of_le_of_lt (Nat.div_le_self _ _) hy) hm]
  have s1 : i1 (x : Int) = (((x / 2 &&& 6148914691236517205) + (x &&& 6148914691236517205) : Nat) : Int) := by
    have h5 : x / 2 &&& 6148914691236517205 ≤ 6148914691236517205 := Nat.and_le_right
    have h6 : x &&& 6148914691236517205 ≤ 6148914691236517205 := Nat.and_le_right
    have e1 := m1 x 6148914691236517205 1 hx (by omega) (by omega)
    have e2 := and_u64 hx (show 6148914691236517205 < 2 ^ 64 by omega)
    unfold i1
    refine (congrArg IntKind.u64.wrap (congr (congrArg HAdd.hAdd e1) e2)).trans ?_
    rw [← Int.natCast_add]
    exact u64_id (by show (x / 2 &&& 6148914691236517205) + _ < _; omega)
  have hx1 : (x / 2 &&& 6148914691236517205) + (x &&& 6148914691236517205) < 2 ^ 64 := by
    have h5 : x / 2 &&& 6148914691236517205 ≤ 6148914691236517205 := Nat.and_le_right
    have h6 : x &&& 6148914691236517205 ≤ 6148914691236517205 := Nat.and_le_right
    omega
  have hsw := swar_eq hx
  unfold swar at hsw
  dsimp only at hsw
  rw [s1]
  generalize (x / 2 &&& 6148914691236517205) + (x &&& 6148914691236517205) = x1 at *
  have s2 : i2 (x1 : Int) = (((x1 / 4 &&& 3689348814741910323) + (x1 &&& 3689348814741910323) : Nat) : Int) := by
    have h5 : x1 / 4 &&& 3689348814741910323 ≤ 3689348814741910323 := Nat.and_le_right
    have h6 : x1 &&& 3689348814741910323 ≤ 3689348814741910323 := Nat.and_le_right
    have e1 := m1 x1 3689348814741910323 2 hx1 (by omega) (by omega)
    have e2 := and_u64 hx1 (show 3689348814741910323 < 2 ^ 64 by omega)
    unfold i2
    refine (congrArg IntKind.u64.wrap (congr (congrArg HAdd.hAdd e1) e2)).trans ?_
    rw [← Int.natCast_add]
    exact u64_id (by show (x1 / 4 &&& 3689348814741910323) + _ < _; omega)
  have hx2 : (x1 / 4 &&& 3689348814741910323) + (x1 &&& 3689348814741910323) < 2 ^ 63 := by
    have h5 : x1 / 4 &&& 3689348814741910323 ≤ 3689348814741910323 := Nat.and_le_right
    have h6 : x1 &&& 3689348814741910323 ≤ 3689348814741910323 := Nat.and_le_right
    omega
  rw [s2]
  generalize (x1 / 4 &&& 3689348814741910323) + (x1 &&& 3689348814741910323) = x2 at *
  have s3 : i3 (x2 : Int) = (((x2 / 16 + x2) &&& 1085102592571150095 : Nat) : Int) := by
    have e1 := shr_u64 x2 (s := 4) (by omega)
    unfold i3
    refine (congrArg (fun z => bitX .and .u64 (IntKind.u64.wrap (z + (x2 : Int))) 1085102592571150095) e1).trans ?_
    show bitX .and .u64 (IntKind.u64.wrap (((x2 / 16 : Nat) : Int) + (x2 : Int))) 1085102592571150095 = _
    have h : x2 / 16 + x2 < 2 ^ 64 := by omega
    rw [← Int.natCast_add, u64_id h]
    exact and_u64 h (show 1085102592571150095 < 2 ^ 64 by omega)
  rw [s3]
  have s4 : ∀ (y s : Nat), y < 2 ^ 64 → s < 64 → i4 (s : Int) (y : Int) = (((y + y / 2 ^ s) % 18446744073709551616 : Nat) : Int) := by
    intro y s hy hs
    unfold i4
    rw [shr_u64 y hs, u64_add]
  have hm : ∀ y, y % 18446744073709551616 < 2 ^ 64 := fun y => Nat.mod_lt _ (by omega)
  have hx3 : (x2 / 16 + x2) &&& 1085102592571150095 < 2 ^ 64 := Nat.and_lt_two_pow _ (by omega)
  generalize (x2 / 16 + x2) &&& 1085102592571150095 = x3 at *
  rw [show i4 8 (x3 : Int) = _ from s4 x3 8 hx3 (by omega), show i4 16 _ = _ from s4 _ 16 (hm _) (by omega), show i4 32 _ = _ from s4 _ 32 (hm _) (by omega)]
  rw [show (2 : Nat) ^ 8 = 256 from rfl, show (2 : Nat) ^ 16 = 65536 from rfl, show (2 : Nat) ^ 32 = 4294967296 from rfl]
  rw [← hsw]
  have h6 := hm ((((x3 + x3 / 256) % 18446744073709551616 + (x3 + x3 / 256) % 18446744073709551616 / 65536) % 18446744073709551616 + ((x3 + x3 / 256) % 18446744073709551616 + (x3 + x3 / 256) % 18446744073709551616 / 65536) % 18446744073709551616 / 4294967296))
  generalize ((((x3 + x3 / 256) % 18446744073709551616 + (x3 + x3 / 256) % 18446744073709551616 / 65536) % 18446744073709551616 + ((x3 + x3 / 256) % 18446744073709551616 + (x3 + x3 / 256) % 18446744073709551616 / 65536) % 18446744073709551616 / 4294967296)) % 18446744073709551616 = x6 at *
  congr 1
  show IntKind.i64.wrap (((BitVec.ofInt 64 (IntKind.i64.wrap (x6 : Int)) &&& BitVec.ofInt 64 127).toNat : Nat) : Int) = _
  have hb : (BitVec.ofInt 64 (IntKind.i64.wrap (x6 : Int))).toNat = x6 := by
    have e : IntKind.i64.wrap (x6 : Int) = if x6 < 9223372036854775808 then (x6 : Int) else (x6 : Int) - 18446744073709551616 := by
      simp [IntKind.wrap, IntKind.signed, IntKind.bits]; split <;> split <;> omega
    rw [e]
    split
    · exact X.bits_nat h6
    · rw [BitVec.toNat_ofInt]; simp; omega
  rw [BitVec.toNat_and, hb, show (BitVec.ofInt 64 127).toNat = 127 from rfl]
  have h7 : x6 &&& 127 ≤ 127 := Nat.and_le_right
  exact W_id (by omega) (by omega)
theorem i64_len {l : Nat} (h : l ≤ 64) : IntKind.i64.wrap (l : Int) = l := W_id (by omega) (by omega)
/-- the library's table -/
def TabAt (w : World) : Prop := ∀ j, j < 64 → w.cell? ⟨0, j, none⟩ = some (.int .u8 (Lib.deBruijn64tab.getD j 0 : Nat))
theorem TabAt.keep {W w : World} {S : Nat → Prop} (hT : TabAt W) (h : (X.keep W).h w S) : TabAt w := fun j hj => by
  rw [World.cell?_of_block (h.2.2 _ (World.block_lt_of_cell? _ _ (hT j hj)))]; exact hT j hj
theorem tz_t {W : World} (hT : TabAt W) {x : Nat} (hx : x < 2 ^ 64) (h0 : x ≠ 0) : Tri P F.math_bits_TrailingZeros64 [.int .u64 x] [keep W] fun v L' => v = .int .i64 (Lib.ctz 64 x) ∧ L' = [keep W] := by
  refine Tri.of_pure fun w S hS => math_bits_TrailingZeros64_cv ?_
  unfold math_bits_TrailingZeros64
  have hTw := hT.keep (sep_one.1 hS)
  refine cnd_i (fun h => by simp at h; omega) fun _ => ⟨by omega, ?_⟩
  obtain ⟨h1, h2, _, _⟩ := lowest h0 hx
  obtain ⟨h3, h4⟩ := Lib.deBruijn64_at _ h1
  have hn : 2 ^ 64 - x < 2 ^ 64 := by omega
  have e1 : IntKind.u64.wrap (0 - (x : Int)) = ((2 ^ 64 - x : Nat) : Int) := by
    simp [IntKind.wrap, IntKind.signed, IntKind.bits]; omega
  rw [e1, and_u64 hx hn, h2]
  generalize Lib.ctz 64 x = k at *
  generalize 2 ^ k = q at *
  have e2 : IntKind.u64.wrap ((q : Int) * 285870213051353865) = ((q * 285870213051353865 % 18446744073709551616 : Nat) : Int) := by
    simp [IntKind.wrap, IntKind.signed, IntKind.bits]
  have e3 := shr_u64 (q * 285870213051353865 % 18446744073709551616) (s := 58) (by decide)
  rw [e2, show Int.fdiv ((q * 285870213051353865 % 18446744073709551616 : Nat) : Int) (2 ^ min (Int.toNat 58) IntKind.u64.bits) = ((q * 285870213051353865 % 18446744073709551616 / 288230376151711744 : Nat) : Int) from e3]
  generalize q * 285870213051353865 % 18446744073709551616 / 288230376151711744 = idx at *
  refine ⟨⟨Int.natCast_nonneg _, by exact_mod_cast h3⟩, ?_⟩
  rw [Int.toNat_natCast]
  refine ⟨(k : Int), ?_, ?_, Below.refl _ _⟩
  · show w.cell? (Addr.add ⟨0, 0, none⟩ _) = _
    rw [add_lit, Nat.zero_add, Nat.mul_one, hTw _ h3, h4]
  · show Value.int .i64 (IntKind.i64.wrap _) = _
    rw [i64_len (Nat.le_of_lt h1)]
/-- how many bits a word needs -/
def IsLen (x L : Nat) : Prop := x < 2 ^ L ∧ (L = 0 ∨ 2 ^ (L - 1) ≤ x)
theorem IsLen.shift {x s k : Nat} (h : IsLen (x / 2 ^ s) k) (hx : 2 ^ s ≤ x) : IsLen x (k + s) := by
  have hp : 0 < 2 ^ s := Nat.pow_pos (by omega)
  have h1 : 0 < x / 2 ^ s := Nat.div_pos hx hp
  obtain ⟨h2, h3⟩ := h
  have hk : k ≠ 0 := by rintro rfl; simp at h2; omega
  refine ⟨?_, .inr ?_⟩
  · rw [Nat.pow_add]; exact (Nat.div_lt_iff_lt_mul hp).1 h2
  · rcases h3 with h3 | h3
    · omega
    · rw [show k + s - 1 = k - 1 + s by omega, Nat.pow_add]
      exact (Nat.le_div_iff_mul_le hp).1 h3
theorem IsLen.top {x L : Nat} (h : IsLen x L) (h0 : x ≠ 0) (hx : x < 2 ^ 64) : L ≠ 0 ∧ L ≤ 64 ∧ x.testBit (L - 1) = true ∧ ∀ i, L ≤ i → x.testBit i = false := by
  obtain ⟨h1, h2⟩ := h
  have hL : L ≠ 0 := by rintro rfl; simp at h1; omega
  have h2 : 2 ^ (L - 1) ≤ x := by rcases h2 with h | h; exact absurd h hL; exact h
  refine ⟨hL, ?_, ?_, fun i hi => Nat.testBit_lt_two_pow (Nat.lt_of_lt_of_le h1 (Nat.pow_le_pow_right (by omega) hi))⟩
  · rcases Nat.lt_or_ge 64 L with h | h
    · have : 2 ^ 64 ≤ 2 ^ (L - 1) := Nat.pow_le_pow_right (by omega) (by omega)
      omega
    · exact h
  · rw [Nat.testBit_eq_decide_div_mod_eq]
    have e : L = L - 1 + 1 := by omega
    rw [e, Nat.pow_succ] at h1
    have h3 : x / 2 ^ (L - 1) = 1 := by
      apply Nat.div_eq_of_lt_le <;> omega
    rw [h3]; rfl
end Go.Proofs.YtlccemphlinecaaDoor
