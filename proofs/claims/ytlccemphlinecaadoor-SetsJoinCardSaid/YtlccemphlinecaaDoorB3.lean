/-
  The program's count of the bits that a word needs.
-/
import Derived.Test.YtlccemphlinecaaDoorB2
namespace Go.Proofs.YtlccemphlinecaaDoor
open Go Go.RowKit X
set_option maxRecDepth 100000
set_option linter.unusedVariables false
theorem lenTab_is : ∀ n, n < 256 → IsLen n (if n = 0 then 0 else Nat.log2 n + 1) ∧ (if n = 0 then 0 else Nat.log2 n + 1) ≤ 8 := by
  intro n hn
  split
  · rename_i h; subst h; exact ⟨⟨by simp, .inl rfl⟩, by omega⟩
  · rename_i h
    have h1 := Nat.log2_self_le h
    have h2 : n < 2 ^ (Nat.log2 n + 1) := Nat.lt_log2_self
    have h3 : Nat.log2 n < 8 := by rw [Nat.log2_lt h]; exact hn
    exact ⟨⟨h2, .inr (by simpa using h1)⟩, by omega⟩
theorem len_j0 {w : World} {Q : Value → World → Prop} {y s : Nat} (hy : y < 256) (hs : s ≤ 56) (h : ∀ L, IsLen y L → L ≤ 8 → Q (.int .i64 ((L + s : Nat) : Int)) w) : math_bits_Len64_j0 Q y s w := by
  obtain ⟨h1, h2⟩ := lenTab_is y hy
  have h3 := h _ h1 h2
  unfold math_bits_Len64_j0
  have e : IntKind.u8.wrap (y : Int) = y := by simp [IntKind.wrap, IntKind.signed, IntKind.bits]; omega
  rw [e]
  refine ⟨Int.natCast_nonneg _, UInt8.ofNat (if y = 0 then 0 else Nat.log2 y + 1), ?_, ?_⟩
  · rw [Int.toNat_natCast]
    clear e h3 h2 h1 h
    revert hy
    revert y
    decide +kernel
  · have e2 : (UInt8.ofNat (if y = 0 then 0 else Nat.log2 y + 1)).toNat = (if y = 0 then 0 else Nat.log2 y + 1) := by
      simp only [UInt8.toNat_ofNat']; omega
    dsimp only
    rw [e2]
    generalize (if y = 0 then 0 else Nat.log2 y + 1) = L at *
    rw [W_id (n := (L : Int)) (by omega) (by omega), W_id (by omega) (by omega)]
    have : (s : Int) + (L : Int) = ((L + s : Nat) : Int) := by push_cast; omega
    rw [this]; exact h3
theorem len_t {x : Nat} (hx : x < 2 ^ 64) (w : World) : CV P F.math_bits_Len64 [.int .u64 x] w fun v w' => ∃ L : Nat, v = .int .i64 L ∧ IsLen x L ∧ L ≤ 64 ∧ Below w.heap.size w w' := by
  refine math_bits_Len64_cv ?_
  unfold math_bits_Len64
  have fin : ∀ (y s : Nat), y < 256 → s ≤ 56 → (∀ L, IsLen y L → IsLen x (L + s)) → math_bits_Len64_j0 (fun v w' => ∃ L : Nat, v = .int .i64 L ∧ IsLen x L ∧ L ≤ 64 ∧ Below w.heap.size w w') y s w :=
    fun y s hy hs h => len_j0 hy hs fun L hL h8 => ⟨L + s, rfl, h L hL, by omega, Below.refl _ _⟩
  have j1 : ∀ (y s : Nat), y < 65536 → s ≤ 48 → (∀ L, IsLen y L → IsLen x (L + s)) → math_bits_Len64_j1 (fun v w' => ∃ L : Nat, v = .int .i64 L ∧ IsLen x L ∧ L ≤ 64 ∧ Below w.heap.size w w') y s w := by
    intro y s hy hs h
    unfold math_bits_Len64_j1 JoinT
    refine cnd_i (fun hc => ⟨by omega, ?_⟩) fun hc => ?_
    · have hc := of_decide_eq_true hc
      have e := shr_u64 y (s := 8) (by decide)
      dsimp only
      rw [show Int.fdiv (y : Int) (2 ^ min (Int.toNat 8) IntKind.u64.bits) = ((y / 256 : Nat) : Int) from e, W_id (by omega) (by omega)]
      exact fin (y / 256) (s + 8) (by omega) (by omega) fun L hL => by
        have := h _ (hL.shift (s := 8) (by omega)); rwa [Nat.add_right_comm, Nat.add_assoc] at this
    · have hc := of_decide_eq_false hc
      exact fin y s (by omega) (by omega) h
  have j2 : ∀ (y s : Nat), y < 4294967296 → s ≤ 32 → (∀ L, IsLen y L → IsLen x (L + s)) → math_bits_Len64_j2 (fun v w' => ∃ L : Nat, v = .int .i64 L ∧ IsLen x L ∧ L ≤ 64 ∧ Below w.heap.size w w') y s w := by
    intro y s hy hs h
    unfold math_bits_Len64_j2 JoinT
    refine cnd_i (fun hc => ⟨by omega, ?_⟩) fun hc => ?_
    · have hc := of_decide_eq_true hc
      have e := shr_u64 y (s := 16) (by decide)
      dsimp only
      rw [show Int.fdiv (y : Int) (2 ^ min (Int.toNat 16) IntKind.u64.bits) = ((y / 65536 : Nat) : Int) from e, W_id (by omega) (by omega)]
      exact j1 (y / 65536) (s + 16) (by omega) (by omega) fun L hL => by
        have := h _ (hL.shift (s := 16) (by omega)); rwa [Nat.add_right_comm, Nat.add_assoc] at this
    · have hc := of_decide_eq_false hc
      exact j1 y s (by omega) (by omega) h
  unfold JoinT
  refine cnd_i (fun hc => ⟨by omega, ?_⟩) fun hc => ?_
  · have hc := of_decide_eq_true hc
    have e := shr_u64 x (s := 32) (by decide)
    dsimp only
    rw [show Int.fdiv (x : Int) (2 ^ min (Int.toNat 32) IntKind.u64.bits) = ((x / 4294967296 : Nat) : Int) from e]
    exact j2 (x / 4294967296) 32 (by omega) (by omega) fun L hL => hL.shift (s := 32) (by omega)
  · have hc := of_decide_eq_false hc
    exact j2 x 0 (by omega) (by omega) fun L hL => hL
theorem lz_cv {x : Nat} (hx : x < 2 ^ 64) (w : World) : CV P F.math_bits_LeadingZeros64 [.int .u64 x] w fun v w' => ∃ L : Nat, v = .int .i64 (64 - L) ∧ IsLen x L ∧ L ≤ 64 ∧ Below w.heap.size w w' := by
  refine math_bits_LeadingZeros64_cv ?_
  unfold math_bits_LeadingZeros64
  refine (len_t hx w).mono ?_
  rintro _ w' ⟨L, rfl, h1, h2, hB⟩
  refine ⟨_, rfl, L, ?_, h1, h2, hB⟩
  rw [W_id (by omega) (by omega)]
end Go.Proofs.YtlccemphlinecaaDoor
