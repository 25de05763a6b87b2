/-
  Bits: rising lists; how many bits of a word are 1, which is the lowest, which the highest. Plain Lean.
-/
import Derived.Test.YtgjddhpblpfneaaDoorA1
import Derived.Lib.TrailingZeros
import Derived.Test.YtgjddhpblpfneaaDoorFn
import Derived.Test.YtgjddhpblpfneaaDoorA3
namespace Go.Proofs.YtgjddhpblpfneaaDoor.X
open Go Go.RowKit
set_option linter.unusedVariables false
set_option linter.unusedSimpArgs false

/-! ### Rising lists -/
abbrev Up (l : List Nat) : Prop := l.Pairwise (· < ·)
theorem sext : ∀ {l l' : List Nat}, Up l → Up l' → (∀ m, m ∈ l ↔ m ∈ l') → l = l'
  | [], [], _, _, _ => rfl
  | [], b :: l', _, _, h => absurd ((h b).2 (by simp)) (by simp)
  | a :: l, [], _, _, h => absurd ((h a).1 (by simp)) (by simp)
  | a :: l, b :: l', h1, h2, h => by
    rw [Up, List.pairwise_cons] at h1 h2
    have hab : a = b := by
      rcases List.mem_cons.1 ((h a).1 (by simp)) with e | e
      · exact e
      · rcases List.mem_cons.1 ((h b).2 (by simp)) with e' | e'
        · exact e'.symm
        · have := h1.1 b e'; have := h2.1 a e; omega
    subst hab
    rw [sext h1.2 h2.2 fun m => ?_]
    constructor
    · intro hm
      rcases List.mem_cons.1 ((h m).1 (List.mem_cons_of_mem _ hm)) with e | e
      · subst e; exact absurd (h1.1 m hm) (by omega)
      · exact e
    · intro hm
      rcases List.mem_cons.1 ((h m).2 (List.mem_cons_of_mem _ hm)) with e | e
      · subst e; exact absurd (h2.1 m hm) (by omega)
      · exact e
/-! ### Bits of a word -/
def wbits (x : Nat) : List Nat := (List.range 64).filter x.testBit
theorem wbits_up (x : Nat) : Up (wbits x) := List.Pairwise.filter _ List.pairwise_lt_range
theorem mem_wbits {x i : Nat} (hx : x < 2 ^ 64) : i ∈ wbits x ↔ x.testBit i = true := by
  simp only [wbits, List.mem_filter, List.mem_range]
  refine ⟨fun h => h.2, fun h => ⟨?_, h⟩⟩
  apply Decidable.byContradiction
  intro hn
  rw [Nat.testBit_lt_two_pow (Nat.lt_of_lt_of_le hx (Nat.pow_le_pow_right (by omega) (by omega)))] at h
  cases h
theorem wbits_zero : wbits 0 = [] := by simp [wbits]
theorem and_split (k a b q m : Nat) (ha : a < 2 ^ k) (hb : b < 2 ^ k) : (2 ^ k * q + a) &&& (2 ^ k * m + b) = 2 ^ k * (q &&& m) + (a &&& b) := by
  apply Nat.eq_of_testBit_eq
  intro j
  have hab : a &&& b < 2 ^ k := Nat.and_lt_two_pow _ hb
  rw [Nat.testBit_and, Nat.testBit_two_pow_mul_add _ ha, Nat.testBit_two_pow_mul_add _ hb, Nat.testBit_two_pow_mul_add _ hab]
  split <;> simp
theorem lowest {x : Nat} (h0 : x ≠ 0) (hx : x < 2 ^ 64) : Lib.ctz 64 x < 64 ∧ x &&& (2 ^ 64 - x) = 2 ^ Lib.ctz 64 x ∧ x &&& (x - 1) < x ∧ wbits x = Lib.ctz 64 x :: wbits (x &&& (x - 1)) := by
  obtain ⟨h1, h2⟩ := Lib.lowest_bit 64 x h0 hx
  obtain ⟨m, h3, _⟩ := Lib.ctzFrom_spec 64 x (by omega) hx
  have e : Lib.ctz 64 x = Lib.ctzFrom 64 x := by unfold Lib.ctz; rw [if_neg h0]
  rw [← e] at h3
  generalize Lib.ctz 64 x = k at *
  have hp : 0 < 2 ^ k := Nat.pow_pos (by omega)
  have h4 : x - 1 = 2 ^ k * (2 * m) + (2 ^ k - 1) := by rw [h3, Nat.mul_add, Nat.mul_one]; omega
  have h5 : x = 2 ^ k * (2 * m + 1) + 0 := by rw [Nat.add_zero]; exact h3
  have h6 : (2 * m + 1) &&& (2 * m) = 2 * m := by
    have := and_split 1 1 0 m m (by omega) (by omega)
    simpa [Nat.and_self] using this
  have h7 : x &&& (x - 1) = 2 ^ k * (2 * m) := by
    conv => lhs; rw [h4, h5]
    rw [and_split k 0 (2 ^ k - 1) _ _ hp (by omega), h6]; simp
  have hlt : x &&& (x - 1) < x := by rw [h7, h3, Nat.mul_add]; omega
  have hb : ∀ i, x.testBit i = true ↔ i = k ∨ (x &&& (x - 1)).testBit i = true := by
    intro i
    rw [h7]
    conv => lhs; rw [h5, Nat.testBit_two_pow_mul_add _ hp]
    rw [Nat.testBit_two_pow_mul]
    by_cases hi : i < k
    · simp only [hi, if_true, Nat.zero_testBit]
      simp; omega
    · by_cases hik : i = k
      · subst hik; simp [Nat.testBit_zero]
      · obtain ⟨j, hj⟩ : ∃ j, i - k = j + 1 := ⟨i - k - 1, by omega⟩
        simp only [hi, if_false, hj, Nat.testBit_succ]
        rw [show (2 * m + 1) / 2 = m by omega, show 2 * m / 2 = m by omega]
        simp [hik, show k ≤ i by omega]
  refine ⟨h2, h1, hlt, ?_⟩
  have hx' : x &&& (x - 1) < 2 ^ 64 := by omega
  refine sext (wbits_up x) (List.pairwise_cons.2 ⟨fun i hi => ?_, wbits_up _⟩) fun i => ?_
  · rw [mem_wbits hx', h7, Nat.testBit_two_pow_mul] at hi
    simp only [Bool.and_eq_true, decide_eq_true_eq] at hi
    rcases Nat.lt_or_ge k i with h | h
    · exact h
    · have : i = k := by omega
      subst this
      simp [Nat.testBit_zero] at hi
  · rw [mem_wbits hx, List.mem_cons, mem_wbits hx', hb]
/-! ### How many bits are 1 -/
def D (k : Nat) : Nat → (Nat → Nat) → Nat
  | 0, _ => 0
  | n + 1, f => f 0 + 2 ^ k * D k n fun i => f (i + 1)
theorem D_congr (k : Nat) : ∀ (n : Nat) {f g : Nat → Nat}, (∀ i, f i = g i) → D k n f = D k n g
  | 0, _, _, _ => rfl
  | n + 1, f, g, h => by simp only [D]; rw [h 0, D_congr k n fun i => h (i + 1)]
theorem D_pair (k : Nat) : ∀ (n : Nat) (f : Nat → Nat), D k (2 * n) f = D (2 * k) n fun i => f (2 * i) + 2 ^ k * f (2 * i + 1)
  | 0, _ => rfl
  | n + 1, f => by
    show D k (2 * n + 1 + 1) f = _
    simp only [D]
    rw [D_pair k n]
    have : (2 : Nat) ^ (2 * k) = 2 ^ k * 2 ^ k := by rw [← Nat.pow_add]; congr 1; omega
    rw [this, Nat.mul_add, ← Nat.mul_assoc, Nat.add_assoc]
    rfl
theorem D_add (k : Nat) : ∀ (n : Nat) (f g : Nat → Nat), D k n f + D k n g = D k n fun i => f i + g i
  | 0, _, _ => rfl
  | n + 1, f, g => by simp only [D, ← D_add k n, Nat.mul_add]; omega
theorem D_and (k : Nat) : ∀ (n : Nat) (f g : Nat → Nat), (∀ i, f i < 2 ^ k) → (∀ i, g i < 2 ^ k) → D k n f &&& D k n g = D k n fun i => f i &&& g i
  | 0, _, _, _, _ => by simp [D]
  | n + 1, f, g, hf, hg => by
    simp only [D]
    rw [Nat.add_comm (f 0), Nat.add_comm (g 0), and_split k _ _ _ _ (hf 0) (hg 0), D_and k n _ _ (fun i => hf _) (fun i => hg _), Nat.add_comm]
theorem D_div (k : Nat) : ∀ (n : Nat) (a b : Nat → Nat), (∀ i, a i < 2 ^ k) → (∀ i, b i < 2 ^ k) → a n = 0 → D (2 * k) n (fun i => a i + 2 ^ k * b i) / 2 ^ k = D (2 * k) n fun i => b i + 2 ^ k * a (i + 1)
  | 0, _, _, _, _, _ => by simp [D]
  | n + 1, a, b, ha, hb, h0 => by
    have ih := D_div k n (fun i => a (i + 1)) (fun i => b (i + 1)) (fun i => ha _) (fun i => hb _) h0
    simp only [D]
    have hp : 0 < 2 ^ k := Nat.pow_pos (by omega)
    have e : (2 : Nat) ^ (2 * k) = 2 ^ k * 2 ^ k := by rw [← Nat.pow_add]; congr 1; omega
    cases n with
    | zero =>
      simp only [D, Nat.mul_zero, Nat.add_zero]
      simp only [Nat.zero_add] at h0
      rw [Nat.add_mul_div_left _ _ hp, Nat.div_eq_of_lt (ha 0), h0]
      simp
    | succ n =>
      have key : D (2 * k) (n + 1) (fun i => a (i + 1) + 2 ^ k * b (i + 1)) = a 1 + 2 ^ k * (D (2 * k) (n + 1) (fun i => a (i + 1) + 2 ^ k * b (i + 1)) / 2 ^ k) := by
        have h1 : D (2 * k) (n + 1) (fun i => a (i + 1) + 2 ^ k * b (i + 1)) % 2 ^ k = a 1 := by
          simp only [D]
          rw [e, Nat.mul_assoc, Nat.add_assoc, ← Nat.mul_add, Nat.add_mul_mod_self_left, Nat.mod_eq_of_lt (ha 1)]
        have := Nat.mod_add_div (D (2 * k) (n + 1) (fun i => a (i + 1) + 2 ^ k * b (i + 1))) (2 ^ k)
        omega
      rw [ih] at key
      rw [key, Nat.add_assoc, e, Nat.mul_assoc, ← Nat.mul_add, Nat.add_mul_div_left _ _ hp, Nat.div_eq_of_lt (ha 0)]
      simp only [Nat.zero_add, Nat.mul_add, Nat.mul_assoc, Nat.add_assoc]
def bit (x i : Nat) : Nat := (x.testBit i).toNat
theorem D_bits : ∀ (n x : Nat), x < 2 ^ n → D 1 n (bit x) = x
  | 0, x, h => by simp at h; simp [D, h]
  | n + 1, x, h => by
    simp only [D]
    have h1 : ∀ i, bit x (i + 1) = bit (x / 2) i := fun i => by simp [bit, Nat.testBit_succ]
    rw [D_congr 1 n h1, D_bits n (x / 2) (by rw [Nat.pow_succ] at h; omega)]
    have : bit x 0 = x % 2 := by
      unfold bit
      rw [Nat.testBit_zero]
      rcases Nat.mod_two_eq_zero_or_one x with h | h <;> simp [h]
    omega
theorem bit_le (x i : Nat) : bit x i ≤ 1 := by unfold bit; cases x.testBit i <;> simp
theorem bit_out {x i : Nat} (hx : x < 2 ^ 64) (hi : 64 ≤ i) : bit x i = 0 := by
  unfold bit
  rw [Nat.testBit_lt_two_pow (Nat.lt_of_lt_of_le hx (Nat.pow_le_pow_right (by omega) hi))]; rfl
/-- adjoining digits are added -/
theorem swar_step (k n m : Nat) (f : Nat → Nat) (c : Nat) (hc : c < 2 ^ k) (hf : ∀ i, f i ≤ c) (h0 : f (2 * n) = 0) (hm : m = D (2 * k) n fun _ => 2 ^ k - 1) :
    (D k (2 * n) f / 2 ^ k &&& m) + (D k (2 * n) f &&& m) = D (2 * k) n fun i => f (2 * i + 1) + f (2 * i) := by
  have hp : 0 < 2 ^ k := Nat.pow_pos (by omega)
  have e : (2 : Nat) ^ (2 * k) = 2 ^ k * 2 ^ k := by rw [← Nat.pow_add]; congr 1; omega
  have hlt : ∀ x y : Nat, x ≤ c → y ≤ c → x + 2 ^ k * y < 2 ^ (2 * k) := by
    intro x y hx hy
    rw [e]
    have : 2 ^ k * (y + 1) ≤ 2 ^ k * 2 ^ k := Nat.mul_le_mul_left _ (by omega)
    rw [Nat.mul_add] at this; omega
  have hm1 : 2 ^ k - 1 < 2 ^ (2 * k) := by rw [e]; have := Nat.le_mul_of_pos_left (2 ^ k) hp; omega
  have hand : ∀ x y : Nat, x ≤ c → (x + 2 ^ k * y) &&& (2 ^ k - 1) = x := by
    intro x y hx
    rw [Nat.and_two_pow_sub_one_eq_mod, Nat.add_mul_mod_self_left, Nat.mod_eq_of_lt (by omega)]
  rw [D_pair, D_div k n (fun i => f (2 * i)) (fun i => f (2 * i + 1)) (fun i => by have := hf (2 * i); omega) (fun i => by have := hf (2 * i + 1); omega) h0, hm,
    D_and _ n _ _ (fun i => hlt _ _ (hf _) (hf _)) (fun _ => hm1), D_and _ n _ _ (fun i => hlt _ _ (hf _) (hf _)) (fun _ => hm1), D_add]
  exact D_congr _ n fun i => by rw [hand _ _ (hf _), hand _ _ (hf _)]
def sumN : Nat → (Nat → Nat) → Nat
  | 0, _ => 0
  | n + 1, f => f 0 + sumN n fun i => f (i + 1)
theorem sumN_pair : ∀ (n : Nat) (f : Nat → Nat), sumN (2 * n) f = sumN n fun i => f (2 * i + 1) + f (2 * i)
  | 0, _ => rfl
  | n + 1, f => by
    show f 0 + (f 1 + sumN (2 * n) fun i => f (i + 1 + 1)) = (f (2 * 0 + 1) + f (2 * 0)) + sumN n fun i => f (2 * (i + 1) + 1) + f (2 * (i + 1))
    rw [sumN_pair n]
    have : f 0 + f 1 = f (2 * 0 + 1) + f (2 * 0) := Nat.add_comm _ _
    rw [← Nat.add_assoc, this]
    rfl
theorem sumN_count (x : Nat) : ∀ (n o : Nat), sumN n (fun i => bit x (o + i)) = ((List.range' o n).filter x.testBit).length
  | 0, _ => rfl
  | n + 1, o => by
    have e : (fun i => bit x (o + (i + 1))) = fun i => bit x (o + 1 + i) := funext fun i => by congr 1; omega
    simp only [sumN, List.range'_succ, List.filter_cons]
    rw [e, sumN_count x n (o + 1)]
    unfold bit
    cases h : x.testBit (o + 0)
    · simp only [Nat.add_zero] at h; simp [h]
    · simp only [Nat.add_zero] at h; simp [h]; omega
theorem sumN_wbits (x : Nat) : sumN 64 (bit x) = (wbits x).length := by
  have := sumN_count x 64 0
  simp only [Nat.zero_add] at this
  rw [this, wbits, List.range_eq_range']
def swar (x : Nat) : Nat :=
  let x1 := (x / 2 &&& 6148914691236517205) + (x &&& 6148914691236517205)
  let x2 := (x1 / 4 &&& 3689348814741910323) + (x1 &&& 3689348814741910323)
  let x3 := (x2 / 16 + x2) &&& 1085102592571150095
  let x4 := (x3 + x3 / 256) % 18446744073709551616
  let x5 := (x4 + x4 / 65536) % 18446744073709551616
  let x6 := (x5 + x5 / 4294967296) % 18446744073709551616
  x6 &&& 127
theorem div_of {x A B m : Nat} (h : x = A + m * B) (hA : A < m) : x / m = B := by
  rw [h, Nat.add_mul_div_left _ _ (by omega), Nat.div_eq_of_lt hA, Nat.zero_add]
theorem swar_last (c0 c1 c2 c3 c4 c5 c6 c7 x : Nat) (h : c0 ≤ 8 ∧ c1 ≤ 8 ∧ c2 ≤ 8 ∧ c3 ≤ 8 ∧ c4 ≤ 8 ∧ c5 ≤ 8 ∧ c6 ≤ 8 ∧ c7 ≤ 8)
    (hx : x = c0 + 256 * (c1 + 256 * (c2 + 256 * (c3 + 256 * (c4 + 256 * (c5 + 256 * (c6 + 256 * c7))))))) :
    ((((x + x / 256) % 18446744073709551616 + (x + x / 256) % 18446744073709551616 / 65536) % 18446744073709551616 + ((x + x / 256) % 18446744073709551616 + (x + x / 256) % 18446744073709551616 / 65536) % 18446744073709551616 / 4294967296) % 18446744073709551616) &&& 127 = c0 + c1 + c2 + c3 + c4 + c5 + c6 + c7 := by
  subst hx
  have e0 := div_of (x := c0 + 256 * (c1 + 256 * (c2 + 256 * (c3 + 256 * (c4 + 256 * (c5 + 256 * (c6 + 256 * c7))))))) rfl (by omega)
  rw [e0]
  clear e0
  have e1 : (c0 + 256 * (c1 + 256 * (c2 + 256 * (c3 + 256 * (c4 + 256 * (c5 + 256 * (c6 + 256 * c7)))))) + (c1 + 256 * (c2 + 256 * (c3 + 256 * (c4 + 256 * (c5 + 256 * (c6 + 256 * c7))))))) % 18446744073709551616 = (c0 + c1) + 256 * (c1 + c2) + 65536 * ((c2 + c3) + 256 * (c3 + c4) + 65536 * ((c4 + c5) + 256 * (c5 + c6) + 65536 * ((c6 + c7) + 256 * c7))) := by
    rw [Nat.mod_eq_of_lt (by omega)]; omega
  rw [e1]
  clear e1
  have f0 := div_of (x := (c0 + c1) + 256 * (c1 + c2) + 65536 * ((c2 + c3) + 256 * (c3 + c4) + 65536 * ((c4 + c5) + 256 * (c5 + c6) + 65536 * ((c6 + c7) + 256 * c7)))) rfl (by omega)
  rw [f0]
  clear f0
  have e2 : ((c0 + c1) + 256 * (c1 + c2) + 65536 * ((c2 + c3) + 256 * (c3 + c4) + 65536 * ((c4 + c5) + 256 * (c5 + c6) + 65536 * ((c6 + c7) + 256 * c7))) + ((c2 + c3) + 256 * (c3 + c4) + 65536 * ((c4 + c5) + 256 * (c5 + c6) + 65536 * ((c6 + c7) + 256 * c7)))) % 18446744073709551616 =
      (c0 + c1 + c2 + c3) + 256 * ((c1 + c2 + c3 + c4) + 256 * ((c2 + c3 + c4 + c5) + 256 * (c3 + c4 + c5 + c6))) + 4294967296 * ((c4 + c5 + c6 + c7) + 256 * ((c5 + c6 + c7) + 256 * ((c6 + c7) + 256 * c7))) := by
    rw [Nat.mod_eq_of_lt (by omega)]; omega
  rw [e2]
  clear e2
  have g0 := div_of (x := (c0 + c1 + c2 + c3) + 256 * ((c1 + c2 + c3 + c4) + 256 * ((c2 + c3 + c4 + c5) + 256 * (c3 + c4 + c5 + c6))) + 4294967296 * ((c4 + c5 + c6 + c7) + 256 * ((c5 + c6 + c7) + 256 * ((c6 + c7) + 256 * c7)))) rfl (by omega)
  rw [g0]
  clear g0
  have e3 : ∀ A B : Nat, (c0 + c1 + c2 + c3 + 256 * A + 4294967296 * (c4 + c5 + c6 + c7 + 256 * B) + (c4 + c5 + c6 + c7 + 256 * B)) % 18446744073709551616 % 128 = c0 + c1 + c2 + c3 + c4 + c5 + c6 + c7 := by
    intro A B
    rw [Nat.mod_mod_of_dvd _ (by decide)]
    have : c0 + c1 + c2 + c3 + 256 * A + 4294967296 * (c4 + c5 + c6 + c7 + 256 * B) + (c4 + c5 + c6 + c7 + 256 * B) = (c0 + c1 + c2 + c3 + c4 + c5 + c6 + c7) + 128 * (2 * A + 33554432 * (c4 + c5 + c6 + c7 + 256 * B) + 2 * B) := by omega
    rw [this, Nat.add_mul_mod_self_left]
    exact Nat.mod_eq_of_lt (by omega)
  rw [← e3 ((c1 + c2 + c3 + c4) + 256 * ((c2 + c3 + c4 + c5) + 256 * (c3 + c4 + c5 + c6))) ((c5 + c6 + c7) + 256 * ((c6 + c7) + 256 * c7))]
  exact Nat.and_two_pow_sub_one_eq_mod _ 7
theorem sum16 (f : Nat → Nat) : sumN 16 f = f 1 + f 0 + (f 3 + f 2) + (f 5 + f 4) + (f 7 + f 6) + (f 9 + f 8) + (f 11 + f 10) + (f 13 + f 12) + (f 15 + f 14) := by
  rw [show (16 : Nat) = 2 * 8 from rfl, sumN_pair]
  simp only [sumN, Nat.reduceMul, Nat.reduceAdd, Nat.zero_add]
  omega
theorem swar_eq {x : Nat} (hx : x < 2 ^ 64) : swar x = (wbits x).length := by
  have b0 := bit_le x
  have s1 := swar_step 1 32 6148914691236517205 (bit x) 1 (by decide) b0 (bit_out hx (by omega)) (by decide +kernel)
  have b1 : ∀ i, bit x (2 * i + 1) + bit x (2 * i) ≤ 2 := fun i => by have := b0 (2 * i); have := b0 (2 * i + 1); omega
  have s2 := swar_step 2 16 3689348814741910323 (fun i => bit x (2 * i + 1) + bit x (2 * i)) 2 (by decide) b1 (by rw [bit_out hx (by omega), bit_out hx (by omega)]) (by decide +kernel)
  rw [show 2 * 32 = 64 from rfl, D_bits 64 x hx] at s1
  have s1 : (x / 2 &&& 6148914691236517205) + (x &&& 6148914691236517205) = D 2 32 fun i => bit x (2 * i + 1) + bit x (2 * i) := s1
  unfold swar
  dsimp only
  rw [s1]
  have s2 : (D 2 32 (fun i => bit x (2 * i + 1) + bit x (2 * i)) / 4 &&& 3689348814741910323) + (D 2 32 (fun i => bit x (2 * i + 1) + bit x (2 * i)) &&& 3689348814741910323) = D 4 16 fun i => bit x (2 * (2 * i + 1) + 1) + bit x (2 * (2 * i + 1)) + (bit x (2 * (2 * i) + 1) + bit x (2 * (2 * i))) := s2
  rw [s2]
  have b2 : ∀ i, bit x (2 * (2 * i + 1) + 1) + bit x (2 * (2 * i + 1)) + (bit x (2 * (2 * i) + 1) + bit x (2 * (2 * i))) ≤ 4 := fun i => by have := b1 (2 * i); have := b1 (2 * i + 1); omega
  have z2 : ∀ i, 16 ≤ i → bit x (2 * (2 * i + 1) + 1) + bit x (2 * (2 * i + 1)) + (bit x (2 * (2 * i) + 1) + bit x (2 * (2 * i))) = 0 := fun i hi => by
    rw [bit_out hx (by omega), bit_out hx (by omega), bit_out hx (by omega), bit_out hx (by omega)]
  have tot : (wbits x).length = sumN 16 fun i => bit x (2 * (2 * i + 1) + 1) + bit x (2 * (2 * i + 1)) + (bit x (2 * (2 * i) + 1) + bit x (2 * (2 * i))) := by
    rw [← sumN_wbits]
    exact (sumN_pair 32 (bit x)).trans (sumN_pair 16 _)
  rw [tot]
  obtain ⟨f, hf⟩ : ∃ f : Nat → Nat, f = fun i => bit x (2 * (2 * i + 1) + 1) + bit x (2 * (2 * i + 1)) + (bit x (2 * (2 * i) + 1) + bit x (2 * (2 * i))) := ⟨_, rfl⟩
  have hb : ∀ i, f i ≤ 4 := by rw [hf]; exact b2
  have hz : ∀ i, 16 ≤ i → f i = 0 := by rw [hf]; exact z2
  rw [← hf]
  clear s1 s2 b1 b2 z2 tot b0
  have p := D_pair 4 8 f
  have d := D_div 4 8 (fun i => f (2 * i)) (fun i => f (2 * i + 1)) (fun i => by have := hb (2 * i); omega) (fun i => by have := hb (2 * i + 1); omega) (hz _ (by omega))
  have p : D 4 16 f = D 8 8 fun i => f (2 * i) + 2 ^ 4 * f (2 * i + 1) := p
  have d : D 8 8 (fun i => f (2 * i) + 2 ^ 4 * f (2 * i + 1)) / 16 = D 8 8 fun i => f (2 * i + 1) + 2 ^ 4 * f (2 * (i + 1)) := d
  have m : 1085102592571150095 = D 8 8 fun _ => 15 := by decide +kernel
  have s3 : (D 4 16 f / 16 + D 4 16 f) &&& 1085102592571150095 = D 8 8 fun i => f (2 * i + 1) + f (2 * i) := by
    rw [p, d, D_add, m, D_and 8 8 _ _ (fun i => by have := hb (2 * i); have := hb (2 * i + 1); have := hb (2 * (i + 1)); omega) (fun _ => by decide)]
    refine D_congr _ 8 fun i => ?_
    have h1 := hb (2 * i); have h2 := hb (2 * i + 1); have h3 := hb (2 * (i + 1))
    rw [show (15 : Nat) = 2 ^ 4 - 1 from rfl, Nat.and_two_pow_sub_one_eq_mod]; omega
  rw [s3]
  have e := swar_last (f 1 + f 0) (f 3 + f 2) (f 5 + f 4) (f 7 + f 6) (f 9 + f 8) (f 11 + f 10) (f 13 + f 12) (f 15 + f 14) (D 8 8 fun i => f (2 * i + 1) + f (2 * i))
    (by have := hb 0; have := hb 1; have := hb 2; have := hb 3; have := hb 4; have := hb 5; have := hb 6; have := hb 7; have := hb 8; have := hb 9; have := hb 10; have := hb 11; have := hb 12; have := hb 13; have := hb 14; have := hb 15; omega) (by simp [D])
  rw [e]
  exact (sum16 f).symm
end Go.Proofs.YtgjddhpblpfneaaDoor.X
/-
  The program's bit counts.
-/
namespace Go.Proofs.YtgjddhpblpfneaaDoor
open Go Go.RowKit X
set_option maxRecDepth 100000
set_option linter.unusedVariables false
def PlainB (f : FuncId) (args : List Value) (v : Value) : Prop := ∀ w, CV P f args w fun v' w' => v' = v ∧ Below w.heap.size w w'
def i1 (x : Int) : Int := IntKind.u64.wrap (bitX .and .u64 (Int.fdiv x (2 ^ min (Int.toNat 1) IntKind.u64.bits)) 6148914691236517205 + bitX .and .u64 x 6148914691236517205)
def i2 (x : Int) : Int := IntKind.u64.wrap (bitX .and .u64 (Int.fdiv x (2 ^ min (Int.toNat 2) IntKind.u64.bits)) 3689348814741910323 + bitX .and .u64 x 3689348814741910323)
def i3 (x : Int) : Int := bitX .and .u64 (IntKind.u64.wrap (Int.fdiv x (2 ^ min (Int.toNat 4) IntKind.u64.bits) + x)) 1085102592571150095
def i4 (s x : Int) : Int := IntKind.u64.wrap (x + Int.fdiv x (2 ^ min (Int.toNat s) IntKind.u64.bits))
theorem i64_len {l : Nat} (h : l ≤ 64) : IntKind.i64.wrap (l : Int) = l := W_id (by omega) (by omega)
/-- the library's table -/
def TabAt (w : World) : Prop := ∀ j, j < 64 → w.cell? ⟨0, j, none⟩ = some (.int .u8 (Lib.deBruijn64tab.getD j 0 : Nat))
theorem TabAt.keep {W w : World} {S : Nat → Prop} (hT : TabAt W) (h : (X.keep W).h w S) : TabAt w := fun j hj => by
  rw [World.cell?_of_block (h.2.2 _ (World.block_lt_of_cell? _ _ (hT j hj)))]; exact hT j hj
theorem tz_t {W : World} (hT : TabAt W) {x : Nat} (hx : x < 2 ^ 64) (h0 : x ≠ 0) : Tri P F.math_bits_TrailingZeros64 [.int .u64 x] [keep W] fun v L' => v = .int .i64 (Lib.ctz 64 x) ∧ L' = [keep W] := by
  refine Tri.of_pure fun w S hS => math_bits_TrailingZeros64_cv ?_
  unfold math_bits_TrailingZeros64
  have hTw := hT.keep (sep_one.1 hS)
  refine cnd_i (fun h => by simp at h; omega) fun _ => ⟨by omega, ?_⟩
  obtain ⟨h1, h2, _, _⟩ := lowest h0 hx
  obtain ⟨h3, h4⟩ := Lib.deBruijn64_at _ h1
  have hn : 2 ^ 64 - x < 2 ^ 64 := by omega
  have e1 : IntKind.u64.wrap (0 - (x : Int)) = ((2 ^ 64 - x : Nat) : Int) := by
    simp [IntKind.wrap, IntKind.signed, IntKind.bits]; omega
  rw [e1, and_u64 hx hn, h2]
  generalize Lib.ctz 64 x = k at *
  generalize 2 ^ k = q at *
  have e2 : IntKind.u64.wrap ((q : Int) * 285870213051353865) = ((q * 285870213051353865 % 18446744073709551616 : Nat) : Int) := by
    simp [IntKind.wrap, IntKind.signed, IntKind.bits]
  have e3 := shr_u64 (q * 285870213051353865 % 18446744073709551616) (s := 58) (by decide)
  rw [e2, show Int.fdiv ((q * 285870213051353865 % 18446744073709551616 : Nat) : Int) (2 ^ min (Int.toNat 58) IntKind.u64.bits) = ((q * 285870213051353865 % 18446744073709551616 / 288230376151711744 : Nat) : Int) from e3]
  generalize q * 285870213051353865 % 18446744073709551616 / 288230376151711744 = idx at *
  refine ⟨⟨Int.natCast_nonneg _, by exact_mod_cast h3⟩, ?_⟩
  rw [Int.toNat_natCast]
  refine ⟨(k : Int), ?_, ?_, Below.refl _ _⟩
  · show w.cell? (Addr.add ⟨0, 0, none⟩ _) = _
    rw [add_lit, Nat.zero_add, Nat.mul_one, hTw _ h3, h4]
  · show Value.int .i64 (IntKind.i64.wrap _) = _
    rw [i64_len (Nat.le_of_lt h1)]
/-- how many bits a word needs -/
def IsLen (x L : Nat) : Prop := x < 2 ^ L ∧ (L = 0 ∨ 2 ^ (L - 1) ≤ x)
theorem IsLen.shift {x s k : Nat} (h : IsLen (x / 2 ^ s) k) (hx : 2 ^ s ≤ x) : IsLen x (k + s) := by
  have hp : 0 < 2 ^ s := Nat.pow_pos (by omega)
  have h1 : 0 < x / 2 ^ s := Nat.div_pos hx hp
  obtain ⟨h2, h3⟩ := h
  have hk : k ≠ 0 := by rintro rfl; simp at h2; omega
  refine ⟨?_, .inr ?_⟩
  · rw [Nat.pow_add]; exact (Nat.div_lt_iff_lt_mul hp).1 h2
  · rcases h3 with h3 | h3
    · omega
    · rw [show k + s - 1 = k - 1 + s by omega, Nat.pow_add]
      exact (Nat.le_div_iff_mul_le hp).1 h3
theorem IsLen.top {x L : Nat} (h : IsLen x L) (h0 : x ≠ 0) (hx : x < 2 ^ 64) : L ≠ 0 ∧ L ≤ 64 ∧ x.testBit (L - 1) = true ∧ ∀ i, L ≤ i → x.testBit i = false := by
  obtain ⟨h1, h2⟩ := h
  have hL : L ≠ 0 := by rintro rfl; simp at h1; omega
  have h2 : 2 ^ (L - 1) ≤ x := by rcases h2 with h | h; exact absurd h hL; exact h
  refine ⟨hL, ?_, ?_, fun i hi => Nat.testBit_lt_two_pow (Nat.lt_of_lt_of_le h1 (Nat.pow_le_pow_right (by omega) hi))⟩
  · rcases Nat.lt_or_ge 64 L with h | h
    · have : 2 ^ 64 ≤ 2 ^ (L - 1) := Nat.pow_le_pow_right (by omega) (by omega)
      omega
    · exact h
  · rw [Nat.testBit_eq_decide_div_mod_eq]
    have e : L = L - 1 + 1 := by omega
    rw [e, Nat.pow_succ] at h1
    have h3 : x / 2 ^ (L - 1) = 1 := by
      apply Nat.div_eq_of_lt_le <;> omega
    rw [h3]; rfl
end Go.Proofs.YtgjddhpblpfneaaDoor
/-
  The program's count of the bits that a word needs.
-/
namespace Go.Proofs.YtgjddhpblpfneaaDoor
open Go Go.RowKit X
set_option maxRecDepth 100000
set_option linter.unusedVariables false
theorem lenTab_is : ∀ n, n < 256 → IsLen n (if n = 0 then 0 else Nat.log2 n + 1) ∧ (if n = 0 then 0 else Nat.log2 n + 1) ≤ 8 := by
  intro n hn
  split
  · rename_i h; subst h; exact ⟨⟨by simp, .inl rfl⟩, by omega⟩
  · rename_i h
    have h1 := Nat.log2_self_le h
    have h2 : n < 2 ^ (Nat.log2 n + 1) := Nat.lt_log2_self
    have h3 : Nat.log2 n < 8 := by rw [Nat.log2_lt h]; exact hn
    exact ⟨⟨h2, .inr (by simpa using h1)⟩, by omega⟩
end Go.Proofs.YtgjddhpblpfneaaDoor
