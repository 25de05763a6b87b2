/-
  E: a thing that is made of others; slices of words.
-/
import Derived.Test.YtbnadobjnmboiaaDoorA2
namespace Go.Proofs.YtbnadobjnmboiaaDoor.X
open Go Go.RowKit
set_option linter.unusedVariables false
set_option linter.unusedSimpArgs false
variable {P : Program} {w w0 : World} {S0 : Nat → Prop}
def exI {α : Type} (p : α → Prop) (f : α → List It) : It where
  h := fun w S => ∃ a, p a ∧ Sep (f a) w S
  loc := fun ⟨a, h1, h2⟩ hw hz => ⟨a, h1, h2.loc hw hz⟩
  lt := fun ⟨a, h1, h2⟩ k hk => h2.lt k hk
theorem ex_open {α : Type} {p : α → Prop} {f : α → List It} {L F : List It} (H : Own w0 S0 L w) (hp : Pick L (exI p f) F) : ∃ a, p a ∧ Own w0 S0 (f a ++ F) w := by
  obtain ⟨S, h1, h2⟩ := H
  obtain ⟨S1, S2, ⟨a, ha, g1⟩, g2, g3, g4⟩ := hp.iff.1 h1
  exact ⟨a, ha, S, Sep.append.2 ⟨S1, S2, g1, g2, g3, g4⟩, h2⟩
theorem ex_shut {α : Type} {p : α → Prop} {f : α → List It} {F : List It} (a : α) (ha : p a) (H : Own w0 S0 (f a ++ F) w) : Own w0 S0 (exI p f :: F) w := by
  obtain ⟨S, h1, h2⟩ := H
  obtain ⟨S1, S2, g1, g2, g3, g4⟩ := Sep.append.1 h1
  exact ⟨S, ⟨S1, S2, ⟨a, ha, g1⟩, g2, g3, g4⟩, h2⟩
theorem least_of {p : Nat → Prop} (h : ∃ n, p n) : ∃ n, p n ∧ ∀ m, p m → n ≤ m := by
  obtain ⟨n, hn⟩ := h
  revert hn
  induction n using Nat.strongRecOn with
  | _ n ih =>
    intro hn
    by_cases h : ∃ m, m < n ∧ p m
    · obtain ⟨m, h1, h2⟩ := h; exact ih m h1 h2
    · exact ⟨n, hn, fun m hm => Nat.le_of_not_lt fun hlt => h ⟨m, hlt, hm⟩⟩
open Classical in
/-- a loop whose measure is told with its things -/
theorem loop_g {σ : Type} {step : σ → World → (σ → World → Prop) → Prop} {s0 : σ} {n0 : Nat} {L : List It} (I : σ → Nat → List It → Prop) (H : Own w0 S0 L w) (h0 : I s0 n0 L)
    (hs : ∀ s n L w, I s n L → Own w0 S0 L w → ∀ A : σ → World → Prop, (∀ s' n' L' w', n' < n → I s' n' L' → Own w0 S0 L' w' → A s' w') → step s w A) : LoopT step s0 w := by
  let p : σ → World → Nat → Prop := fun s w n => ∃ L, I s n L ∧ Own w0 S0 L w
  let μ : σ → World → Nat := fun s w => if h : ∃ n, p s w n then (least_of h).choose else 0
  refine ⟨fun s w => ∃ n, p s w n, μ, ⟨n0, L, h0, H⟩, fun s w h => ?_⟩
  obtain ⟨⟨L, h1, h2⟩, h3⟩ := (least_of h).choose_spec
  refine hs s _ L w h1 h2 _ fun s' n' L' w' hlt hi ho => ?_
  have h' : ∃ n, p s' w' n := ⟨n', L', hi, ho⟩
  refine ⟨h', ?_⟩
  have e1 : μ s w = (least_of h).choose := dif_pos h
  have e2 : μ s' w' = (least_of h').choose := dif_pos h'
  rw [e1, e2]
  exact Nat.lt_of_le_of_lt ((least_of h').choose_spec.2 n' ⟨L', hi, ho⟩) hlt
def u64s (ws : List Nat) : List Value := ws.map fun (n : Nat) => .int .u64 (n : Int)
theorem u64s_length (ws : List Nat) : (u64s ws).length = ws.length := by simp [u64s]
theorem u64s_get {ws : List Nat} {k : Nat} (h : k < ws.length) : (u64s ws)[k]? = some (.int .u64 (ws[k] : Nat)) := by simp [u64s, h]
theorem u64s_set (ws : List Nat) (k n : Nat) : (u64s ws).set k (.int .u64 n) = u64s (ws.set k n) := by simp [u64s]
theorem u64s_append (a b : List Nat) : u64s (a ++ b) = u64s a ++ u64s b := by simp [u64s]
theorem u64s_one (ws : List Nat) : ∀ u ∈ u64s ws, u.oneCell' = true := by
  intro u hu
  obtain ⟨x, _, rfl⟩ := List.mem_map.1 hu
  rfl
def i64s (xs : List Int) : List Value := xs.map fun n => .int .i64 n
theorem i64s_length (ws : List Int) : (i64s ws).length = ws.length := by simp [i64s]
theorem i64s_get {ws : List Int} {k : Nat} (h : k < ws.length) : (i64s ws)[k]? = some (.int .i64 ws[k]) := by simp [i64s, h]
theorem i64s_append (a b : List Int) : i64s (a ++ b) = i64s a ++ i64s b := by simp [i64s]
theorem i64s_set (ws : List Int) (k : Nat) (n : Int) : (i64s ws).set k (.int .i64 n) = i64s (ws.set k n) := by simp [i64s]
theorem i64s_one (ws : List Int) : ∀ u ∈ i64s ws, u.oneCell' = true := by
  intro u hu
  obtain ⟨x, _, rfl⟩ := List.mem_map.1 hu
  rfl
/-! ### Words as numbers -/
theorem u64_id {n : Nat} (h : n < 2 ^ 64) : IntKind.u64.wrap (n : Int) = n := by simp [IntKind.wrap, IntKind.signed, IntKind.bits]; omega
theorem u64_add (a b : Nat) : IntKind.u64.wrap ((a : Int) + b) = ((a + b) % 18446744073709551616 : Nat) := by simp [IntKind.wrap, IntKind.signed, IntKind.bits]
theorem bits_nat {a : Nat} (h : a < 2 ^ 64) : (BitVec.ofInt 64 (a : Int)).toNat = a := by
  rw [BitVec.ofInt_natCast, BitVec.toNat_ofNat, Nat.mod_eq_of_lt h]
theorem and_u64 {a b : Nat} (ha : a < 2 ^ 64) (hb : b < 2 ^ 64) : bitX .and .u64 (a : Int) (b : Int) = ((a &&& b : Nat) : Int) := by
  show IntKind.u64.wrap (((BitVec.ofInt 64 (a : Int) &&& BitVec.ofInt 64 (b : Int)).toNat : Nat) : Int) = _
  rw [BitVec.toNat_and, bits_nat ha, bits_nat hb, u64_id (Nat.and_lt_two_pow _ hb)]
theorem or_u64 {a b : Nat} (ha : a < 2 ^ 64) (hb : b < 2 ^ 64) : bitX .or .u64 (a : Int) (b : Int) = ((a ||| b : Nat) : Int) := by
  show IntKind.u64.wrap (((BitVec.ofInt 64 (a : Int) ||| BitVec.ofInt 64 (b : Int)).toNat : Nat) : Int) = _
  rw [BitVec.toNat_or, bits_nat ha, bits_nat hb, u64_id (Nat.or_lt_two_pow ha hb)]
def andNot (a b : Nat) : Nat := a &&& (2 ^ 64 - 1 - b)
theorem andNot_u64 {a b : Nat} (ha : a < 2 ^ 64) (hb : b < 2 ^ 64) : bitX .andNot .u64 (a : Int) (b : Int) = ((andNot a b : Nat) : Int) := by
  show IntKind.u64.wrap (((BitVec.ofInt 64 (a : Int) &&& ~~~ BitVec.ofInt 64 (b : Int)).toNat : Nat) : Int) = _
  rw [BitVec.toNat_and, BitVec.toNat_not, bits_nat ha, bits_nat hb]
  have : a &&& (2 ^ 64 - 1 - b) < 2 ^ 64 := Nat.and_lt_two_pow _ (by omega)
  rw [u64_id this]; rfl
theorem andNot_testBit {a b : Nat} (ha : a < 2 ^ 64) (hb : b < 2 ^ 64) (i : Nat) : (andNot a b).testBit i = (a.testBit i && !b.testBit i) := by
  unfold andNot
  rw [Nat.testBit_and]
  by_cases hi : i < 64
  · have h1 := BitVec.toNat_not (x := BitVec.ofNat 64 b)
    rw [BitVec.toNat_ofNat, Nat.mod_eq_of_lt hb] at h1
    rw [← h1, BitVec.testBit_toNat, BitVec.getLsbD_not, BitVec.getLsbD_ofNat]
    simp only [hi, decide_true, Bool.true_and]
  · rw [Nat.testBit_lt_two_pow (Nat.lt_of_lt_of_le ha (Nat.pow_le_pow_right (by omega) (by omega)))]; simp
theorem andNot_lt {a b : Nat} (ha : a < 2 ^ 64) : andNot a b < 2 ^ 64 := Nat.lt_of_le_of_lt Nat.and_le_left ha
theorem shr_u64 (a : Nat) {s : Nat} (hs : s < 64) : Int.fdiv (a : Int) (2 ^ min (Int.toNat (s : Int)) IntKind.u64.bits) = ((a / 2 ^ s : Nat) : Int) := by
  rw [show min (Int.toNat (s : Int)) IntKind.u64.bits = s by simp [IntKind.bits]; omega, Int.fdiv_eq_ediv_of_nonneg _ (Int.le_of_lt (Int.pow_pos (by omega)))]
  push_cast; rfl
theorem shl1_u64 {s : Nat} (hs : s < 64) : IntKind.u64.wrap (1 * 2 ^ min (Int.toNat (s : Int)) IntKind.u64.bits) = ((2 ^ s : Nat) : Int) := by
  rw [show min (Int.toNat (s : Int)) IntKind.u64.bits = s by simp [IntKind.bits]; omega, Int.one_mul]
  have : (2 : Nat) ^ s < 2 ^ 64 := Nat.pow_lt_pow_right (by omega) hs
  have e := u64_id this
  push_cast at e ⊢
  exact e
theorem bit_test (x s : Nat) : (((x / 2 ^ s) &&& 1 : Nat) == 1) = x.testBit s := by
  rw [Nat.testBit, Nat.shiftRight_eq_div_pow, Nat.and_comm]
  have : 1 &&& x / 2 ^ s = x / 2 ^ s % 2 := by rw [Nat.and_comm]; exact Nat.and_two_pow_sub_one_eq_mod _ 1
  rw [this]
  rcases Nat.mod_two_eq_zero_or_one (x / 2 ^ s) with h | h <;> simp [h]
theorem i64_div {m : Int} (h0 : 0 ≤ m) (h1 : m < 9223372036854775808) (d : Nat) (hd : 0 < d) : IntKind.i64.wrap (Int.tdiv m d) = ((m.toNat / d : Nat) : Int) := by
  rw [Int.tdiv_eq_ediv_of_nonneg h0]
  obtain ⟨k, rfl⟩ := Int.eq_ofNat_of_zero_le h0
  have : ((k : Int) / d) = ((k / d : Nat) : Int) := by push_cast; rfl
  have h := Nat.div_le_self k d
  rw [this, Int.toNat_natCast]
  generalize k / d = q at *
  exact W_id (by omega) (by omega)
end Go.Proofs.YtbnadobjnmboiaaDoor.X
