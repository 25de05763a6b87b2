/-
  tables: where a device's entry stands.
-/
import Derived.Test.YthoieihffbahpaaM7
namespace Go.Proofs.Ythoieihffbahpaa
open Go Go.RowKit X
set_option maxRecDepth 100000
set_option linter.unusedVariables false
def tabV (a s pg : Int) : Value := .agg [.int .i64 a, .int .i64 s, .int .i64 pg].toArray
def devV (v : Bool) (b a : Int) : Value := .agg [.bool v, .int .i64 b, .int .i64 a].toArray
def rouV (n c : Int) (v : Bool) : Value := .agg [.int .i64 n, .int .i64 c, .bool v].toArray
theorem flag_plain (b : Bool) (w : World) : CV P F.tables_flag [.bool b] w fun v w' => v = .int .u64 (if b then 9223372036854775808 else 0) ∧ Below w.heap.size w w' := by
  refine tables_flag_cv ?_
  unfold tables_flag
  cases b
  · exact cnd_i (fun h => by cases h) fun _ => ⟨rfl, Below.refl _ _⟩
  · exact cnd_i (fun _ => ⟨rfl, Below.refl _ _⟩) (fun h => by cases h)
/-- a page that may not be -/
def pgBad (pg : Int) : Bool := pg != 0 && (decide (pg < 8) || (decide (pg > 131072) || (bitX .and .i64 pg (IntKind.i64.wrap (pg - 1)) != 0)))
def rightE (n : Nat) (a s pg : Int) : Int := if holdsB n a s then (if pgBad pg then 1 else 0) else 42
theorem right_t (b : Nat) (bs : List Int) (a s pg : Int) : Tri P F.tables_Table_Right [tabV a s pg, ptr b] [memI b bs] fun v L' => v = .int .i64 (rightE bs.length a s pg) ∧ L' = [memI b bs] := by
  intro w S hS
  refine tables_Table_Right_cv ?_
  unfold tables_Table_Right
  have H := Own.start hS
  refine alc_o H fun bx wx H => ?_
  repeat (first | refine ldI_o H (by repeat (first | exact Pick.here | apply Pick.there)) (by rfl) ?_ | refine ldL_o H (by repeat (first | exact Pick.here | apply Pick.there)) (by rfl) ?_ | refine ldB_o H (by repeat (first | exact Pick.here | apply Pick.there)) (by rfl) ?_ | refine ldP_o H (by repeat (first | exact Pick.here | apply Pick.there)) (by rfl) ?_ | refine ldS_o H (by repeat (first | exact Pick.here | apply Pick.there)) (by rfl) ?_)
  refine call_p H (holds_t b bs a s) (by repeat (first | exact Cut.nil | (apply Cut.cons; (repeat (first | exact Pick.here | apply Pick.there))))) fun wx H => ?_
  refine ⟨_, rfl, ?_⟩
  unfold rightE
  cases hh : holdsB bs.length a s
  · exact cnd_i (fun _ => ⟨_, ⟨rfl, rfl⟩, H.drop (by repeat (first | exact Cut.nil | (apply Cut.cons; (repeat (first | exact Pick.here | apply Pick.there)))))⟩) (fun h => by cases h)
  refine cnd_i (fun h => by cases h) fun _ => join_o ?_
  have fin : ∀ x, x = pgBad pg → tables_Table_Right_j0 (fun v w' => ∃ L', (v = .int .i64 (if true then (if pgBad pg then 1 else 0) else 42) ∧ L' = [memI b bs]) ∧ X.Own w S L' w') x wx := by
    rintro _ rfl
    unfold tables_Table_Right_j0
    cases pgBad pg
    · exact cnd_i (fun h => by cases h) fun _ => ⟨_, ⟨rfl, rfl⟩, H.drop (by repeat (first | exact Cut.nil | (apply Cut.cons; (repeat (first | exact Pick.here | apply Pick.there)))))⟩
    · exact cnd_i (fun _ => ⟨_, ⟨rfl, rfl⟩, H.drop (by repeat (first | exact Cut.nil | (apply Cut.cons; (repeat (first | exact Pick.here | apply Pick.there)))))⟩) (fun h => by cases h)
  refine ldI_o H (by repeat (first | exact Pick.here | apply Pick.there)) (by rfl) (cnd_i (fun h1 => ldI_o H (by repeat (first | exact Pick.here | apply Pick.there)) (by rfl) (cnd_i (fun h2 => fin _ ?_) fun h2 => ldI_o H (by repeat (first | exact Pick.here | apply Pick.there)) (by rfl) (cnd_i (fun h3 => fin _ ?_) fun h3 => ldI_o H (by repeat (first | exact Pick.here | apply Pick.there)) (by rfl) (ldI_o H (by repeat (first | exact Pick.here | apply Pick.there)) (by rfl) (fin _ ?_))))) fun h1 => fin _ ?_)
  · simp only [pgBad, h1, h2, Bool.true_or, Bool.true_and]
  · simp only [pgBad, h1, h2, h3, Bool.true_or, Bool.true_and, Bool.false_or]
  · simp only [pgBad, h1, h2, h3, Bool.true_and, Bool.false_or]
  · simp only [pgBad, h1, Bool.false_and]
/-- the number of eight bytes at a place -/
def w8 (bs : List Int) (p : Nat) : Int := le (cut bs p 8)
theorem w8_range {bs : List Int} {p : Nat} (hr : ∀ x ∈ bs, 0 ≤ x ∧ x < 256) : 0 ≤ w8 bs p ∧ w8 bs p < 2 ^ 64 := by
  have h := le_nonneg (bs := cut bs p 8) fun x hx => hr x (cut_mem hx)
  have h2 : (cut bs p 8).length ≤ 8 := by simp [cut]; omega
  have h3 : (256 : Int) ^ (cut bs p 8).length ≤ 256 ^ 8 := by
    have : (256 : Nat) ^ (cut bs p 8).length ≤ 256 ^ 8 := Nat.pow_le_pow_right (by omega) h2
    exact_mod_cast this
  have h4 : (256 : Int) ^ 8 = 18446744073709551616 := by decide
  exact ⟨h.1, by unfold w8; omega⟩
/-- an entry of a window: its place, or why there is none -/
def entM (n : Nat) (a s k : Int) : Int × Int := if holdsB n a s = true ∧ 0 ≤ k ∧ 8 * k + 8 ≤ s then (a + 8 * k, 0) else (0, 180)
def slotM (bs : List Int) (a s pg id : Int) : Int × Int :=
  if rightE bs.length a s pg ≠ 0 then (0, rightE bs.length a s pg)
  else if id < 0 ∨ id ≥ 131072 then (0, 180)
  else if pg = 0 then entM bs.length a s id
  else if (entM bs.length a s (id / (pg / 8))).2 ≠ 0 then (0, 180)
  else if w8 bs (entM bs.length a s (id / (pg / 8))).1.toNat < 9223372036854775808 then (0, 180)
  else entM bs.length (w8 bs (entM bs.length a s (id / (pg / 8))).1.toNat % 4294967296) pg (id % (pg / 8))
def slotV (r : Int × Int) : Value := .tuple [winV r.1 (if r.2 = 0 then 8 else 0), .int .i64 r.2].toArray
theorem pg_pos {pg : Int} (h : pgBad pg = false) (h0 : pg ≠ 0) : 8 ≤ pg ∧ pg ≤ 131072 := by
  simp only [pgBad, Bool.and_eq_false_iff, bne_eq_false_iff_eq, Bool.or_eq_false_iff, decide_eq_false_iff_not] at h
  rcases h with h | h
  · exact absurd h h0
  · omega
theorem errE8 {n : Nat} {a s k : Int} (hh : holdsB n a s = true) (hn : n ≤ 131072) (hk : 0 ≤ k) : errE n a s (8 * k) 8 = if 8 * k + 8 ≤ s then 0 else 42 := by
  have h := holdsB_iff.1 hh
  unfold errE mayE
  rw [if_pos hh, if_neg (by omega), if_neg (by rw [Int.tmod_eq_emod_of_nonneg (by omega)]; omega), W_id (by omega) (by omega)]
  split <;> split <;> omega
theorem low32 {x : Int} (h : 0 ≤ x ∧ x < 2 ^ 64) : IntKind.i64.wrap (bitX .and .u64 x 4294967295) = x % 4294967296 := by
  have := and_low h.1 h.2 32 (by omega)
  rw [show (((2 ^ 32 - 1 : Nat) : Int)) = 4294967295 from rfl, show (2 : Int) ^ 32 = 4294967296 from rfl] at this
  rw [this, W_id (by omega) (by omega)]
theorem top_bit {x : Int} (h : 0 ≤ x ∧ x < 2 ^ 64) : ((Int.fdiv x (2 ^ min (Int.toNat 63) IntKind.u64.bits)) == 0) = decide (x < 9223372036854775808) := by
  obtain ⟨n, rfl⟩ := Int.eq_ofNat_of_zero_le h.1
  rw [show Int.fdiv (n : Int) (2 ^ min (Int.toNat 63) IntKind.u64.bits) = ((n / 2 ^ 63 : Nat) : Int) from shr_u64 n (s := 63) (by omega)]
  rw [Bool.eq_iff_iff, beq_iff_eq, decide_eq_true_eq]
  omega
end Go.Proofs.Ythoieihffbahpaa
