/-
  tables: a device's entry put; its events, and their routes.
-/
import Derived.Test.YthoieihffbahpaaL3
namespace Go.Proofs.Ythoieihffbahpaa
open Go Go.RowKit X
set_option maxRecDepth 100000
set_option linter.unusedVariables false
set_option maxHeartbeats 1000000
theorem and_low_i {v : Int} (h0 : 0 ≤ v) (h1 : v < 9223372036854775808) (m : Nat) (hm : m ≤ 63) (c : Int) (hc : c = ((2 ^ m - 1 : Nat) : Int)) : bitX .and .i64 v c = v % 2 ^ m := by
  subst hc
  obtain ⟨x, rfl⟩ := Int.eq_ofNat_of_zero_le h0
  have hx : x < 2 ^ 63 := by omega
  have hle : 2 ^ m ≤ 2 ^ 63 := Nat.pow_le_pow_right (by omega) hm
  have hp : 0 < 2 ^ m := Nat.pow_pos (by omega)
  show IntKind.i64.wrap ((BitVec.ofInt 64 (x : Int) &&& BitVec.ofInt 64 ((2 ^ m - 1 : Nat) : Int)).toNat : Int) = _
  rw [BitVec.toNat_and, BitVec.ofInt_natCast, BitVec.ofInt_natCast, BitVec.toNat_ofNat, BitVec.toNat_ofNat, Nat.mod_eq_of_lt (by omega), Nat.mod_eq_of_lt (by omega), Nat.and_two_pow_sub_one_eq_mod]
  have hlt : x % 2 ^ m < 2 ^ m := Nat.mod_lt _ hp
  rw [W_id (by omega) (by omega)]; push_cast; rfl
/-- numbers of bits that are apart -/
theorem or_apart {x : Int} (k m : Nat) (hm : m ≤ k) (hx : 0 ≤ x ∧ x < 2 ^ m) (a b : Int) (ha : 0 ≤ a) (hb : 0 ≤ b ∧ b < 2 ^ (k - m)) (hk : k < 64) (h : 2 ^ k * a < 18446744073709551616) : bitX .or .u64 (2 ^ k * a + x) (2 ^ m * b) = 2 ^ k * a + x + 2 ^ m * b := by
  obtain ⟨x, rfl⟩ := Int.eq_ofNat_of_zero_le hx.1
  obtain ⟨a, rfl⟩ := Int.eq_ofNat_of_zero_le ha
  obtain ⟨b, rfl⟩ := Int.eq_ofNat_of_zero_le hb.1
  have hx' : x < 2 ^ m := by have := hx.2; exact_mod_cast this
  have hb' : b < 2 ^ (k - m) := by have := hb.2; exact_mod_cast this
  have e1 : 2 ^ k = 2 ^ m * 2 ^ (k - m) := by rw [← Nat.pow_add]; congr 1; omega
  have hbm : 2 ^ m * b + 2 ^ m ≤ 2 ^ k := by
    rw [e1, ← Nat.mul_succ]; exact Nat.mul_le_mul_left _ hb'
  have ha' : 2 ^ k * a + 2 ^ k ≤ 2 ^ 64 := by
    have e : (2 : Nat) ^ 64 = 2 ^ k * 2 ^ (64 - k) := by rw [← Nat.pow_add]; congr 1; omega
    have h : 2 ^ k * a < 2 ^ 64 := by
      have h' : ((2 ^ k * a : Nat) : Int) < 18446744073709551616 := by push_cast; exact h
      omega
    rw [e] at h ⊢
    have := Nat.lt_of_mul_lt_mul_left h
    rw [← Nat.mul_succ]; exact Nat.mul_le_mul_left _ this
  have e : bitX .or .u64 ((2 ^ k * a + x : Nat) : Int) ((2 ^ m * b : Nat) : Int) = ((2 ^ k * a + x + 2 ^ m * b : Nat) : Int) := by
    rw [or_u64 (by omega) (by omega)]
    congr 1
    have e2 : (2 ^ k * a + x) ||| 2 ^ m * b = 2 ^ k * a + (2 ^ m * b + x) := by
      rw [Nat.two_pow_add_eq_or_of_lt (i := k) (b := x) (by omega), Nat.or_assoc, Nat.or_comm x, ← Nat.two_pow_add_eq_or_of_lt hx', ← Nat.two_pow_add_eq_or_of_lt (by omega)]
    omega
  push_cast at e
  exact e
theorem or_two3 {bi at' : Int} (h : 0 ≤ bi ∧ bi ≤ 31) (h2 : 0 ≤ at' ∧ at' < 281474976710656) (h3 : at' % 256 = 0) : bitX .or .u64 (9223372036854775808 + bi) at' = 9223372036854775808 + bi + at' := by
  have := or_apart (x := bi) 63 8 (by omega) ⟨h.1, by omega⟩ 1 (at' / 256) (by omega) ⟨by omega, by omega⟩ (by omega) (by omega)
  rw [show (2 : Int) ^ 8 * (at' / 256) = at' by omega, show (2 : Int) ^ 63 * 1 = 9223372036854775808 from by decide] at this
  exact this
def putM (bs : List Int) (a s pg id : Int) (v : Bool) (b at' : Int) : List Int × Int :=
  if (slotM bs a s pg id).2 ≠ 0 then (bs, (slotM bs a s pg id).2)
  else if v = false then (wr bs (slotM bs a s pg id).1.toNat 0 8, 0)
  else if b < 0 ∨ b > 31 ∨ at' < 0 ∨ at' % 256 ≠ 0 ∨ at' ≥ 281474976710656 then (bs, 1)
  else (wr bs (slotM bs a s pg id).1.toNat (9223372036854775808 + b + at') 8, 0)
theorem put_t (b : Nat) (bs : List Int) (hr : ∀ x ∈ bs, 0 ≤ x ∧ x < 256) (hn : bs.length ≤ 131072) (a s pg id : Int) (v : Bool) (bi at' : Int) (hat : at' < 9223372036854775808) : Tri P F.tables_Table_Put [tabV a s pg, ptr b, .int .i64 id, devV v bi at'] [memI b bs] fun x L' => x = .int .i64 (putM bs a s pg id v bi at').2 ∧ L' = [memI b (putM bs a s pg id v bi at').1] := by
  intro w S hS
  refine tables_Table_Put_cv ?_
  unfold tables_Table_Put
  have H := Own.start hS
  refine alc_o H fun b9 wx H => alc_o H fun b11 wx H => ?_
  repeat (first | refine ldI_o H (by repeat (first | exact Pick.here | apply Pick.there)) (by rfl) ?_ | refine ldL_o H (by repeat (first | exact Pick.here | apply Pick.there)) (by rfl) ?_ | refine ldB_o H (by repeat (first | exact Pick.here | apply Pick.there)) (by rfl) ?_ | refine ldP_o H (by repeat (first | exact Pick.here | apply Pick.there)) (by rfl) ?_ | refine ldS_o H (by repeat (first | exact Pick.here | apply Pick.there)) (by rfl) ?_)
  refine call_p H (slot_t b bs hr hn a s pg id) (by repeat (first | exact Cut.nil | (apply Cut.cons; (repeat (first | exact Pick.here | apply Pick.there))))) fun wx H => ?_
  have hok := slotM_ok (bs := bs) (a := a) (s := s) (pg := pg) (id := id)
  unfold putM
  generalize slotM bs a s pg id = r at *
  obtain ⟨p, e⟩ := r
  dsimp only at *
  refine ⟨_, _, _, rfl, alc_o H fun bz wx H => ?_⟩
  refine st1_o H (by repeat (first | exact Rep.here | apply Rep.there)) (by simp) fun wx H => ?_
  refine st1_o H (by repeat (first | exact Rep.here | apply Rep.there)) (by simp) fun wx H => ?_
  refine cnd_i (fun h => ?_) fun h => ?_
  · have h : e ≠ 0 := by simpa using h
    rw [if_pos h]
    exact ⟨_, ⟨rfl, rfl⟩, H.drop (by repeat (first | exact Cut.nil | (apply Cut.cons; (repeat (first | exact Pick.here | apply Pick.there)))))⟩
  have h : e = 0 := by simpa using h
  subst h
  have hok := hok rfl
  simp only [if_true, ne_eq, not_true, if_false] at H ⊢
  refine ldB_o H (by repeat (first | exact Pick.here | apply Pick.there)) (by rfl) (cnd_i (fun h => ?_) fun h => ?_)
  · have h : v = false := by simpa using h
    subst h
    repeat (first | refine ldI_o H (by repeat (first | exact Pick.here | apply Pick.there)) (by rfl) ?_ | refine ldL_o H (by repeat (first | exact Pick.here | apply Pick.there)) (by rfl) ?_ | refine ldB_o H (by repeat (first | exact Pick.here | apply Pick.there)) (by rfl) ?_ | refine ldP_o H (by repeat (first | exact Pick.here | apply Pick.there)) (by rfl) ?_ | refine ldS_o H (by repeat (first | exact Pick.here | apply Pick.there)) (by rfl) ?_)
    refine call_o H (write_t b bs p 8 0 8 0) (by repeat (first | exact Cut.nil | (apply Cut.cons; (repeat (first | exact Pick.here | apply Pick.there))))) fun vx L' wx hq H => ?_
    obtain ⟨rfl, rfl⟩ := hq
    simp only [List.cons_append, List.nil_append] at H
    rw [writeM0 hok] at H
    exact ⟨_, rfl, _, ⟨rfl, rfl⟩, H.drop (by repeat (first | exact Cut.nil | (apply Cut.cons; (repeat (first | exact Pick.here | apply Pick.there)))))⟩
  have h : v = true := by simpa using h
  subst h
  simp only [reduceCtorEq, if_false]
  have out : ∀ x, x = decide (bi < 0 ∨ bi > 31 ∨ at' < 0 ∨ at' % 256 ≠ 0 ∨ at' ≥ 281474976710656) → tables_Table_Put_j0 (some ⟨b, 0, none⟩) (fun v w' => ∃ L', (v = .int .i64 (if bi < 0 ∨ bi > 31 ∨ at' < 0 ∨ ¬ at' % 256 = 0 ∨ at' ≥ 281474976710656 then (bs, (1 : Int)) else (wr bs p.toNat (9223372036854775808 + bi + at') 8, 0)).2 ∧ L' = [memI b (if bi < 0 ∨ bi > 31 ∨ at' < 0 ∨ ¬ at' % 256 = 0 ∨ at' ≥ 281474976710656 then (bs, (1 : Int)) else (wr bs p.toNat (9223372036854775808 + bi + at') 8, 0)).1]) ∧ X.Own w S L' w') b11 bz x wx := by
    intro x hx
    unfold tables_Table_Put_j0
    refine cnd_i (fun h => ?_) fun h => ?_
    · rw [h] at hx
      rw [if_pos (of_decide_eq_true hx.symm)]
      exact ⟨_, ⟨rfl, rfl⟩, H.drop (by repeat (first | exact Cut.nil | (apply Cut.cons; (repeat (first | exact Pick.here | apply Pick.there)))))⟩
    · rw [h] at hx
      have hx := of_decide_eq_false hx.symm
      rw [if_neg hx]
      refine drw_o H fun wx H => ?_
      repeat (first | refine ldI_o H (by repeat (first | exact Pick.here | apply Pick.there)) (by rfl) ?_ | refine ldL_o H (by repeat (first | exact Pick.here | apply Pick.there)) (by rfl) ?_ | refine ldB_o H (by repeat (first | exact Pick.here | apply Pick.there)) (by rfl) ?_ | refine ldP_o H (by repeat (first | exact Pick.here | apply Pick.there)) (by rfl) ?_ | refine ldS_o H (by repeat (first | exact Pick.here | apply Pick.there)) (by rfl) ?_)
      refine call_p H (tri_plain (flag_plain true)) (by repeat (first | exact Cut.nil | (apply Cut.cons; (repeat (first | exact Pick.here | apply Pick.there))))) fun wx H => ?_
      refine ⟨_, rfl, rfl, ldI_o H (by repeat (first | exact Pick.here | apply Pick.there)) (by rfl) rfl, rfl, ldI_o H (by repeat (first | exact Pick.here | apply Pick.there)) (by rfl) rfl, ldI_o H (by repeat (first | exact Pick.here | apply Pick.there)) (by rfl) (ldI_o H (by repeat (first | exact Pick.here | apply Pick.there)) (by rfl) rfl), ?_⟩
      rw [if_pos rfl, u64_int (x := bi) (by omega), u64_int (x := at') (by omega), or_top (by omega)]
      have e : bitX .or .u64 (9223372036854775808 + bi) at' = 9223372036854775808 + bi + at' := by
        have := or_two3 (bi := bi) (at' := at') (by omega) (by omega) (by omega)
        exact this
      rw [e]
      refine call_o H (write_t b bs p 8 0 8 (9223372036854775808 + bi + at')) (by repeat (first | exact Cut.nil | (apply Cut.cons; (repeat (first | exact Pick.here | apply Pick.there))))) fun vx L' wx hq H => ?_
      obtain ⟨rfl, rfl⟩ := hq
      simp only [List.cons_append, List.nil_append] at H
      rw [writeM0 hok] at H
      exact ⟨_, rfl, _, ⟨rfl, rfl⟩, H.drop (by repeat (first | exact Cut.nil | (apply Cut.cons; (repeat (first | exact Pick.here | apply Pick.there)))))⟩
  refine join_o (ldI_o H (by repeat (first | exact Pick.here | apply Pick.there)) (by rfl) (cnd_i (fun h => out _ (.symm (decide_eq_true (.inl (of_decide_eq_true h))))) fun h1 => ldI_o H (by repeat (first | exact Pick.here | apply Pick.there)) (by rfl) (cnd_i (fun h => out _ (.symm (decide_eq_true (.inr (.inl (of_decide_eq_true h)))))) fun h2 => ldI_o H (by repeat (first | exact Pick.here | apply Pick.there)) (by rfl) (cnd_i (fun h => out _ (.symm (decide_eq_true (.inr (.inr (.inl (of_decide_eq_true h))))))) fun h3 => ldI_o H (by repeat (first | exact Pick.here | apply Pick.there)) (by rfl) ?_))))
  have h1 := of_decide_eq_false h1
  have h2 := of_decide_eq_false h2
  have h3 := of_decide_eq_false h3
  rw [and_low_i (by omega) hat 8 (by omega) 255 rfl, show (2 : Int) ^ 8 = 256 from rfl]
  refine cnd_i (fun h => out _ (.symm (decide_eq_true (.inr (.inr (.inr (.inl (by simpa using h)))))))) fun h4 => ldI_o H (by repeat (first | exact Pick.here | apply Pick.there)) (by rfl) (out _ ?_)
  have h4 : at' % 256 = 0 := by simpa using h4
  rw [Bool.eq_iff_iff, decide_eq_true_eq, decide_eq_true_eq]
  omega
end Go.Proofs.Ythoieihffbahpaa
