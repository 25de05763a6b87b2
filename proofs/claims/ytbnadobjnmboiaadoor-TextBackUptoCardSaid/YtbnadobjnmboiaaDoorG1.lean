/-
  Plain laws of texts: numbers as digits and back; words that are joined.
-/
import Derived.Lib.ItoaMem
import Derived.Lib.AtoiAllCases
import Derived.Lib.Join
namespace Go.Proofs.YtbnadobjnmboiaaDoor
open Go Go.Lib
set_option linter.unusedVariables false
set_option linter.unusedSimpArgs false
theorem parse_app : ∀ {l : List UInt8} {acc v : Nat} (r : List UInt8), parseUint10 acc l = .ok v → parseUint10 acc (l ++ r) = parseUint10 v r
  | [], acc, v, r, h => by simp only [parseUint10] at h; injection h with h; subst h; rfl
  | c :: l, acc, v, r, h => by
    simp only [parseUint10] at h
    simp only [List.cons_append, parseUint10]
    split at h
    · rename_i hc
      rw [if_pos hc]
      split at h
      · cases h
      · rename_i h1
        rw [if_neg h1]
        split at h
        · cases h
        · rename_i h2
          rw [if_neg h2]
          exact parse_app r h
    · cases h
theorem dig_toNat {u : Nat} (h : u < 10) : (UInt8.ofNat (48 + u)).toNat = 48 + u := by
  rw [UInt8.toNat_ofNat']; omega
theorem parse_dec (u : Nat) (h : u < 18446744073709551616) : parseUint10 0 (decDigits u) = .ok u := by
  induction u using Nat.strongRecOn with
  | _ u ih =>
    by_cases h1 : u < 10
    · rw [decDigits, dif_pos h1]
      simp only [parseUint10]
      rw [dig_toNat h1, if_pos (by omega), if_neg (by omega), if_neg (by omega)]
      congr 1; omega
    · rw [decDigits, dif_neg h1, parse_app _ (ih (u / 10) (by omega) (by omega))]
      simp only [parseUint10]
      rw [dig_toNat (by omega), if_pos (by omega), if_neg (by omega), if_neg (by omega)]
      congr 1; omega
theorem dec_digit {u : Nat} {c : UInt8} (h : c ∈ decDigits u) : 48 ≤ c.toNat ∧ c.toNat ≤ 57 := by
  rw [decDigits_eq] at h
  obtain ⟨t, _, rfl⟩ := List.mem_map.1 h
  unfold dg
  rw [dig_toNat (Nat.mod_lt _ (by omega))]
  have := Nat.mod_lt (u / 10 ^ (nDigits u - 1 - t)) (show 0 < 10 by omega)
  omega
theorem dec_ne (u : Nat) : decDigits u ≠ [] := by
  intro h
  have := decDigits_length u
  rw [h] at this
  have := nDigits_pos u
  simp at *
  omega
theorem atoi_itoa (n : Int) (h0 : -9223372036854775808 ≤ n) (h1 : n ≤ 9223372036854775807) : atoiAll (itoa n) = .ok n := by
  unfold itoa
  split
  · rename_i hn
    rw [atoiAll_minus]
    unfold parseMag
    rw [if_neg (dec_ne _), parse_dec _ (by omega)]
    simp only [signed]
    rw [if_neg (by omega)]
    congr 1; omega
  · rename_i hn
    cases hd : decDigits n.toNat with
    | nil => exact absurd hd (dec_ne _)
    | cons c r =>
      have hc := dec_digit (u := n.toNat) (c := c) (by rw [hd]; simp)
      rw [atoiAll_plain c r (by omega) (by omega), ← hd]
      unfold parseMag
      rw [if_neg (dec_ne _), parse_dec _ (by omega)]
      simp only [signless]
      rw [if_neg (by omega)]
      congr 1; omega
theorem itoa_inj {m n : Int} (hm : -9223372036854775808 ≤ m ∧ m ≤ 9223372036854775807) (hn : -9223372036854775808 ≤ n ∧ n ≤ 9223372036854775807) (h : itoa m = itoa n) : m = n := by
  have e1 := atoi_itoa m hm.1 hm.2
  rw [h, atoi_itoa n hn.1 hn.2] at e1
  injection e1 with e1
  exact e1.symm
theorem itoa_char {n : Int} {c : UInt8} (h : c ∈ itoa n) : c.toNat = 45 ∨ (48 ≤ c.toNat ∧ c.toNat ≤ 57) := by
  unfold itoa at h
  split at h
  · rcases List.mem_cons.1 h with rfl | h
    · exact .inl rfl
    · exact .inr (dec_digit h)
  · exact .inr (dec_digit h)
theorem itoa_nospace (n : Int) : (32 : UInt8) ∉ itoa n := by
  intro h
  have := itoa_char h
  simp at this
theorem itoa_ne (n : Int) : itoa n ≠ [] := by
  unfold itoa
  split
  · simp
  · exact dec_ne _
/-! ### Words that are joined -/
theorem cut_at {s : UInt8} : ∀ {x y T U : List UInt8}, s ∉ x → s ∉ y → (T = [] ∨ ∃ t, T = s :: t) → (U = [] ∨ ∃ t, U = s :: t) → x ++ T = y ++ U → x = y ∧ T = U
  | [], [], T, U, _, _, _, _, h => ⟨rfl, h⟩
  | [], b :: y, T, U, _, hy, hT, _, h => by
    rw [List.nil_append] at h
    subst h
    rcases hT with h | ⟨t, h⟩
    · cases h
    · injection h with h
      subst h
      exact absurd (List.mem_cons_self ..) hy
  | a :: x, [], T, U, hx, _, _, hU, h => by
    rw [List.nil_append] at h
    subst h
    rcases hU with h | ⟨t, h⟩
    · cases h
    · injection h with h
      subst h
      exact absurd (List.mem_cons_self ..) hx
  | a :: x, b :: y, T, U, hx, hy, hT, hU, h => by
    simp only [List.cons_append, List.cons.injEq] at h
    obtain ⟨rfl, h⟩ := h
    obtain ⟨rfl, rfl⟩ := cut_at (fun h => hx (List.mem_cons_of_mem _ h)) (fun h => hy (List.mem_cons_of_mem _ h)) hT hU h
    exact ⟨rfl, rfl⟩
theorem tail_head (s : UInt8) (r : List (List UInt8)) : joinTail [s] r = [] ∨ ∃ t, joinTail [s] r = s :: t := by
  cases r with
  | nil => exact .inl rfl
  | cons x r => exact .inr ⟨x ++ joinTail [s] r, by simp [joinTail]⟩
theorem tail_inj {s : UInt8} : ∀ {xs ys : List (List UInt8)}, (∀ x ∈ xs, s ∉ x) → (∀ y ∈ ys, s ∉ y) → joinTail [s] xs = joinTail [s] ys → xs = ys
  | [], [], _, _, _ => rfl
  | [], y :: ys, _, _, h => by simp [joinTail] at h
  | x :: xs, [], _, _, h => by simp [joinTail] at h
  | x :: xs, y :: ys, hx, hy, h => by
    have e : ∀ (z : List UInt8) zs, joinTail [s] (z :: zs) = s :: (z ++ joinTail [s] zs) := by intro z zs; simp [joinTail]
    rw [e, e, List.cons.injEq] at h
    obtain ⟨rfl, h2⟩ := cut_at (hx x (List.mem_cons_self ..)) (hy y (List.mem_cons_self ..)) (tail_head s xs) (tail_head s ys) h.2
    rw [tail_inj (fun z hz => hx z (List.mem_cons_of_mem _ hz)) (fun z hz => hy z (List.mem_cons_of_mem _ hz)) h2]
theorem join_inj {s : UInt8} {xs ys : List (List UInt8)} (hx : ∀ x ∈ xs, s ∉ x) (hy : ∀ y ∈ ys, s ∉ y) (nx : xs ≠ []) (ny : ys ≠ []) (h : join xs [s] = join ys [s]) : xs = ys := by
  cases xs with
  | nil => exact absurd rfl nx
  | cons x xs =>
    cases ys with
    | nil => exact absurd rfl ny
    | cons y ys =>
      rw [join_cons, join_cons] at h
      obtain ⟨rfl, h2⟩ := cut_at (hx x (List.mem_cons_self ..)) (hy y (List.mem_cons_self ..)) (tail_head s xs) (tail_head s ys) h
      rw [tail_inj (fun z hz => hx z (List.mem_cons_of_mem _ hz)) (fun z hz => hy z (List.mem_cons_of_mem _ hz)) h2]
end Go.Proofs.YtbnadobjnmboiaaDoor
