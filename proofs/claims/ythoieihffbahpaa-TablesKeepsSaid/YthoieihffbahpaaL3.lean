/-
  tables: devices' entries; a page led somewhere; collections.
-/
import Derived.Test.YthoieihffbahpaaL2
import Derived.Test.YthoieihffbahpaaM8
namespace Go.Proofs.Ythoieihffbahpaa
open Go Go.RowKit X
set_option maxRecDepth 100000
set_option linter.unusedVariables false
set_option maxHeartbeats 1000000
theorem entM_ok {n : Nat} {a s k : Int} (h : (entM n a s k).2 = 0) : 0 ≤ (entM n a s k).1 ∧ (entM n a s k).1 + 8 ≤ n ∧ holdsB n a s = true ∧ 0 ≤ k ∧ 8 * k + 8 ≤ s ∧ (entM n a s k).1 = a + 8 * k := by
  unfold entM at *
  split at h
  · rename_i hc
    have := holdsB_iff.1 hc.1
    rw [if_pos hc]
    exact ⟨by show 0 ≤ a + 8 * k; omega, by show a + 8 * k + 8 ≤ n; omega, hc.1, hc.2.1, hc.2.2, rfl⟩
  · cases h
theorem slotM_ok {bs : List Int} {a s pg id : Int} (h : (slotM bs a s pg id).2 = 0) : 0 ≤ (slotM bs a s pg id).1 ∧ (slotM bs a s pg id).1 + 8 ≤ bs.length := by
  unfold slotM at *
  split at h
  · rename_i hc; exact absurd h hc
  · rename_i hc
    rw [if_neg hc]
    split at h
    · cases h
    · rename_i h1
      rw [if_neg h1]
      split at h
      · rename_i h2; rw [if_pos h2]; exact ⟨(entM_ok h).1, (entM_ok h).2.1⟩
      · rename_i h2
        rw [if_neg h2]
        split at h
        · cases h
        · rename_i h3
          rw [if_neg h3]
          split at h
          · cases h
          · rename_i h4
            rw [if_neg h4]; exact ⟨(entM_ok h).1, (entM_ok h).2.1⟩
theorem err0 {n : Nat} {p : Int} (h : 0 ≤ p ∧ p + 8 ≤ n) : errE n p 8 0 8 = 0 := by
  have hh : holdsB n p 8 = true := holdsB_iff.2 (by omega)
  unfold errE mayE
  rw [if_pos hh, if_neg (by omega), if_neg (by simp), if_neg]
  rw [W_id (by omega) (by omega)]; omega
theorem readV0 {bs : List Int} {p : Int} (h : 0 ≤ p ∧ p + 8 ≤ bs.length) : readV bs p 8 0 8 = .tuple [.int .u64 (w8 bs p.toNat), .int .i64 0].toArray := by
  rw [readV, if_pos (err0 h), Int.add_zero]; rfl
theorem writeM0 {bs : List Int} {p v : Int} (h : 0 ≤ p ∧ p + 8 ≤ bs.length) : writeM bs p 8 0 8 v = wr bs p.toNat v 8 := by
  rw [writeM, if_pos (err0 h), Int.add_zero]; rfl
theorem or_disj (k q b : Nat) (hb : b < 2 ^ k) (h : 2 ^ k * q + b < 2 ^ 64) : bitX .or .u64 ((2 ^ k * q : Nat) : Int) (b : Int) = ((2 ^ k * q + b : Nat) : Int) := by
  rw [or_u64 (by omega) (by omega), ← Nat.two_pow_add_eq_or_of_lt hb]
theorem u64_int {x : Int} (h : 0 ≤ x ∧ x < 18446744073709551616) : IntKind.u64.wrap x = x := by
  obtain ⟨n, rfl⟩ := Int.eq_ofNat_of_zero_le h.1
  exact u64_id (by omega)
theorem or_top {x : Int} (h : 0 ≤ x ∧ x < 9223372036854775808) : bitX .or .u64 9223372036854775808 x = 9223372036854775808 + x := by
  obtain ⟨n, rfl⟩ := Int.eq_ofNat_of_zero_le h.1
  have := or_disj 63 1 n (by omega) (by omega)
  have e2 : ((2 ^ 63 * 1 : Nat) : Int) = 9223372036854775808 := by decide
  rw [Int.natCast_add, e2] at this
  exact this
theorem or_two (k : Nat) {q b : Int} (hq : 0 ≤ q) (hb : 0 ≤ b ∧ b < 2 ^ k) (h : 2 ^ k * q + b < 18446744073709551616) : bitX .or .u64 (2 ^ k * q) b = 2 ^ k * q + b := by
  obtain ⟨n, rfl⟩ := Int.eq_ofNat_of_zero_le hb.1
  obtain ⟨m, rfl⟩ := Int.eq_ofNat_of_zero_le hq
  have h' : 2 ^ k * m + n < 2 ^ 64 := by
    have h' : ((2 ^ k * m + n : Nat) : Int) < 18446744073709551616 := by push_cast; exact h
    omega
  have := or_disj k m n (by have := hb.2; exact_mod_cast this) h'
  push_cast at this
  exact this
/-! ### Writing and reading an entry -/
theorem w8_wr {bs : List Int} {p : Nat} {v : Int} (h : p + 8 ≤ bs.length) (hv : 0 ≤ v ∧ v < 18446744073709551616) : w8 (wr bs p v 8) p = v := by
  unfold w8
  rw [cut_wr v h, le_bytes v hv.1]
  have : (256 : Int) ^ 8 = 18446744073709551616 := by decide
  rw [this]; exact Int.emod_eq_of_lt hv.1 hv.2
theorem w8_wr_off {bs : List Int} {p q : Nat} {v : Int} (h : q + 8 ≤ p ∨ p + 8 ≤ q) : w8 (wr bs p v 8) q = w8 bs q := by
  unfold w8
  congr 1
  apply List.ext_getElem?
  intro j
  simp only [cut, List.getElem?_take, List.getElem?_drop, wr_get]
  split
  · rw [if_neg (by omega)]
  · rfl
def leadM (bs : List Int) (a s pg id at' : Int) : List Int × Int :=
  if rightE bs.length a s pg ≠ 0 then (bs, rightE bs.length a s pg)
  else if pg = 0 ∨ id < 0 ∨ id ≥ 131072 ∨ holdsB bs.length at' pg = false then (bs, 180)
  else if (entM bs.length a s (id / (pg / 8))).2 ≠ 0 then (bs, 180)
  else (wr bs (entM bs.length a s (id / (pg / 8))).1.toNat (9223372036854775808 + at') 8, 0)
theorem right0 {n : Nat} {a s pg : Int} (h : rightE n a s pg = 0) : holdsB n a s = true ∧ pgBad pg = false := by
  cases hh : holdsB n a s
  · simp [rightE, hh] at h
  · refine ⟨rfl, ?_⟩
    cases hp : pgBad pg
    · rfl
    · simp [rightE, hh, hp] at h
theorem lead_t (b : Nat) (bs : List Int) (hr : ∀ x ∈ bs, 0 ≤ x ∧ x < 256) (hn : bs.length ≤ 131072) (a s pg id at' : Int) : Tri P F.tables_Table_Lead [tabV a s pg, ptr b, .int .i64 id, .int .i64 at'] [memI b bs] fun v L' => v = .int .i64 (leadM bs a s pg id at').2 ∧ L' = [memI b (leadM bs a s pg id at').1] := by
  intro w S hS
  refine tables_Table_Lead_cv ?_
  unfold tables_Table_Lead
  have H := Own.start hS
  refine alc_o H fun b7 wx H => ?_
  repeat (first | refine ldI_o H (by repeat (first | exact Pick.here | apply Pick.there)) (by rfl) ?_ | refine ldL_o H (by repeat (first | exact Pick.here | apply Pick.there)) (by rfl) ?_ | refine ldB_o H (by repeat (first | exact Pick.here | apply Pick.there)) (by rfl) ?_ | refine ldP_o H (by repeat (first | exact Pick.here | apply Pick.there)) (by rfl) ?_ | refine ldS_o H (by repeat (first | exact Pick.here | apply Pick.there)) (by rfl) ?_)
  refine call_p H (right_t b bs a s pg) (by repeat (first | exact Cut.nil | (apply Cut.cons; (repeat (first | exact Pick.here | apply Pick.there))))) fun wx H => ?_
  refine ⟨_, rfl, cnd_i (fun h => ?_) fun h => ?_⟩
  · have h : rightE bs.length a s pg ≠ 0 := by simpa using h
    rw [leadM, if_pos h]
    exact ⟨_, ⟨rfl, rfl⟩, H.drop (by repeat (first | exact Cut.nil | (apply Cut.cons; (repeat (first | exact Pick.here | apply Pick.there)))))⟩
  have hri : rightE bs.length a s pg = 0 := by simpa using h
  obtain ⟨hh, hpb⟩ := right0 hri
  have e1 : leadM bs a s pg id at' = if pg = 0 ∨ id < 0 ∨ id ≥ 131072 ∨ holdsB bs.length at' pg = false then (bs, 180)
      else if (entM bs.length a s (id / (pg / 8))).2 ≠ 0 then (bs, 180)
      else (wr bs (entM bs.length a s (id / (pg / 8))).1.toNat (9223372036854775808 + at') 8, 0) := by rw [leadM, if_neg (by omega)]
  have out : ∀ wx, (pg = 0 ∨ id < 0 ∨ id ≥ 131072 ∨ holdsB bs.length at' pg = false) → X.Own w S [row b7 [.int .i64 a, .int .i64 s, .int .i64 pg] T.t32, memI b bs] wx → tables_Table_Lead_j0 (some ⟨b, 0, none⟩) id at' (fun v w' => ∃ L', (v = .int .i64 (leadM bs a s pg id at').2 ∧ L' = [memI b (leadM bs a s pg id at').1]) ∧ X.Own w S L' w') b7 true wx := by
    intro wx ho H
    unfold tables_Table_Lead_j0
    rw [e1, if_pos ho]
    exact cnd_i (fun _ => ⟨_, ⟨rfl, rfl⟩, H.drop (by repeat (first | exact Cut.nil | (apply Cut.cons; (repeat (first | exact Pick.here | apply Pick.there)))))⟩) (fun h => by cases h)
  refine join_o (ldI_o H (by repeat (first | exact Pick.here | apply Pick.there)) (by rfl) (cnd_i (fun h => out _ (.inl (eq_of_beq h)) H) fun hp => cnd_i (fun h => out _ (.inr (.inl (of_decide_eq_true h))) H) fun h1 => cnd_i (fun h => out _ (.inr (.inr (.inl (of_decide_eq_true h)))) H) fun h2 => ldI_o H (by repeat (first | exact Pick.here | apply Pick.there)) (by rfl) ?_))
  have hp0 : pg ≠ 0 := by simpa using hp
  have h1 := of_decide_eq_false h1
  have h2 := of_decide_eq_false h2
  refine call_p H (holds_t b bs at' pg) (by repeat (first | exact Cut.nil | (apply Cut.cons; (repeat (first | exact Pick.here | apply Pick.there))))) fun wx H => ?_
  refine ⟨_, rfl, ?_⟩
  cases hw : holdsB bs.length at' pg
  · exact out _ (.inr (.inr (.inr hw))) H
  have h5 := holdsB_iff.1 hw
  obtain ⟨p1, p2⟩ := pg_pos hpb hp0
  rw [if_neg (by rw [hw]; simp; omega)] at e1
  unfold tables_Table_Lead_j0
  refine cnd_i (fun h => by cases h) fun _ => ?_
  refine drw_o H fun wx H => ?_
  repeat (first | refine ldI_o H (by repeat (first | exact Pick.here | apply Pick.there)) (by rfl) ?_ | refine ldL_o H (by repeat (first | exact Pick.here | apply Pick.there)) (by rfl) ?_ | refine ldB_o H (by repeat (first | exact Pick.here | apply Pick.there)) (by rfl) ?_ | refine ldP_o H (by repeat (first | exact Pick.here | apply Pick.there)) (by rfl) ?_ | refine ldS_o H (by repeat (first | exact Pick.here | apply Pick.there)) (by rfl) ?_)
  have ediv : IntKind.i64.wrap (Int.tdiv pg 8) = pg / 8 := by rw [Int.tdiv_eq_ediv_of_nonneg (by omega), W_id (by omega) (by omega)]
  have hq2 : 0 ≤ id / (pg / 8) := Int.ediv_nonneg (by omega) (by omega)
  have hq3 : id / (pg / 8) ≤ id := Int.ediv_le_self _ (by omega)
  have eo : IntKind.i64.wrap (IntKind.i64.wrap (Int.tdiv id (pg / 8)) * 8) = 8 * (id / (pg / 8)) := by
    rw [Int.tdiv_eq_ediv_of_nonneg (by omega), W_id (n := id / (pg / 8)) (by omega) (by omega), W_id (by omega) (by omega)]; omega
  refine ⟨by omega, by rw [ediv]; omega, ?_⟩
  rw [ediv, eo]
  generalize id / (pg / 8) = q at *
  refine call_p H (tri_plain (flag_plain true)) (by repeat (first | exact Cut.nil | (apply Cut.cons; (repeat (first | exact Pick.here | apply Pick.there))))) fun wx H => ?_
  refine ⟨_, rfl, rfl, ldI_o H (by repeat (first | exact Pick.here | apply Pick.there)) (by rfl) rfl, ldI_o H (by repeat (first | exact Pick.here | apply Pick.there)) (by rfl) (ldI_o H (by repeat (first | exact Pick.here | apply Pick.there)) (by rfl) rfl), ?_⟩
  rw [if_pos rfl, u64_int (by omega), or_top (by omega)]
  have e8 := errE8 hh hn hq2 (n := bs.length) (a := a) (s := s) (k := q)
  refine call_o H (write_t b bs a s (8 * q) 8 (9223372036854775808 + at')) (by repeat (first | exact Cut.nil | (apply Cut.cons; (repeat (first | exact Pick.here | apply Pick.there))))) fun vx L' wx hq H => ?_
  obtain ⟨rfl, rfl⟩ := hq
  simp only [List.cons_append, List.nil_append] at H
  refine ⟨_, rfl, ?_⟩
  by_cases hfit : 8 * q + 8 ≤ s
  · rw [if_pos hfit] at e8
    have ee : entM bs.length a s q = (a + 8 * q, 0) := by rw [entM, if_pos ⟨hh, hq2, hfit⟩]
    rw [ee] at e1
    simp only [ne_eq, not_true, if_false] at e1
    rw [writeM, if_pos e8] at H
    rw [e8, e1]
    exact cnd_i (fun h => by cases h) fun _ => ⟨_, ⟨rfl, rfl⟩, H.drop (by repeat (first | exact Cut.nil | (apply Cut.cons; (repeat (first | exact Pick.here | apply Pick.there)))))⟩
  · rw [if_neg hfit] at e8
    have ee : (entM bs.length a s q).2 ≠ 0 := by rw [entM, if_neg (by omega)]; simp
    rw [if_pos ee] at e1
    rw [writeM, e8, if_neg (by omega)] at H
    rw [e8, e1]
    exact cnd_i (fun _ => ⟨_, ⟨rfl, rfl⟩, H.drop (by repeat (first | exact Cut.nil | (apply Cut.cons; (repeat (first | exact Pick.here | apply Pick.there)))))⟩) (fun h => by cases h)
def getM (bs : List Int) (a s pg id : Int) : (Bool × Int × Int) × Int :=
  if (slotM bs a s pg id).2 ≠ 0 then ((false, 0, 0), (slotM bs a s pg id).2)
  else if w8 bs (slotM bs a s pg id).1.toNat < 9223372036854775808 then ((false, 0, 0), 0)
  else ((true, w8 bs (slotM bs a s pg id).1.toNat % 32, w8 bs (slotM bs a s pg id).1.toNat / 256 % 1099511627776 * 256), 0)
def getV (r : (Bool × Int × Int) × Int) : Value := .tuple [devV r.1.1 r.1.2.1 r.1.2.2, .int .i64 r.2].toArray
theorem and_mask {x : Int} (h : 0 ≤ x ∧ x < 2 ^ 64) (m : Nat) (hm : m ≤ 64) (c : Int) (hc : c = ((2 ^ m - 1 : Nat) : Int)) : bitX .and .u64 x c = x % 2 ^ m := by rw [hc]; exact and_low h.1 h.2 m hm
theorem shr_int {x : Int} (h : 0 ≤ x) {s : Nat} (hs : s < 64) : Int.fdiv x (2 ^ min (Int.toNat (s : Int)) IntKind.u64.bits) = x / 2 ^ s := by
  obtain ⟨n, rfl⟩ := Int.eq_ofNat_of_zero_le h
  rw [shr_u64 n hs]; push_cast; rfl
theorem get_t (b : Nat) (bs : List Int) (hr : ∀ x ∈ bs, 0 ≤ x ∧ x < 256) (hn : bs.length ≤ 131072) (a s pg id : Int) : Tri P F.tables_Table_Get [tabV a s pg, ptr b, .int .i64 id] [memI b bs] fun v L' => v = getV (getM bs a s pg id) ∧ L' = [memI b bs] := by
  intro w S hS
  refine tables_Table_Get_cv ?_
  unfold tables_Table_Get
  have H := Own.start hS
  refine alc_o H fun b6 wx H => alc_o H fun b8 wx H => ?_
  repeat (first | refine ldI_o H (by repeat (first | exact Pick.here | apply Pick.there)) (by rfl) ?_ | refine ldL_o H (by repeat (first | exact Pick.here | apply Pick.there)) (by rfl) ?_ | refine ldB_o H (by repeat (first | exact Pick.here | apply Pick.there)) (by rfl) ?_ | refine ldP_o H (by repeat (first | exact Pick.here | apply Pick.there)) (by rfl) ?_ | refine ldS_o H (by repeat (first | exact Pick.here | apply Pick.there)) (by rfl) ?_)
  refine call_p H (slot_t b bs hr hn a s pg id) (by repeat (first | exact Cut.nil | (apply Cut.cons; (repeat (first | exact Pick.here | apply Pick.there))))) fun wx H => ?_
  have hok := slotM_ok (bs := bs) (a := a) (s := s) (pg := pg) (id := id)
  unfold getM
  generalize slotM bs a s pg id = r at *
  obtain ⟨p, e⟩ := r
  dsimp only at *
  refine ⟨_, _, _, rfl, alc_o H fun bz wx H => ?_⟩
  refine st1_o H (by repeat (first | exact Rep.here | apply Rep.there)) (by simp) fun wx H => ?_
  refine st1_o H (by repeat (first | exact Rep.here | apply Rep.there)) (by simp) fun wx H => ?_
  refine cnd_i (fun h => ?_) fun h => ?_
  · have h : e ≠ 0 := by simpa using h
    refine st1_o H (by repeat (first | exact Rep.here | apply Rep.there)) (by simp) fun wx H => ?_
    refine st1_o H (by repeat (first | exact Rep.here | apply Rep.there)) (by simp) fun wx H => ?_
    refine st1_o H (by repeat (first | exact Rep.here | apply Rep.there)) (by simp) fun wx H => ?_
    repeat (first | refine ldI_o H (by repeat (first | exact Pick.here | apply Pick.there)) (by rfl) ?_ | refine ldL_o H (by repeat (first | exact Pick.here | apply Pick.there)) (by rfl) ?_ | refine ldB_o H (by repeat (first | exact Pick.here | apply Pick.there)) (by rfl) ?_ | refine ldP_o H (by repeat (first | exact Pick.here | apply Pick.there)) (by rfl) ?_ | refine ldS_o H (by repeat (first | exact Pick.here | apply Pick.there)) (by rfl) ?_)
    rw [if_pos h]
    exact ⟨_, ⟨rfl, rfl⟩, H.drop (by repeat (first | exact Cut.nil | (apply Cut.cons; (repeat (first | exact Pick.here | apply Pick.there)))))⟩
  have h : e = 0 := by simpa using h
  subst h
  have hok := hok rfl
  simp only [if_true, ne_eq, not_true, if_false] at H ⊢
  repeat (first | refine ldI_o H (by repeat (first | exact Pick.here | apply Pick.there)) (by rfl) ?_ | refine ldL_o H (by repeat (first | exact Pick.here | apply Pick.there)) (by rfl) ?_ | refine ldB_o H (by repeat (first | exact Pick.here | apply Pick.there)) (by rfl) ?_ | refine ldP_o H (by repeat (first | exact Pick.here | apply Pick.there)) (by rfl) ?_ | refine ldS_o H (by repeat (first | exact Pick.here | apply Pick.there)) (by rfl) ?_)
  refine call_p H (read_t b bs p 8 0 8) (by repeat (first | exact Cut.nil | (apply Cut.cons; (repeat (first | exact Pick.here | apply Pick.there))))) fun wx H => ?_
  have hxr := w8_range (p := p.toNat) hr
  rw [readV0 hok]
  generalize w8 bs p.toNat = x at *
  refine ⟨_, _, rfl, by omega, ?_⟩
  rw [top_bit hxr]
  refine cnd_i (fun h => ?_) fun h => ?_
  · have h := of_decide_eq_true h
    refine st1_o H (by repeat (first | exact Rep.here | apply Rep.there)) (by simp) fun wx H => ?_
    refine st1_o H (by repeat (first | exact Rep.here | apply Rep.there)) (by simp) fun wx H => ?_
    refine st1_o H (by repeat (first | exact Rep.here | apply Rep.there)) (by simp) fun wx H => ?_
    repeat (first | refine ldI_o H (by repeat (first | exact Pick.here | apply Pick.there)) (by rfl) ?_ | refine ldL_o H (by repeat (first | exact Pick.here | apply Pick.there)) (by rfl) ?_ | refine ldB_o H (by repeat (first | exact Pick.here | apply Pick.there)) (by rfl) ?_ | refine ldP_o H (by repeat (first | exact Pick.here | apply Pick.there)) (by rfl) ?_ | refine ldS_o H (by repeat (first | exact Pick.here | apply Pick.there)) (by rfl) ?_)
    rw [if_pos h]
    exact ⟨_, ⟨rfl, rfl⟩, H.drop (by repeat (first | exact Cut.nil | (apply Cut.cons; (repeat (first | exact Pick.here | apply Pick.there)))))⟩
  · have h := of_decide_eq_false h
    refine ⟨by omega, by omega, ?_⟩
    have e1 : IntKind.i64.wrap (bitX .and .u64 x 31) = x % 32 := by
      rw [and_mask hxr 5 (by omega) 31 rfl, show (2 : Int) ^ 5 = 32 from rfl, W_id (by omega) (by omega)]
    have e2 : Int.fdiv x (2 ^ min (Int.toNat 8) IntKind.u64.bits) = x / 256 := shr_int hxr.1 (s := 8) (by omega)
    have e3 : bitX .and .u64 (x / 256) 1099511627775 = x / 256 % 1099511627776 := and_mask ⟨by omega, by omega⟩ 40 (by omega) _ rfl
    have e4 : IntKind.i64.wrap (IntKind.u64.wrap (x / 256 % 1099511627776 * 2 ^ min (Int.toNat 8) IntKind.u64.bits)) = x / 256 % 1099511627776 * 256 := by
      rw [show (2 : Int) ^ min (Int.toNat 8) IntKind.u64.bits = 256 from rfl, u64_int (by omega), W_id (by omega) (by omega)]
    rw [e1, e2, e3, e4]
    refine st1_o H (by repeat (first | exact Rep.here | apply Rep.there)) (by simp) fun wx H => ?_
    refine st1_o H (by repeat (first | exact Rep.here | apply Rep.there)) (by simp) fun wx H => ?_
    refine st1_o H (by repeat (first | exact Rep.here | apply Rep.there)) (by simp) fun wx H => ?_
    repeat (first | refine ldI_o H (by repeat (first | exact Pick.here | apply Pick.there)) (by rfl) ?_ | refine ldL_o H (by repeat (first | exact Pick.here | apply Pick.there)) (by rfl) ?_ | refine ldB_o H (by repeat (first | exact Pick.here | apply Pick.there)) (by rfl) ?_ | refine ldP_o H (by repeat (first | exact Pick.here | apply Pick.there)) (by rfl) ?_ | refine ldS_o H (by repeat (first | exact Pick.here | apply Pick.there)) (by rfl) ?_)
    rw [if_neg h]
    exact ⟨_, ⟨rfl, rfl⟩, H.drop (by repeat (first | exact Cut.nil | (apply Cut.cons; (repeat (first | exact Pick.here | apply Pick.there)))))⟩
end Go.Proofs.Ythoieihffbahpaa
