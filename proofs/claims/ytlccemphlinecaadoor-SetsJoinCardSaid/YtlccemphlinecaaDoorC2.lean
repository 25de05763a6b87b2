/-
  Sets: what the program's functions do.
-/
import Derived.Test.YtlccemphlinecaaDoorTy
import Derived.Test.YtlccemphlinecaaDoorB3
import Derived.Test.YtlccemphlinecaaDoorC1
namespace Go.Proofs.YtlccemphlinecaaDoor
open Go Go.RowKit X
set_option maxRecDepth 100000
set_option linter.unusedVariables false
abbrev ptrV (b : Nat) : Value := .pointer (some ⟨b, 0, none⟩)
/-- a set's rows -/
def setRows (b : Nat) (ws : List Nat) (p : Option Addr) (c : Nat) (t : TypeId) : List It := [row b [.slice p ws.length c] t, own tWord 1 (.slice p ws.length c) ws.length (u64s ws)]
/-- a set: its members, rising -/
def setI (b : Nat) (l : List Nat) : It := exI (fun a : List Nat × Option Addr × Nat × TypeId => mems a.1 = l ∧ (∀ x ∈ a.1, x < 2 ^ 64) ∧ a.1.length ≤ 256) fun a => setRows b a.1 a.2.1 a.2.2.1 a.2.2.2
section
variable {w w0 : World} {S0 : Nat → Prop}
theorem set_open {L F : List It} {b : Nat} {l : List Nat} (H : X.Own w0 S0 L w) (hp : Pick L (setI b l) F) : ∃ ws p c t, mems ws = l ∧ (∀ x ∈ ws, x < 2 ^ 64) ∧ ws.length ≤ 256 ∧ X.Own w0 S0 (row b [.slice p ws.length c] t :: own tWord 1 (.slice p ws.length c) ws.length (u64s ws) :: F) w := by
  obtain ⟨⟨ws, p, c, t⟩, ⟨h1, h2, h3⟩, H⟩ := ex_open H hp
  exact ⟨ws, p, c, t, h1, h2, h3, H⟩
theorem set_shut {F : List It} {b n c : Nat} {l ws : List Nat} {p : Option Addr} {t : TypeId} {us : List Value} (H : X.Own w0 S0 (row b [.slice p n c] t :: own tWord 1 (.slice p n c) n us :: F) w) (hn : n = ws.length) (hu : us = u64s ws)
    (h1 : mems ws = l) (h2 : ∀ x ∈ ws, x < 2 ^ 64) (h3 : ws.length ≤ 256) : X.Own w0 S0 (setI b l :: F) w := by
  subst hn hu
  exact ex_shut (f := fun a : List Nat × Option Addr × Nat × TypeId => setRows b a.1 a.2.1 a.2.2.1 a.2.2.2) (ws, p, c, t) ⟨h1, h2, h3⟩ H
end
theorem hasL_mems {ws : List Nat} {m : Int} (h0 : 0 ≤ m) : hasL (mems ws) m = hasN ws m.toNat := by
  rw [Bool.eq_iff_iff, hasL_iff, mem_mems]; simp [h0]
theorem getD_get {ws : List Nat} {k : Nat} (h : k < ws.length) : ws.getD k 0 = ws[k] := by simp [List.getD, h]
theorem mod64 {m : Int} (h0 : 0 ≤ m) (h1 : m < 2 ^ 63) : Int.tmod (IntKind.u64.wrap m) 64 = ((m.toNat % 64 : Nat) : Int) := by
  obtain ⟨k, rfl⟩ := Int.eq_ofNat_of_zero_le h0
  have : IntKind.u64.wrap (k : Int) = k := by simp [IntKind.wrap, IntKind.signed, IntKind.bits]; omega
  rw [this, Int.tmod_eq_emod_of_nonneg (by omega)]; simp
theorem has_t (b : Nat) (l : List Nat) (m : Int) : Tri P F.sets_Set_int_Has [ptrV b, .int .i64 m] [setI b l] fun v L' => v = .bool (hasL l m) ∧ L' = [setI b l] := by
  intro w S hS
  refine sets_Set_int_Has_cv ?_
  unfold sets_Set_int_Has
  have H0 := Own.start hS
  obtain ⟨ws, p, c, t, rfl, h2, h3, H⟩ := set_open H0 (by repeat (first | exact Pick.here | apply Pick.there))
  have fin : ∀ x, hasL (mems ws) m = x → sets_Set_int_Has_j0 (fun v w' => ∃ L', (v = .bool (hasL (mems ws) m) ∧ L' = [setI b (mems ws)]) ∧ X.Own w S L' w') x w := fun x hx => ⟨_, ⟨by rw [hx], rfl⟩, H0⟩
  refine join_o (cnd_i (fun h0 => ?_) fun h0 => fin _ ?_)
  · have h0 := of_decide_eq_true h0
    repeat (first | refine ldI_o H (by repeat (first | exact Pick.here | apply Pick.there)) (by rfl) ?_ | refine ldL_o H (by repeat (first | exact Pick.here | apply Pick.there)) (by rfl) ?_ | refine ldB_o H (by repeat (first | exact Pick.here | apply Pick.there)) (by rfl) ?_ | refine ldP_o H (by repeat (first | exact Pick.here | apply Pick.there)) (by rfl) ?_ | refine ldS_o H (by repeat (first | exact Pick.here | apply Pick.there)) (by rfl) ?_)
    rw [W_id (n := 64 * _) (by omega) (by omega)]
    refine cnd_i (fun h1 => ?_) fun h1 => fin _ ?_
    · have h1 := of_decide_eq_true h1
      repeat (first | refine ldI_o H (by repeat (first | exact Pick.here | apply Pick.there)) (by rfl) ?_ | refine ldL_o H (by repeat (first | exact Pick.here | apply Pick.there)) (by rfl) ?_ | refine ldB_o H (by repeat (first | exact Pick.here | apply Pick.there)) (by rfl) ?_ | refine ldP_o H (by repeat (first | exact Pick.here | apply Pick.there)) (by rfl) ?_ | refine ldS_o H (by repeat (first | exact Pick.here | apply Pick.there)) (by rfl) ?_)
      have hk : m.toNat / 64 < ws.length := by omega
      refine ⟨by omega, ?_⟩
      rw [show Int.tdiv m 64 = Int.tdiv m (64 : Nat) from rfl, i64_div h0 (by omega) 64 (by omega)]
      refine ⟨⟨by omega, by omega⟩, ?_⟩
      rw [Int.toNat_natCast]
      refine old_o H (by repeat (first | exact Pick.here | apply Pick.there)) (u64s_get hk) ⟨by omega, ?_⟩
      rw [mod64 h0 (by omega)]
      refine ⟨by omega, fin _ ?_⟩
      rw [shr_u64 _ (Nat.mod_lt _ (by omega)), show (1 : Int) = ((1 : Nat) : Int) from rfl, and_u64 (Nat.lt_of_le_of_lt (Nat.div_le_self _ _) (h2 _ (List.getElem_mem hk))) (by omega), hasL_mems h0]
      unfold hasN
      rw [getD_get hk, ← bit_test, Bool.eq_iff_iff]
      simp only [beq_iff_eq]; omega
    · have h1 := of_decide_eq_false h1
      rw [hasL_mems h0, hasN_out (by omega)]
  · have h0 := of_decide_eq_false h0
    simp [hasL]; omega
theorem mems_setbit {ws : List Nat} {m : Nat} (h2 : ∀ x ∈ ws, x < 2 ^ 64) (hk : m / 64 < ws.length) : mems (ws.set (m / 64) (ws[m / 64] ||| 2 ^ (m % 64))) = insL (mems ws) m := by
  refine mems_eq (insL_up (mems_up ws)) fun x => ?_
  rw [hasN_set hk, mem_insL, mem_mems]
  split
  · rename_i h
    have e : hasN ws x = ws[m / 64].testBit (x % 64) := by unfold hasN; rw [h, getD_get hk]
    rw [Nat.testBit_or, Nat.testBit_two_pow, e]
    simp only [Bool.or_eq_true, decide_eq_true_eq]
    constructor
    · rintro (h | h)
      · exact .inr h
      · exact .inl (by omega)
    · rintro (h | h)
      · exact .inr (by omega)
      · exact .inl h
  · constructor
    · exact .inr
    · rintro (rfl | h)
      · omega
      · exact h
theorem set_lt {ws : List Nat} {k x : Nat} (h : ∀ y ∈ ws, y < 2 ^ 64) (hx : x < 2 ^ 64) : ∀ y ∈ ws.set k x, y < 2 ^ 64 := by
  intro y hy
  rcases List.mem_or_eq_of_mem_set hy with hy | rfl
  · exact h y hy
  · exact hx
theorem put_t (b : Nat) (l : List Nat) (m : Int) : Tri P F.sets_Set_int_Put [ptrV b, .int .i64 m] [setI b l] fun v L' => v = .bool (mayL m && !hasL l m) ∧ L' = [setI b (if hasL l m then l else putL l m)] := by
  intro w S hS
  refine sets_Set_int_Put_cv ?_
  unfold sets_Set_int_Put
  have H := Own.start hS
  have no : ∀ w', X.Own w S [setI b l] w' → mayL m = false → sets_Set_int_Put_j1 (some ⟨b, 0, none⟩) m (fun v w' => ∃ L', (v = .bool (mayL m && !hasL l m) ∧ L' = [setI b (if hasL l m then l else putL l m)]) ∧ X.Own w S L' w') true w' := by
    intro w' H h
    unfold sets_Set_int_Put_j1
    refine cnd_i (fun _ => ⟨_, ⟨by rw [h]; rfl, rfl⟩, ?_⟩) (fun h => by cases h)
    simpa [putL, h] using H
  refine join_o (cnd_i (fun h0 => no _ H ?_) fun h0 => cnd_i (fun h1 => no _ H ?_) fun h1 => ?_)
  · have h0 := of_decide_eq_true h0
    simp [mayL]; omega
  · have h1 := of_decide_eq_true h1
    simp [mayL]; omega
  have h0 := of_decide_eq_false h0
  have h1 := of_decide_eq_false h1
  have hm : mayL m = true := mayL_iff.2 (by omega)
  refine call_p H (has_t b l m) (by repeat (first | exact Cut.nil | (apply Cut.cons; (repeat (first | exact Pick.here | apply Pick.there))))) fun wx H => ?_
  refine ⟨_, rfl, ?_⟩
  unfold sets_Set_int_Put_j1
  rw [hm]
  cases hh : hasL l m
  case true => exact cnd_i (fun _ => ⟨_, ⟨rfl, rfl⟩, H⟩) (fun h => by cases h)
  refine cnd_i (fun h => by cases h) fun _ => ?_
  obtain ⟨ws, p, c, t, rfl, h2, h3, H⟩ := set_open H (by repeat (first | exact Pick.here | apply Pick.there))
  refine loop_g (fun (s : Unit) n L => ∃ vs p c, mems vs = mems ws ∧ (∀ x ∈ vs, x < 2 ^ 64) ∧ vs.length ≤ 256 ∧ n = 256 - vs.length ∧ L = [row b [.slice p vs.length c] t, own tWord 1 (.slice p vs.length c) vs.length (u64s vs)]) H ⟨ws, p, c, rfl, h2, h3, rfl, rfl⟩ ?_
  rintro _ _ _ wx ⟨vs, p, c, hv, h2, h3, rfl, rfl⟩ H A hA
  unfold sets_Set_int_Put_l0
  have hd : IntKind.i64.wrap (Int.tdiv m 64) = ((m.toNat / 64 : Nat) : Int) := i64_div (by omega) (by omega) 64 (by omega)
  repeat (first | refine ldI_o H (by repeat (first | exact Pick.here | apply Pick.there)) (by rfl) ?_ | refine ldL_o H (by repeat (first | exact Pick.here | apply Pick.there)) (by rfl) ?_ | refine ldB_o H (by repeat (first | exact Pick.here | apply Pick.there)) (by rfl) ?_ | refine ldP_o H (by repeat (first | exact Pick.here | apply Pick.there)) (by rfl) ?_ | refine ldS_o H (by repeat (first | exact Pick.here | apply Pick.there)) (by rfl) ?_)
  rw [hd]
  refine ⟨by omega, cnd_i (fun h => ?_) fun h => ?_⟩
  · have h := of_decide_eq_true h
    repeat (first | refine ldI_o H (by repeat (first | exact Pick.here | apply Pick.there)) (by rfl) ?_ | refine ldL_o H (by repeat (first | exact Pick.here | apply Pick.there)) (by rfl) ?_ | refine ldB_o H (by repeat (first | exact Pick.here | apply Pick.there)) (by rfl) ?_ | refine ldP_o H (by repeat (first | exact Pick.here | apply Pick.there)) (by rfl) ?_ | refine ldS_o H (by repeat (first | exact Pick.here | apply Pick.there)) (by rfl) ?_)
    refine alc_o H fun bx wx H => ?_
    refine app_o appWords (by omega) H (by repeat (first | exact Pick.here | apply Pick.there)) (Sl.row (H.row (by repeat (first | exact Pick.here | apply Pick.there)))) rfl (by simp [Value.oneCell']) (by unfold maxLen; omega) (by omega) fun p' c' wx H => ?_
    refine st1_o H (by repeat (first | exact Rep.here | apply Rep.there)) (by simp) fun wx H => ?_
    refine hA () (256 - (vs ++ [0]).length) [row b [.slice p' (vs ++ [0]).length c'] t, own tWord 1 (.slice p' (vs ++ [0]).length c') (vs ++ [0]).length (u64s (vs ++ [0]))] _ (by simp; omega) ⟨vs ++ [0], p', c', ?_, ?_, by simp; omega, rfl, rfl⟩ ?_
    · rw [← hv]
      refine mems_eq (mems_up vs) fun x => ?_
      rw [show [0] = List.replicate 1 0 from rfl, hasN_append_zero, mem_mems]
    · intro x hx
      rcases List.mem_append.1 hx with hx | hx
      · exact h2 x hx
      · simp at hx; omega
    · rw [u64s_append, List.length_append]
      exact H.drop (by repeat (first | exact Cut.nil | (apply Cut.cons; (repeat (first | exact Pick.here | apply Pick.there)))))
  · have h := of_decide_eq_false h
    have hk : m.toNat / 64 < vs.length := by omega
    repeat (first | refine ldI_o H (by repeat (first | exact Pick.here | apply Pick.there)) (by rfl) ?_ | refine ldL_o H (by repeat (first | exact Pick.here | apply Pick.there)) (by rfl) ?_ | refine ldB_o H (by repeat (first | exact Pick.here | apply Pick.there)) (by rfl) ?_ | refine ldP_o H (by repeat (first | exact Pick.here | apply Pick.there)) (by rfl) ?_ | refine ldS_o H (by repeat (first | exact Pick.here | apply Pick.there)) (by rfl) ?_)
    refine ⟨by omega, ⟨by omega, by omega⟩, ?_⟩
    rw [Int.toNat_natCast]
    refine old_o H (by repeat (first | exact Pick.here | apply Pick.there)) (u64s_get hk) ⟨by omega, ?_⟩
    have hb := h2 _ (List.getElem_mem hk)
    have hp : 2 ^ (m.toNat % 64) < 2 ^ 64 := Nat.pow_lt_pow_right (by omega) (Nat.mod_lt _ (by omega))
    rw [mod64 (by omega) (by omega), shl1_u64 (Nat.mod_lt _ (by omega)), or_u64 hb hp]
    refine ⟨by omega, ⟨by omega, by omega⟩, ?_⟩
    refine ost_o H (by repeat (first | exact Rep.here | apply Rep.there)) hk fun wx H => ?_
    rw [u64s_set] at H
    refine ⟨_, ⟨rfl, rfl⟩, ?_⟩
    refine set_shut H (by simp) rfl ?_ (set_lt h2 (Nat.or_lt_two_pow hb hp)) (by simpa using h3)
    rw [Int.toNat_natCast, mems_setbit h2 hk, hv, putL, hm]; rfl
end Go.Proofs.YtlccemphlinecaaDoor
