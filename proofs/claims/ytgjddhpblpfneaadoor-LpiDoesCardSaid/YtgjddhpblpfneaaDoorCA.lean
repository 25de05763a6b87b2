/-
  Sets: rows of words, and their members. Plain Lean.
-/
import Derived.Test.YtgjddhpblpfneaaDoorBA
import Derived.Test.YtgjddhpblpfneaaDoorA3
import Derived.Test.YtgjddhpblpfneaaDoorTy
import Derived.Test.YtgjddhpblpfneaaDoorS6
import Derived.Test.YtgjddhpblpfneaaDoorA5
namespace Go.Proofs.YtgjddhpblpfneaaDoor.X
open Go Go.RowKit
set_option linter.unusedVariables false
set_option linter.unusedSimpArgs false
def hasN (ws : List Nat) (m : Nat) : Bool := (ws.getD (m / 64) 0).testBit (m % 64)
def mems (ws : List Nat) : List Nat := (List.range (64 * ws.length)).filter (hasN ws)
theorem hasN_out {ws : List Nat} {m : Nat} (h : 64 * ws.length ≤ m) : hasN ws m = false := by
  unfold hasN
  have : ws.getD (m / 64) 0 = 0 := by simp [List.getD, List.getElem?_eq_none (show ws.length ≤ m / 64 by omega)]
  rw [this]; simp
theorem mem_mems {ws : List Nat} {m : Nat} : m ∈ mems ws ↔ hasN ws m = true := by
  simp only [mems, List.mem_filter, List.mem_range]
  refine ⟨fun h => h.2, fun h => ⟨?_, h⟩⟩
  apply Decidable.byContradiction
  intro hn
  rw [hasN_out (by omega)] at h; cases h
theorem mems_up (ws : List Nat) : Up (mems ws) := List.Pairwise.filter _ List.pairwise_lt_range
theorem mems_lt {ws : List Nat} {m : Nat} (h : m ∈ mems ws) : m < 64 * ws.length := by
  simp only [mems, List.mem_filter, List.mem_range] at h; exact h.1
theorem mems_eq {ws : List Nat} {l : List Nat} (hl : Up l) (h : ∀ m, hasN ws m = true ↔ m ∈ l) : mems ws = l := sext (mems_up ws) hl fun m => mem_mems.trans (h m)
theorem hasN_append_zero (ws : List Nat) (k m : Nat) : hasN (ws ++ List.replicate k 0) m = hasN ws m := by
  unfold hasN
  congr 1
  simp only [List.getD, List.getElem?_append]
  split
  · rfl
  · rename_i h
    rw [List.getElem?_eq_none (l := ws) (by omega)]
    cases h2 : (List.replicate k 0)[m / 64 - ws.length]? with
    | none => rfl
    | some x => have := List.mem_of_getElem? h2; rw [(List.mem_replicate.1 this).2]; rfl
theorem hasN_set {ws : List Nat} {j x m : Nat} (hj : j < ws.length) : hasN (ws.set j x) m = if m / 64 = j then x.testBit (m % 64) else hasN ws m := by
  unfold hasN
  simp only [List.getD, List.getElem?_set]
  by_cases h : j = m / 64
  · subst h; simp [hj]
  · rw [if_neg h, if_neg (fun e => h e.symm)]
/-- a number is put into a rising list -/
def insL : List Nat → Nat → List Nat
  | [], m => [m]
  | a :: l, m => if m < a then m :: a :: l else if m = a then a :: l else a :: insL l m
theorem mem_insL : ∀ {l : List Nat} {m x : Nat}, x ∈ insL l m ↔ x = m ∨ x ∈ l
  | [], m, x => by simp [insL]
  | a :: l, m, x => by
    unfold insL
    split
    · simp
    · split
      · rename_i h; subst h; simp
      · simp only [List.mem_cons, mem_insL]
        constructor
        · rintro (h | h | h) <;> simp [h]
        · rintro (h | h | h) <;> simp [h]
theorem insL_up : ∀ {l : List Nat} {m : Nat}, Up l → Up (insL l m)
  | [], m, _ => by simp [insL, Up]
  | a :: l, m, h => by
    have h' := List.pairwise_cons.1 h
    unfold insL
    split
    · rename_i hm
      exact List.pairwise_cons.2 ⟨fun x hx => by rcases List.mem_cons.1 hx with rfl | hx; exact hm; exact Nat.lt_trans hm (h'.1 x hx), h⟩
    · split
      · exact h
      · refine List.pairwise_cons.2 ⟨fun x hx => ?_, insL_up h'.2⟩
        rcases mem_insL.1 hx with rfl | hx
        · omega
        · exact h'.1 x hx
def hasL (l : List Nat) (m : Int) : Bool := decide (0 ≤ m) && l.contains m.toNat
theorem hasL_iff {l : List Nat} {m : Int} : hasL l m = true ↔ 0 ≤ m ∧ m.toNat ∈ l := by simp [hasL]
def mayL (m : Int) : Bool := decide (0 ≤ m) && decide (m < 16384)
theorem mayL_iff {m : Int} : mayL m = true ↔ 0 ≤ m ∧ m < 16384 := by simp [mayL]
def putL (l : List Nat) (m : Int) : List Nat := if mayL m then insL l m.toNat else l
def takeL (l : List Nat) (m : Int) : List Nat := l.filter fun x => !decide ((x : Int) = m)
theorem takeL_up {l : List Nat} {m : Int} (h : Up l) : Up (takeL l m) := List.Pairwise.filter _ h
theorem mem_takeL {l : List Nat} {m : Int} {x : Nat} : x ∈ takeL l m ↔ x ∈ l ∧ (x : Int) ≠ m := by simp [takeL]
theorem takeL_none {l : List Nat} {m : Int} (h : hasL l m = false) : takeL l m = l := by
  unfold takeL
  rw [List.filter_eq_self]
  intro x hx
  simp only [Bool.not_eq_true', decide_eq_false_iff_not]
  rintro rfl
  have : hasL l (x : Int) = true := hasL_iff.2 ⟨by omega, by simpa using hx⟩
  rw [h] at this; cases this
theorem insL_has {l : List Nat} {m : Nat} (hl : Up l) (h : m ∈ l) : insL l m = l := sext (insL_up hl) hl fun x => by rw [mem_insL]; constructor; rintro (rfl | hx); exact h; exact hx; exact .inr
theorem putL_up {l : List Nat} {m : Int} (h : Up l) : Up (putL l m) := by unfold putL; split; exact insL_up h; exact h
theorem mem_putL {l : List Nat} {m : Int} {x : Nat} : x ∈ putL l m ↔ x ∈ l ∨ (mayL m = true ∧ (x : Int) = m) := by
  unfold putL
  split
  · rename_i h
    have := mayL_iff.1 h
    rw [mem_insL]
    constructor
    · rintro (h1 | h1)
      · exact .inr ⟨h, by omega⟩
      · exact .inl h1
    · rintro (h1 | ⟨_, h1⟩)
      · exact .inr h1
      · exact .inl (by omega)
  · rename_i h; simp [h]
theorem putL_has {l : List Nat} {m : Int} (hl : Up l) (h : hasL l m = true) : putL l m = l := by
  unfold putL
  split
  · exact insL_has hl (hasL_iff.1 h).2
  · rfl
def loL (l : List Nat) (m : Int) : List Nat := l.filter fun x => decide ((x : Int) ≥ m)
/-- words joined -/
theorem hasN_zip (f : Nat → Nat → Nat) (g : Bool → Bool → Bool) (hf : ∀ a b i, a < 2 ^ 64 → b < 2 ^ 64 → (f a b).testBit i = g (a.testBit i) (b.testBit i)) (hg : g false false = false) {ws vs : List Nat} (hw : ∀ x ∈ ws, x < 2 ^ 64) (hv : ∀ x ∈ vs, x < 2 ^ 64) (m : Nat) :
    hasN ((List.range (max ws.length vs.length)).map fun k => f (ws.getD k 0) (vs.getD k 0)) m = g (hasN ws m) (hasN vs m) := by
  have hlt : ∀ (l : List Nat) k, (∀ x ∈ l, x < 2 ^ 64) → l.getD k 0 < 2 ^ 64 := by
    intro l k h
    simp only [List.getD]
    cases h2 : l[k]? with
    | none => simp
    | some x => exact h x (List.mem_of_getElem? h2)
  unfold hasN
  by_cases h : m / 64 < max ws.length vs.length
  · simp only [List.getD, List.getElem?_map, List.getElem?_range h, Option.map_some, Option.getD_some]
    exact hf _ _ _ (hlt ws _ hw) (hlt vs _ hv)
  · have e1 : ws.getD (m / 64) 0 = 0 := by simp [List.getD, List.getElem?_eq_none (show ws.length ≤ m / 64 by omega)]
    have e2 : vs.getD (m / 64) 0 = 0 := by simp [List.getD, List.getElem?_eq_none (show vs.length ≤ m / 64 by omega)]
    rw [e1, e2]
    simp only [List.getD]
    rw [List.getElem?_eq_none (by simp; omega)]
    simp [hg]
end Go.Proofs.YtgjddhpblpfneaaDoor.X
/-
  Sets: what the program's functions do.
-/
namespace Go.Proofs.YtgjddhpblpfneaaDoor
open Go Go.RowKit X
set_option maxRecDepth 100000
set_option linter.unusedVariables false
abbrev ptrV (b : Nat) : Value := .pointer (some ⟨b, 0, none⟩)
/-- a set's rows -/
def setRows (b : Nat) (ws : List Nat) (p : Option Addr) (c : Nat) (t : TypeId) : List It := [row b [.slice p ws.length c] t, own tWord 1 (.slice p ws.length c) ws.length (u64s ws)]
/-- a set: its members, rising -/
def setI (b : Nat) (l : List Nat) : It := exI (fun a : List Nat × Option Addr × Nat × TypeId => mems a.1 = l ∧ (∀ x ∈ a.1, x < 2 ^ 64) ∧ a.1.length ≤ 256) fun a => setRows b a.1 a.2.1 a.2.2.1 a.2.2.2
section
variable {w w0 : World} {S0 : Nat → Prop}
theorem set_open {L F : List It} {b : Nat} {l : List Nat} (H : X.Own w0 S0 L w) (hp : Pick L (setI b l) F) : ∃ ws p c t, mems ws = l ∧ (∀ x ∈ ws, x < 2 ^ 64) ∧ ws.length ≤ 256 ∧ X.Own w0 S0 (row b [.slice p ws.length c] t :: own tWord 1 (.slice p ws.length c) ws.length (u64s ws) :: F) w := by
  obtain ⟨⟨ws, p, c, t⟩, ⟨h1, h2, h3⟩, H⟩ := ex_open H hp
  exact ⟨ws, p, c, t, h1, h2, h3, H⟩
theorem set_shut {F : List It} {b n c : Nat} {l ws : List Nat} {p : Option Addr} {t : TypeId} {us : List Value} (H : X.Own w0 S0 (row b [.slice p n c] t :: own tWord 1 (.slice p n c) n us :: F) w) (hn : n = ws.length) (hu : us = u64s ws)
    (h1 : mems ws = l) (h2 : ∀ x ∈ ws, x < 2 ^ 64) (h3 : ws.length ≤ 256) : X.Own w0 S0 (setI b l :: F) w := by
  subst hn hu
  exact ex_shut (f := fun a : List Nat × Option Addr × Nat × TypeId => setRows b a.1 a.2.1 a.2.2.1 a.2.2.2) (ws, p, c, t) ⟨h1, h2, h3⟩ H
end
theorem hasL_mems {ws : List Nat} {m : Int} (h0 : 0 ≤ m) : hasL (mems ws) m = hasN ws m.toNat := by
  rw [Bool.eq_iff_iff, hasL_iff, mem_mems]; simp [h0]
theorem getD_get {ws : List Nat} {k : Nat} (h : k < ws.length) : ws.getD k 0 = ws[k] := by simp [List.getD, h]
theorem mod64 {m : Int} (h0 : 0 ≤ m) (h1 : m < 2 ^ 63) : Int.tmod (IntKind.u64.wrap m) 64 = ((m.toNat % 64 : Nat) : Int) := by
  obtain ⟨k, rfl⟩ := Int.eq_ofNat_of_zero_le h0
  have : IntKind.u64.wrap (k : Int) = k := by simp [IntKind.wrap, IntKind.signed, IntKind.bits]; omega
  rw [this, Int.tmod_eq_emod_of_nonneg (by omega)]; simp
theorem hasS_t (b : Nat) (l : List Nat) (m : Int) : Tri P F.sets_Set_int_Has [ptrV b, .int .i64 m] [setI b l] fun v L' => v = .bool (hasL l m) ∧ L' = [setI b l] := by
  intro w S hS
  refine sets_Set_int_Has_cv ?_
  unfold sets_Set_int_Has
  have H0 := Own.start hS
  obtain ⟨ws, p, c, t, rfl, h2, h3, H⟩ := set_open H0 (by repeat (first | exact Pick.here | apply Pick.there))
  have fin : ∀ x, hasL (mems ws) m = x → sets_Set_int_Has_j0 (fun v w' => ∃ L', (v = .bool (hasL (mems ws) m) ∧ L' = [setI b (mems ws)]) ∧ X.Own w S L' w') x w := fun x hx => ⟨_, ⟨by rw [hx], rfl⟩, H0⟩
  refine join_o (cnd_i (fun h0 => ?_) fun h0 => fin _ ?_)
  · have h0 := of_decide_eq_true h0
    repeat (first | refine ldI_o H (by repeat (first | exact Pick.here | apply Pick.there)) (by rfl) ?_ | refine ldL_o H (by repeat (first | exact Pick.here | apply Pick.there)) (by rfl) ?_ | refine ldB_o H (by repeat (first | exact Pick.here | apply Pick.there)) (by rfl) ?_ | refine ldP_o H (by repeat (first | exact Pick.here | apply Pick.there)) (by rfl) ?_ | refine ldS_o H (by repeat (first | exact Pick.here | apply Pick.there)) (by rfl) ?_)
    rw [W_id (n := 64 * _) (by omega) (by omega)]
    refine cnd_i (fun h1 => ?_) fun h1 => fin _ ?_
    · have h1 := of_decide_eq_true h1
      repeat (first | refine ldI_o H (by repeat (first | exact Pick.here | apply Pick.there)) (by rfl) ?_ | refine ldL_o H (by repeat (first | exact Pick.here | apply Pick.there)) (by rfl) ?_ | refine ldB_o H (by repeat (first | exact Pick.here | apply Pick.there)) (by rfl) ?_ | refine ldP_o H (by repeat (first | exact Pick.here | apply Pick.there)) (by rfl) ?_ | refine ldS_o H (by repeat (first | exact Pick.here | apply Pick.there)) (by rfl) ?_)
      have hk : m.toNat / 64 < ws.length := by omega
      refine ⟨by omega, ?_⟩
      rw [show Int.tdiv m 64 = Int.tdiv m (64 : Nat) from rfl, i64_div h0 (by omega) 64 (by omega)]
      refine ⟨⟨by omega, by omega⟩, ?_⟩
      rw [Int.toNat_natCast]
      refine old_o H (by repeat (first | exact Pick.here | apply Pick.there)) (u64s_get hk) ⟨by omega, ?_⟩
      rw [mod64 h0 (by omega)]
      refine ⟨by omega, fin _ ?_⟩
      rw [shr_u64 _ (Nat.mod_lt _ (by omega)), show (1 : Int) = ((1 : Nat) : Int) from rfl, and_u64 (Nat.lt_of_le_of_lt (Nat.div_le_self _ _) (h2 _ (List.getElem_mem hk))) (by omega), hasL_mems h0]
      unfold hasN
      rw [getD_get hk, ← bit_test, Bool.eq_iff_iff]
      simp only [beq_iff_eq]; omega
    · have h1 := of_decide_eq_false h1
      rw [hasL_mems h0, hasN_out (by omega)]
  · have h0 := of_decide_eq_false h0
    simp [hasL]; omega
theorem mems_setbit {ws : List Nat} {m : Nat} (h2 : ∀ x ∈ ws, x < 2 ^ 64) (hk : m / 64 < ws.length) : mems (ws.set (m / 64) (ws[m / 64] ||| 2 ^ (m % 64))) = insL (mems ws) m := by
  refine mems_eq (insL_up (mems_up ws)) fun x => ?_
  rw [hasN_set hk, mem_insL, mem_mems]
  split
  · rename_i h
    have e : hasN ws x = ws[m / 64].testBit (x % 64) := by unfold hasN; rw [h, getD_get hk]
    rw [Nat.testBit_or, Nat.testBit_two_pow, e]
    simp only [Bool.or_eq_true, decide_eq_true_eq]
    constructor
    · rintro (h | h)
      · exact .inr h
      · exact .inl (by omega)
    · rintro (h | h)
      · exact .inr (by omega)
      · exact .inl h
  · constructor
    · exact .inr
    · rintro (rfl | h)
      · omega
      · exact h
theorem set_lt {ws : List Nat} {k x : Nat} (h : ∀ y ∈ ws, y < 2 ^ 64) (hx : x < 2 ^ 64) : ∀ y ∈ ws.set k x, y < 2 ^ 64 := by
  intro y hy
  rcases List.mem_or_eq_of_mem_set hy with hy | rfl
  · exact h y hy
  · exact hx
theorem putS_t (b : Nat) (l : List Nat) (m : Int) : Tri P F.sets_Set_int_Put [ptrV b, .int .i64 m] [setI b l] fun v L' => v = .bool (mayL m && !hasL l m) ∧ L' = [setI b (if hasL l m then l else putL l m)] := by
  intro w S hS
  refine sets_Set_int_Put_cv ?_
  unfold sets_Set_int_Put
  have H := Own.start hS
  have no : ∀ w', X.Own w S [setI b l] w' → mayL m = false → sets_Set_int_Put_j1 (some ⟨b, 0, none⟩) m (fun v w' => ∃ L', (v = .bool (mayL m && !hasL l m) ∧ L' = [setI b (if hasL l m then l else putL l m)]) ∧ X.Own w S L' w') true w' := by
    intro w' H h
    unfold sets_Set_int_Put_j1
    refine cnd_i (fun _ => ⟨_, ⟨by rw [h]; rfl, rfl⟩, ?_⟩) (fun h => by cases h)
    simpa [putL, h] using H
  refine join_o (cnd_i (fun h0 => no _ H ?_) fun h0 => cnd_i (fun h1 => no _ H ?_) fun h1 => ?_)
  · have h0 := of_decide_eq_true h0
    simp [mayL]; omega
  · have h1 := of_decide_eq_true h1
    simp [mayL]; omega
  have h0 := of_decide_eq_false h0
  have h1 := of_decide_eq_false h1
  have hm : mayL m = true := mayL_iff.2 (by omega)
  refine call_p H (hasS_t b l m) (by repeat (first | exact Cut.nil | (apply Cut.cons; (repeat (first | exact Pick.here | apply Pick.there))))) fun wx H => ?_
  refine ⟨_, rfl, ?_⟩
  unfold sets_Set_int_Put_j1
  rw [hm]
  cases hh : hasL l m
  case true => exact cnd_i (fun _ => ⟨_, ⟨rfl, rfl⟩, H⟩) (fun h => by cases h)
  refine cnd_i (fun h => by cases h) fun _ => ?_
  obtain ⟨ws, p, c, t, rfl, h2, h3, H⟩ := set_open H (by repeat (first | exact Pick.here | apply Pick.there))
  refine loop_g (fun (s : Unit) n L => ∃ vs p c, mems vs = mems ws ∧ (∀ x ∈ vs, x < 2 ^ 64) ∧ vs.length ≤ 256 ∧ n = 256 - vs.length ∧ L = [row b [.slice p vs.length c] t, own tWord 1 (.slice p vs.length c) vs.length (u64s vs)]) H ⟨ws, p, c, rfl, h2, h3, rfl, rfl⟩ ?_
  rintro _ _ _ wx ⟨vs, p, c, hv, h2, h3, rfl, rfl⟩ H A hA
  unfold sets_Set_int_Put_l0
  have hd : IntKind.i64.wrap (Int.tdiv m 64) = ((m.toNat / 64 : Nat) : Int) := i64_div (by omega) (by omega) 64 (by omega)
  repeat (first | refine ldI_o H (by repeat (first | exact Pick.here | apply Pick.there)) (by rfl) ?_ | refine ldL_o H (by repeat (first | exact Pick.here | apply Pick.there)) (by rfl) ?_ | refine ldB_o H (by repeat (first | exact Pick.here | apply Pick.there)) (by rfl) ?_ | refine ldP_o H (by repeat (first | exact Pick.here | apply Pick.there)) (by rfl) ?_ | refine ldS_o H (by repeat (first | exact Pick.here | apply Pick.there)) (by rfl) ?_)
  rw [hd]
  refine ⟨by omega, cnd_i (fun h => ?_) fun h => ?_⟩
  · have h := of_decide_eq_true h
    repeat (first | refine ldI_o H (by repeat (first | exact Pick.here | apply Pick.there)) (by rfl) ?_ | refine ldL_o H (by repeat (first | exact Pick.here | apply Pick.there)) (by rfl) ?_ | refine ldB_o H (by repeat (first | exact Pick.here | apply Pick.there)) (by rfl) ?_ | refine ldP_o H (by repeat (first | exact Pick.here | apply Pick.there)) (by rfl) ?_ | refine ldS_o H (by repeat (first | exact Pick.here | apply Pick.there)) (by rfl) ?_)
    refine alc_o H fun bx wx H => ?_
    refine app_o appWords (by omega) H (by repeat (first | exact Pick.here | apply Pick.there)) (Sl.row (H.row (by repeat (first | exact Pick.here | apply Pick.there)))) rfl (by simp [Value.oneCell']) (by unfold maxLen; omega) (by omega) fun p' c' wx H => ?_
    refine st1_o H (by repeat (first | exact Rep.here | apply Rep.there)) (by simp) fun wx H => ?_
    refine hA () (256 - (vs ++ [0]).length) [row b [.slice p' (vs ++ [0]).length c'] t, own tWord 1 (.slice p' (vs ++ [0]).length c') (vs ++ [0]).length (u64s (vs ++ [0]))] _ (by simp; omega) ⟨vs ++ [0], p', c', ?_, ?_, by simp; omega, rfl, rfl⟩ ?_
    · rw [← hv]
      refine mems_eq (mems_up vs) fun x => ?_
      rw [show [0] = List.replicate 1 0 from rfl, hasN_append_zero, mem_mems]
    · intro x hx
      rcases List.mem_append.1 hx with hx | hx
      · exact h2 x hx
      · simp at hx; omega
    · rw [u64s_append, List.length_append]
      exact H.drop (by repeat (first | exact Cut.nil | (apply Cut.cons; (repeat (first | exact Pick.here | apply Pick.there)))))
  · have h := of_decide_eq_false h
    have hk : m.toNat / 64 < vs.length := by omega
    repeat (first | refine ldI_o H (by repeat (first | exact Pick.here | apply Pick.there)) (by rfl) ?_ | refine ldL_o H (by repeat (first | exact Pick.here | apply Pick.there)) (by rfl) ?_ | refine ldB_o H (by repeat (first | exact Pick.here | apply Pick.there)) (by rfl) ?_ | refine ldP_o H (by repeat (first | exact Pick.here | apply Pick.there)) (by rfl) ?_ | refine ldS_o H (by repeat (first | exact Pick.here | apply Pick.there)) (by rfl) ?_)
    refine ⟨by omega, ⟨by omega, by omega⟩, ?_⟩
    rw [Int.toNat_natCast]
    refine old_o H (by repeat (first | exact Pick.here | apply Pick.there)) (u64s_get hk) ⟨by omega, ?_⟩
    have hb := h2 _ (List.getElem_mem hk)
    have hp : 2 ^ (m.toNat % 64) < 2 ^ 64 := Nat.pow_lt_pow_right (by omega) (Nat.mod_lt _ (by omega))
    rw [mod64 (by omega) (by omega), shl1_u64 (Nat.mod_lt _ (by omega)), or_u64 hb hp]
    refine ⟨by omega, ⟨by omega, by omega⟩, ?_⟩
    refine ost_o H (by repeat (first | exact Rep.here | apply Rep.there)) hk fun wx H => ?_
    rw [u64s_set] at H
    refine ⟨_, ⟨rfl, rfl⟩, ?_⟩
    refine set_shut H (by simp) rfl ?_ (set_lt h2 (Nat.or_lt_two_pow hb hp)) (by simpa using h3)
    rw [Int.toNat_natCast, mems_setbit h2 hk, hv, putL, hm]; rfl
end Go.Proofs.YtgjddhpblpfneaaDoor
/-
  Sets: numbers let go, counted; copies; sets of numbers.
-/
namespace Go.Proofs.YtgjddhpblpfneaaDoor
open Go Go.RowKit X
set_option maxRecDepth 100000
set_option linter.unusedVariables false
theorem mems_clear {ws : List Nat} {m : Nat} (h2 : ∀ x ∈ ws, x < 2 ^ 64) (hk : m / 64 < ws.length) : mems (ws.set (m / 64) (andNot ws[m / 64] (2 ^ (m % 64)))) = takeL (mems ws) m := by
  have hp : 2 ^ (m % 64) < 2 ^ 64 := Nat.pow_lt_pow_right (by omega) (Nat.mod_lt _ (by omega))
  refine mems_eq (takeL_up (mems_up ws)) fun x => ?_
  rw [hasN_set hk, mem_takeL, mem_mems]
  split
  · rename_i h
    have e : hasN ws x = ws[m / 64].testBit (x % 64) := by unfold hasN; rw [h, getD_get hk]
    rw [andNot_testBit (h2 _ (List.getElem_mem hk)) hp, Nat.testBit_two_pow, e]
    simp only [Bool.and_eq_true, Bool.not_eq_true', decide_eq_false_iff_not]
    constructor
    · rintro ⟨h3, h4⟩; exact ⟨h3, by omega⟩
    · rintro ⟨h3, h4⟩; exact ⟨h3, by omega⟩
  · constructor
    · intro h; exact ⟨h, by omega⟩
    · exact And.left
theorem takeS_t (b : Nat) (l : List Nat) (m : Int) : Tri P F.sets_Set_int_Take [ptrV b, .int .i64 m] [setI b l] fun v L' => v = .bool (hasL l m) ∧ L' = [setI b (takeL l m)] := by
  intro w S hS
  refine sets_Set_int_Take_cv ?_
  unfold sets_Set_int_Take
  have H := Own.start hS
  refine call_p H (hasS_t b l m) (by repeat (first | exact Cut.nil | (apply Cut.cons; (repeat (first | exact Pick.here | apply Pick.there))))) fun wx H => ?_
  refine ⟨_, rfl, ?_⟩
  cases hh : hasL l m
  · refine cnd_i (fun _ => ⟨_, ⟨rfl, rfl⟩, ?_⟩) (fun h => by cases h)
    rw [takeL_none hh]; exact H
  refine cnd_i (fun h => by cases h) fun _ => ?_
  obtain ⟨ws, p, c, t, rfl, h2, h3, H⟩ := set_open H (by repeat (first | exact Pick.here | apply Pick.there))
  obtain ⟨h0, hm⟩ := hasL_iff.1 hh
  have hlt := mems_lt hm
  have hk : m.toNat / 64 < ws.length := by omega
  repeat (first | refine ldI_o H (by repeat (first | exact Pick.here | apply Pick.there)) (by rfl) ?_ | refine ldL_o H (by repeat (first | exact Pick.here | apply Pick.there)) (by rfl) ?_ | refine ldB_o H (by repeat (first | exact Pick.here | apply Pick.there)) (by rfl) ?_ | refine ldP_o H (by repeat (first | exact Pick.here | apply Pick.there)) (by rfl) ?_ | refine ldS_o H (by repeat (first | exact Pick.here | apply Pick.there)) (by rfl) ?_)
  refine ⟨by omega, ?_⟩
  rw [show Int.tdiv m 64 = Int.tdiv m (64 : Nat) from rfl, i64_div h0 (by omega) 64 (by omega)]
  refine ⟨⟨by omega, by omega⟩, ?_⟩
  rw [Int.toNat_natCast]
  refine old_o H (by repeat (first | exact Pick.here | apply Pick.there)) (u64s_get hk) ⟨by omega, ?_⟩
  have hb := h2 _ (List.getElem_mem hk)
  have hp : 2 ^ (m.toNat % 64) < 2 ^ 64 := Nat.pow_lt_pow_right (by omega) (Nat.mod_lt _ (by omega))
  rw [mod64 h0 (by omega), shl1_u64 (Nat.mod_lt _ (by omega)), andNot_u64 hb hp]
  refine ⟨by omega, ⟨by omega, by omega⟩, ?_⟩
  refine ost_o H (by repeat (first | exact Rep.here | apply Rep.there)) hk fun wx H => ?_
  rw [u64s_set] at H
  refine ⟨_, ⟨rfl, rfl⟩, set_shut H (by simp) rfl ?_ (set_lt h2 (andNot_lt hb)) (by simpa using h3)⟩
  rw [Int.toNat_natCast, mems_clear h2 hk, Int.toNat_of_nonneg h0]
/-- how many members a row of words has -/
def cntW : List Nat → Nat
  | [] => 0
  | x :: r => (wbits x).length + cntW r
theorem cntW_append (a b : List Nat) : cntW (a ++ b) = cntW a + cntW b := by
  induction a with
  | nil => simp [cntW]
  | cons x r ih => simp only [List.cons_append, cntW, ih]; omega
theorem mems_snoc {ws : List Nat} {x : Nat} (hx : x < 2 ^ 64) : mems (ws ++ [x]) = mems ws ++ (wbits x).map (64 * ws.length + ·) := by
  have hup : Up (mems ws ++ (wbits x).map (64 * ws.length + ·)) := by
    refine List.pairwise_append.2 ⟨mems_up ws, ?_, ?_⟩
    · exact List.Pairwise.map _ (fun a b h => by omega) (wbits_up x)
    · intro a ha b hb
      obtain ⟨i, _, rfl⟩ := List.mem_map.1 hb
      have := mems_lt ha; omega
  refine mems_eq hup fun m => ?_
  rw [List.mem_append, mem_mems, List.mem_map]
  by_cases h : m < 64 * ws.length
  · have : hasN (ws ++ [x]) m = hasN ws m := by
      unfold hasN; simp only [List.getD]; rw [List.getElem?_append_left (by omega)]
    rw [this]
    constructor
    · exact .inl
    · rintro (h1 | ⟨i, _, rfl⟩)
      · exact h1
      · omega
  · rw [hasN_out (ws := ws) (by omega)]
    by_cases h' : m / 64 = ws.length
    · have : hasN (ws ++ [x]) m = x.testBit (m % 64) := by
        unfold hasN; rw [h']; simp [List.getD]
      rw [this]
      constructor
      · intro h1; exact .inr ⟨m % 64, (mem_wbits hx).2 h1, by omega⟩
      · rintro (h1 | ⟨i, h1, rfl⟩)
        · cases h1
        · have h2 : i < 64 := by simp only [wbits, List.mem_filter, List.mem_range] at h1; exact h1.1
          rw [show (64 * ws.length + i) % 64 = i by omega]
          exact (mem_wbits hx).1 h1
    · rw [hasN_out (ws := ws ++ [x]) (by simp; omega)]
      constructor
      · intro h; cases h
      · rintro (h1 | ⟨i, h1, rfl⟩)
        · cases h1
        · have h2 : i < 64 := by simp only [wbits, List.mem_filter, List.mem_range] at h1; exact h1.1
          omega
theorem mems_take {ws : List Nat} (h2 : ∀ x ∈ ws, x < 2 ^ 64) {k : Nat} (hk : k < ws.length) : mems (ws.take (k + 1)) = mems (ws.take k) ++ (wbits ws[k]).map (64 * k + ·) := by
  rw [List.take_succ_eq_append_getElem hk, mems_snoc (h2 _ (List.getElem_mem hk))]
  simp [Nat.min_eq_left (Nat.le_of_lt hk)]
theorem mems_nil : mems [] = [] := rfl
theorem mems_length (ws : List Nat) : (mems ws).length ≤ 64 * ws.length := by
  unfold mems
  exact Nat.le_trans (List.length_filter_le _ _) (by simp)
theorem cloneW_t (i : It) {p : Option Addr} {c : Nat} {ws : List Nat} (hi : ∀ w S, i.h w S → Sl w p (u64s ws)) (hl : ws.length ≤ 1000000) :
    Tri P F.slices_Clone__uint64_uint64 [.slice p ws.length c] [i] fun v L' => ∃ p' c', v = .slice p' ws.length c' ∧ L' = [own tWord 1 (.slice p' ws.length c') ws.length (u64s ws), i] := by
  intro w S hS
  refine slices_Clone__uint64_uint64_cv ?_
  unfold slices_Clone__uint64_uint64
  have H := Own.start hS
  refine cnd_i (fun h => ?_) fun h => ?_
  · have : p = none := by cases p <;> simp_all
    subst this
    have := sl_nil (hi w S (sep_one.1 hS))
    have : ws = [] := by cases ws <;> simp_all [u64s]
    subst this
    exact ⟨_, ⟨none, 0, rfl, rfl⟩, own_nil H⟩
  · refine alc_i fun w1 hB1 h1 hs1 => ?_
    have hown : w1.ownsRow w.heap.size tWord 1 (.slice (some ⟨w.heap.size, 0, none⟩) 0 0) 0 [] :=
      ⟨by simp, .inr ⟨w.heap.size, 0, #[], rfl, Nat.le_refl _, h1, Nat.le_refl _, by simp [maxLen], by simp, by simp⟩⟩
    have H1 := own_add H (hB1 _ (Nat.le_refl _)) hown (Nat.le_refl _)
    refine app_o appWords (by omega) H1 .here (H1.rd (i := i) (.there .here) hi) (by rw [u64s_length]; simp) (u64s_one ws) (by unfold maxLen; omega) (by omega) fun p' c' wx H => ?_
    simp only [Nat.zero_add, List.nil_append] at H ⊢
    exact ⟨_, ⟨p', c', rfl, rfl⟩, H⟩
theorem copy_set_t (b : Nat) (l : List Nat) : Tri P F.sets_Set_int_Copy [ptrV b] [setI b l] fun v L' => ∃ b', v = ptrV b' ∧ L' = [setI b' l, setI b l] := by
  intro w S hS
  refine sets_Set_int_Copy_cv ?_
  unfold sets_Set_int_Copy
  have H := Own.start hS
  obtain ⟨ws, p, c, t, rfl, h2, h3, H⟩ := set_open H (by repeat (first | exact Pick.here | apply Pick.there))
  repeat (first | refine ldI_o H (by repeat (first | exact Pick.here | apply Pick.there)) (by rfl) ?_ | refine ldL_o H (by repeat (first | exact Pick.here | apply Pick.there)) (by rfl) ?_ | refine ldB_o H (by repeat (first | exact Pick.here | apply Pick.there)) (by rfl) ?_ | refine ldP_o H (by repeat (first | exact Pick.here | apply Pick.there)) (by rfl) ?_ | refine ldS_o H (by repeat (first | exact Pick.here | apply Pick.there)) (by rfl) ?_)
  refine call_o H (cloneW_t (own tWord 1 (.slice p ws.length c) ws.length (u64s ws)) own_sl (by omega)) (by repeat (first | exact Cut.nil | (apply Cut.cons; (repeat (first | exact Pick.here | apply Pick.there))))) fun vx L' wx hq H => ?_
  obtain ⟨p', c', rfl, rfl⟩ := hq
  simp only [List.cons_append, List.nil_append] at H
  refine ⟨_, _, _, rfl, ?_⟩
  refine alc_o H fun bx wx H => ?_
  have H1 := set_shut (F := [own tWord 1 (.slice p ws.length c) ws.length (u64s ws), row b [.slice p ws.length c] t]) H rfl rfl rfl h2 h3
  have H2 := set_shut (F := [setI bx (mems ws)]) (H1.drop (by repeat (first | exact Cut.nil | (apply Cut.cons; (repeat (first | exact Pick.here | apply Pick.there)))))) rfl rfl rfl h2 h3
  exact ⟨_, ⟨bx, rfl, rfl⟩, H2.drop (by repeat (first | exact Cut.nil | (apply Cut.cons; (repeat (first | exact Pick.here | apply Pick.there)))))⟩
/-- a row of numbers that an argument holds -/
def ofL (ms : List Int) : List Nat := ms.foldl putL []
theorem putL_has' (l : List Nat) (hl : Up l) (m : Int) : (if hasL l m then l else putL l m) = putL l m := by
  split
  · rename_i h; exact (putL_has hl h).symm
  · rfl
theorem foldl_putL_up (ms : List Int) : ∀ {l : List Nat}, Up l → Up (ms.foldl putL l) := by
  induction ms with
  | nil => intro l h; exact h
  | cons m r ih => intro l h; exact ih (putL_up h)
theorem ofL_up (ms : List Int) : Up (ofL ms) := foldl_putL_up ms List.Pairwise.nil
theorem of_set_t (i : It) {p : Option Addr} {c : Nat} {ms : List Int} (hi : ∀ w S, i.h w S → Sl w p (i64s ms)) (hl : ms.length ≤ 9223372036854775807) :
    Tri P F.sets_Of_int [.slice p ms.length c] [i] fun v L' => ∃ b, v = ptrV b ∧ L' = [setI b (ofL ms), i] := by
  intro w S hS
  refine sets_Of_int_cv ?_
  unfold sets_Of_int
  have H := Own.start hS
  refine alc_o H fun bx wx H => ?_
  have H := own_nil (e := tWord) (size := 1) H
  have H := set_shut (b := bx) (l := []) (ws := []) (F := [i]) (H.drop (by repeat (first | exact Cut.nil | (apply Cut.cons; (repeat (first | exact Pick.here | apply Pick.there)))))) rfl rfl rfl (by simp) (by simp)
  refine loop_o (fun (st : Int) L => ∃ k : Nat, k ≤ ms.length ∧ st = k ∧ L = [setI bx (ofL (ms.take k)), i]) (fun (st : Int) => ((ms.length : Int) - st).toNat) H ⟨0, by omega, rfl, rfl⟩ ?_
  rintro _ _ wx ⟨k, hk, rfl, rfl⟩ H
  unfold sets_Of_int_l0
  refine cnd_i (fun h => ?_) fun h => ?_
  · have h := of_decide_eq_true h
    have hk' : k < ms.length := by omega
    refine ⟨⟨by omega, h⟩, ?_⟩
    rw [Int.toNat_natCast]
    obtain ⟨a, rfl, hcell⟩ := H.rd (i := i) (by repeat (first | exact Pick.here | apply Pick.there)) hi k _ (i64s_get hk')
    refine ⟨_, by rw [Nat.mul_one]; exact hcell, ?_⟩
    refine call_o H (putS_t bx (ofL (ms.take k)) ms[k]) (by repeat (first | exact Cut.nil | (apply Cut.cons; (repeat (first | exact Pick.here | apply Pick.there))))) fun vx L' wx hq H => ?_
    obtain ⟨rfl, rfl⟩ := hq
    simp only [List.cons_append, List.nil_append] at H
    rw [putL_has' _ (ofL_up _)] at H
    refine ⟨_, rfl, ⟨_, ⟨k + 1, by omega, ?_, ?_⟩, H⟩, ?_⟩
    · rw [W_id (by omega) (by omega)]; rfl
    · unfold ofL; rw [List.take_succ_eq_append_getElem hk', List.foldl_append]; rfl
    · rw [W_id (by omega) (by omega)]
      show ((ms.length : Int) - ((k : Int) + 1)).toNat < ((ms.length : Int) - (k : Int)).toNat
      omega
  · have h := of_decide_eq_false h
    have : k = ms.length := by omega
    subst this
    rw [List.take_length] at H
    exact ⟨_, ⟨bx, rfl, rfl⟩, H⟩
end Go.Proofs.YtgjddhpblpfneaaDoor
/-
  Sets: words of two sets; the loop over members.
-/
namespace Go.Proofs.YtgjddhpblpfneaaDoor
open Go Go.RowKit X
set_option maxRecDepth 100000
set_option linter.unusedVariables false
theorem max_nat (a b : Nat) : (if (b : Int) > (a : Int) then (b : Int) else (a : Int)) = ((max a b : Nat) : Int) := by split <;> omega
theorem mems_pad {ws vs : List Nat} (h2 : ∀ x ∈ ws, x < 2 ^ 64) (h3 : ∀ x ∈ vs, x < 2 ^ 64) : mems ws = mems vs ↔ ∀ k, k < max ws.length vs.length → ws.getD k 0 = vs.getD k 0 := by
  have hlt : ∀ (l : List Nat) k, (∀ x ∈ l, x < 2 ^ 64) → l.getD k 0 < 2 ^ 64 := by
    intro l k h
    simp only [List.getD]
    cases h2 : l[k]? with
    | none => simp
    | some x => exact h x (List.mem_of_getElem? h2)
  constructor
  · intro h k hk
    apply Nat.eq_of_testBit_eq
    intro i
    by_cases hi : i < 64
    · have e : ∀ l : List Nat, hasN l (64 * k + i) = (l.getD k 0).testBit i := by
        intro l; unfold hasN
        rw [show (64 * k + i) / 64 = k by omega, show (64 * k + i) % 64 = i by omega]
      rw [← e, ← e, Bool.eq_iff_iff, ← mem_mems, ← mem_mems, h]
    · rw [Nat.testBit_lt_two_pow (Nat.lt_of_lt_of_le (hlt ws k h2) (Nat.pow_le_pow_right (by omega) (by omega))), Nat.testBit_lt_two_pow (Nat.lt_of_lt_of_le (hlt vs k h3) (Nat.pow_le_pow_right (by omega) (by omega)))]
  · intro h
    refine mems_eq (mems_up vs) fun m => ?_
    rw [mem_mems]
    by_cases hm : m / 64 < max ws.length vs.length
    · unfold hasN; rw [h _ hm]
    · rw [hasN_out (ws := ws) (by omega), hasN_out (ws := vs) (by omega)]
end Go.Proofs.YtgjddhpblpfneaaDoor
/-
  Sets: what is in one of two, in both, in the first alone; the loop over members; the least, the greatest.
-/
namespace Go.Proofs.YtgjddhpblpfneaaDoor
open Go Go.RowKit X
set_option maxRecDepth 100000
set_option linter.unusedVariables false
def unionL (a b : List Nat) : List Nat := b.foldl (fun l m => insL l m) a
theorem unionL_up (b : List Nat) : ∀ {a : List Nat}, Up a → Up (unionL a b) := by
  induction b with
  | nil => intro a h; exact h
  | cons m r ih => intro a h; exact ih (insL_up h)
theorem mem_unionL (b : List Nat) : ∀ {a : List Nat} {x : Nat}, x ∈ unionL a b ↔ x ∈ a ∨ x ∈ b := by
  induction b with
  | nil => intro a x; simp [unionL]
  | cons m r ih =>
    intro a x
    show x ∈ unionL (insL a m) r ↔ _
    rw [ih, mem_insL, List.mem_cons, or_assoc, or_comm (a := x = m), or_assoc, or_comm (a := x ∈ r)]
def meetL (a b : List Nat) : List Nat := a.filter b.contains
def lessL (a b : List Nat) : List Nat := a.filter fun x => !b.contains x
section
variable (b b' : Nat) (l l' : List Nat)
end
/-! ### The loop over members -/
def fromE (g1 g2 : Nat) (ws : List Nat) (p : Option Addr) (c : Nat) (m : Int) (t t2 : TypeId) : List It := [row g1 [.slice p ws.length c] t, own tWord 1 (.slice p ws.length c) ws.length (u64s ws), row g2 [.int .i64 m] t2]
def fromV (g1 g2 : Nat) : Value := .func (.func F.sets_Set_int_From_1) [].toArray [ptrV g1, ptrV g2].toArray
theorem from_t (b : Nat) (l : List Nat) (m : Int) : Tri P F.sets_Set_int_From [ptrV b, .int .i64 m] [setI b l] fun v L' => ∃ g1 g2 ws p c t t2, mems ws = l ∧ (∀ x ∈ ws, x < 2 ^ 64) ∧ ws.length ≤ 256 ∧ v = fromV g1 g2 ∧ L' = setI b l :: fromE g1 g2 ws p c m t t2 := by
  intro w S hS
  refine sets_Set_int_From_cv ?_
  unfold sets_Set_int_From
  have H := Own.start hS
  refine alc_o H fun bx wx H => ?_
  obtain ⟨ws, p, c, t, rfl, h2, h3, H⟩ := set_open H (b := b) (l := l) (by repeat (first | exact Pick.here | apply Pick.there))
  repeat (first | refine ldI_o H (by repeat (first | exact Pick.here | apply Pick.there)) (by rfl) ?_ | refine ldL_o H (by repeat (first | exact Pick.here | apply Pick.there)) (by rfl) ?_ | refine ldB_o H (by repeat (first | exact Pick.here | apply Pick.there)) (by rfl) ?_ | refine ldP_o H (by repeat (first | exact Pick.here | apply Pick.there)) (by rfl) ?_ | refine ldS_o H (by repeat (first | exact Pick.here | apply Pick.there)) (by rfl) ?_)
  refine call_o H (cloneW_t (own tWord 1 (.slice p ws.length c) ws.length (u64s ws)) own_sl (by omega)) (by repeat (first | exact Cut.nil | (apply Cut.cons; (repeat (first | exact Pick.here | apply Pick.there))))) fun vx L' wx hq H => ?_
  obtain ⟨p', c', rfl, rfl⟩ := hq
  simp only [List.cons_append, List.nil_append] at H
  refine ⟨_, _, _, rfl, alc_o H fun by' wx H => ?_⟩
  refine st1_o H (by repeat (first | exact Rep.here | apply Rep.there)) (by simp) fun wx H => ?_
  have H := set_shut (b := b) (l := mems ws) (F := fromE by' bx ws p' c' m tWords T.t3) (H.drop (by repeat (first | exact Cut.nil | (apply Cut.cons; (repeat (first | exact Pick.here | apply Pick.there)))))) rfl rfl rfl h2 h3
  exact ⟨_, ⟨by', bx, ws, p', c', _, _, rfl, h2, h3, rfl, rfl⟩, H⟩
theorem mems_prefix {ws : List Nat} (h2 : ∀ x ∈ ws, x < 2 ^ 64) {k : Nat} : ∀ d, k + d = ws.length → ∃ r, mems ws = mems (ws.take k) ++ r := by
  intro d
  induction d generalizing k with
  | zero => intro h; exact ⟨[], by rw [show k = ws.length by omega]; simp⟩
  | succ d ih =>
    intro h
    obtain ⟨r, hr⟩ := ih (k := k + 1) (by omega)
    rw [mems_take h2 (by omega)] at hr
    exact ⟨_, by rw [hr, List.append_assoc]⟩
theorem Pick.mid {i : It} {F : List It} : ∀ L : List It, Pick (L ++ i :: F) i (L ++ F)
  | [] => .here
  | _ :: L => .there (Pick.mid L)
theorem Pick.right {i : It} {F F' : List It} (h : Pick F i F') : ∀ L : List It, Pick (L ++ F) i (L ++ F')
  | [] => h
  | _ :: L => .there (Pick.right h L)
theorem loL_append (a b : List Nat) (m : Int) : loL (a ++ b) m = loL a m ++ loL b m := by simp [loL]
def i1s (l : List Nat) : List (List Value) := l.map fun (x : Nat) => [.int .i64 (x : Int)]
theorem from_it {W : World} (hT : TabAt W) {g1 g2 : Nat} {ws : List Nat} {p : Option Addr} {c : Nat} {m : Int} {t t2 : TypeId} (h2 : ∀ x ∈ ws, x < 2 ^ 64) (h3 : ws.length ≤ 256) :
    Iter P F.sets_Set_int_From_1 [ptrV g1, ptrV g2] (fromE g1 g2 ws p c m t t2 ++ [keep W]) (i1s (loL (mems ws) m)) := by
  intro y w0 S0 L0 w Q I D hy H h0 hstep hend hstop
  refine sets_Set_int_From_1_cv ?_
  unfold sets_Set_int_From_1
  have e : ∀ L : List It, L ++ (fromE g1 g2 ws p c m t t2 ++ [keep W]) = L ++ row g1 [.slice p ws.length c] t :: own tWord 1 (.slice p ws.length c) ws.length (u64s ws) :: row g2 [.int .i64 m] t2 :: keep W :: [] := fun _ => rfl
  refine ldL_o H (Pick.right .here L0) rfl ?_
  refine loop_o (fun (st : Int) L' => ∃ (k : Nat) (L : List It), st = k ∧ k ≤ ws.length ∧ I (loL (mems (ws.take k)) m).length L ∧ L' = L ++ (fromE g1 g2 ws p c m t t2 ++ [keep W])) (fun (st : Int) => ((ws.length : Int) - st).toNat) H ⟨0, L0, rfl, by omega, by simpa [mems, loL] using h0, rfl⟩ ?_
  rintro _ _ wx ⟨k, L, rfl, hk, hI, rfl⟩ H
  unfold sets_Set_int_From_1_l2
  refine cnd_i (fun h => ?_) fun h => ?_
  · have h := of_decide_eq_true h
    have hk' : k < ws.length := by omega
    refine ⟨⟨by omega, h⟩, ?_⟩
    rw [Int.toNat_natCast]
    refine old_o H (Pick.right (.there .here) L) (u64s_get hk') ?_
    obtain ⟨r, hr⟩ := mems_prefix h2 (k := k + 1) (ws.length - (k + 1)) (by omega)
    have htk := mems_take h2 hk'
    have hxlt := h2 _ (List.getElem_mem hk')
    refine loop_o (fun (st : Int) L' => ∃ (x : Nat) (pre : List Nat) (L : List It), st = x ∧ x < 2 ^ 64 ∧ pre ++ loL ((wbits x).map (64 * k + ·)) m = loL (mems (ws.take (k + 1))) m ∧ I pre.length L ∧ L' = L ++ (fromE g1 g2 ws p c m t t2 ++ [keep W])) (fun (st : Int) => st.toNat) H
      ⟨ws[k], loL (mems (ws.take k)) m, L, rfl, hxlt, by rw [htk, loL_append], hI, rfl⟩ ?_
    rintro _ _ wx ⟨x, pre, L, rfl, hx, hpre, hI, rfl⟩ H
    unfold sets_Set_int_From_1_l1
    refine cnd_i (fun hne => ?_) fun he => ?_
    · have h0 : x ≠ 0 := by simpa using hne
      obtain ⟨hc64, _, hlt, hbits⟩ := lowest h0 hx
      refine call_p H (tz_t hT hx h0) (.cons (Pick.right (.there (.there (.there .here))) L) .nil) fun wx H => ⟨_, rfl, join_o ?_⟩
      have ew : IntKind.i64.wrap (IntKind.i64.wrap (64 * (k : Int)) + (Lib.ctz 64 x : Int)) = ((64 * k + Lib.ctz 64 x : Nat) : Int) := by
        generalize Lib.ctz 64 x = z at *
        rw [W_id (n := 64 * (k : Int)) (by omega) (by omega), W_id (by omega) (by omega)]; push_cast; rfl
      have en : bitX .and .u64 (x : Int) (IntKind.u64.wrap ((x : Int) - 1)) = ((x &&& (x - 1) : Nat) : Int) := by
        have : IntKind.u64.wrap ((x : Int) - 1) = ((x - 1 : Nat) : Int) := by simp [IntKind.wrap, IntKind.signed, IntKind.bits]; omega
        rw [this, and_u64 hx (by omega)]
      rw [hbits, List.map_cons] at hpre
      refine ldI_o H (Pick.right (.there (.there .here)) L) rfl ?_
      rw [ew]
      refine cnd_i (fun hge => ?_) fun hge => ?_
      · have hge := of_decide_eq_true hge
        have hcons : loL ((64 * k + Lib.ctz 64 x) :: (wbits (x &&& (x - 1))).map (64 * k + ·)) m = (64 * k + Lib.ctz 64 x) :: loL ((wbits (x &&& (x - 1))).map (64 * k + ·)) m := by
          unfold loL; rw [List.filter_cons, if_pos (by simpa using hge)]
        rw [hcons] at hpre
        have hget : (i1s (loL (mems ws) m))[pre.length]? = some [.int .i64 ((64 * k + Lib.ctz 64 x : Nat) : Int)] := by
          rw [hr, loL_append, ← hpre]
          simp [i1s]
        refine callVal_mono (hstep _ _ L [] wx hget hI (by rw [List.append_nil]; exact H)) ?_
        rintro v w' ⟨bo, rfl, L', hb, H'⟩
        rw [List.append_nil] at H'
        refine ⟨bo, rfl, ?_⟩
        unfold sets_Set_int_From_1_j0
        cases bo
        · exact cnd_i (fun _ => hstop L' w' (by simpa using hb) H') (fun h => by cases h)
        · refine cnd_i (fun h => by cases h) fun _ => ?_
          have hI' : I (pre.length + 1) L' := by simpa using hb
          rw [en]
          refine ⟨⟨_, ⟨x &&& (x - 1), pre ++ [64 * k + Lib.ctz 64 x], L', rfl, by omega, by rw [List.append_assoc]; exact hpre, by simpa using hI', rfl⟩, H'⟩, ?_⟩
          show (((x &&& (x - 1) : Nat) : Int)).toNat < ((x : Int)).toNat
          omega
      · have hge := of_decide_eq_false hge
        have hcons : loL ((64 * k + Lib.ctz 64 x) :: (wbits (x &&& (x - 1))).map (64 * k + ·)) m = loL ((wbits (x &&& (x - 1))).map (64 * k + ·)) m := by
          unfold loL; rw [List.filter_cons, if_neg (by simpa using hge)]
        rw [hcons] at hpre
        unfold sets_Set_int_From_1_j0
        refine cnd_i (fun h => by cases h) fun _ => ?_
        rw [en]
        refine ⟨⟨_, ⟨x &&& (x - 1), pre, L, rfl, by omega, hpre, hI, rfl⟩, H⟩, ?_⟩
        show (((x &&& (x - 1) : Nat) : Int)).toNat < ((x : Int)).toNat
        omega
    · have h0 : x = 0 := by simpa using he
      subst h0
      have hpre : pre = loL (mems (ws.take (k + 1))) m := by rw [← hpre, wbits_zero]; simp [loL]
      subst hpre
      refine ⟨⟨_, ⟨k + 1, L, ?_, by omega, hI, rfl⟩, H⟩, ?_⟩
      · rw [W_id (by omega) (by omega)]; rfl
      · rw [W_id (by omega) (by omega)]
        show ((ws.length : Int) - ((k : Int) + 1)).toNat < ((ws.length : Int) - (k : Int)).toNat
        omega
  · have h := of_decide_eq_false h
    have : k = ws.length := by omega
    subst this
    rw [List.take_length] at hI
    exact hend L wx (by simpa [i1s] using hI) H
theorem from_enters : enters P F.sets_Set_int_From_1 = true := by kernel_rfl
end Go.Proofs.YtgjddhpblpfneaaDoor
/-
  Sets: all members; the least, the greatest.
-/
namespace Go.Proofs.YtgjddhpblpfneaaDoor
open Go Go.RowKit X
set_option maxRecDepth 100000
set_option linter.unusedVariables false
theorem loL_zero (l : List Nat) : loL l 0 = l := by
  unfold loL; rw [List.filter_eq_self]; intro x _; simp
theorem all_t (b : Nat) (l : List Nat) : Tri P F.sets_Set_int_All [ptrV b] [setI b l] fun v L' => ∃ g1 g2 ws p c t t2, mems ws = l ∧ (∀ x ∈ ws, x < 2 ^ 64) ∧ ws.length ≤ 256 ∧ v = fromV g1 g2 ∧ L' = setI b l :: fromE g1 g2 ws p c 0 t t2 := by
  intro w S hS
  refine sets_Set_int_All_cv ?_
  unfold sets_Set_int_All
  have H := Own.start hS
  refine call_o H (from_t b l 0) (by repeat (first | exact Cut.nil | (apply Cut.cons; (repeat (first | exact Pick.here | apply Pick.there))))) fun vx L' wx hq H => ?_
  obtain ⟨g1, g2, ws, p, c, t, t2, h1, h2, h3, rfl, rfl⟩ := hq
  exact ⟨_, rfl, _, ⟨g1, g2, ws, p, c, t, t2, h1, h2, h3, rfl, rfl⟩, H.drop (by repeat (first | exact Cut.nil | (apply Cut.cons; (repeat (first | exact Pick.here | apply Pick.there)))))⟩
theorem i1s_len (l : List Nat) : ∀ x ∈ i1s l, x.length = 1 := by
  intro x hx; obtain ⟨n, _, rfl⟩ := List.mem_map.1 hx; rfl
theorem i1s_get {l : List Nat} {k : Nat} {x : List Value} (h : (i1s l)[k]? = some x) : ∃ h : k < l.length, x = [.int .i64 (l[k] : Nat)] := by
  simp only [i1s, List.getElem?_map, Option.map_eq_some_iff] at h
  obtain ⟨n, h1, rfl⟩ := h
  obtain ⟨h2, h3⟩ := List.getElem?_eq_some_iff.1 h1
  exact ⟨h2, by rw [h3]⟩
theorem i1s_length (l : List Nat) : (i1s l).length = l.length := by simp [i1s]
theorem up_last {l : List Nat} (h : Up l) {a : Nat} (ha : a ∈ l) (hx : ∀ x ∈ l, x ≤ a) : ∃ r, l = r ++ [a] := by
  induction l with
  | nil => cases ha
  | cons y r ih =>
    have h' := List.pairwise_cons.1 h
    rcases List.mem_cons.1 ha with rfl | ha
    · cases r with
      | nil => exact ⟨[], rfl⟩
      | cons z r => have := h'.1 z (by simp); have := hx z (by simp); omega
    · obtain ⟨s, hs⟩ := ih h'.2 ha fun x hx' => hx x (List.mem_cons_of_mem _ hx')
      exact ⟨y :: s, by rw [hs]; rfl⟩
end Go.Proofs.YtgjddhpblpfneaaDoor
/-
  sets: the document's lists of numbers.
-/
namespace Go.Proofs.YtgjddhpblpfneaaDoor
open Go Go.RowKit X
set_option maxRecDepth 100000
set_option linter.unusedVariables false
def natI (l : List Nat) : List Int := l.map fun (x : Nat) => (x : Int)
theorem natI_length (l : List Nat) : (natI l).length = l.length := by simp [natI]
theorem natI_get {l : List Nat} {k : Nat} (h : k < l.length) : (i64s (natI l))[k]? = some (.int .i64 (l[k] : Nat)) := by simp [i64s, natI, h]
/-- a list of numbers of one's own -/
def ilI (p : Option Addr) (c : Nat) (xs : List Int) : It := own tInt 1 (.slice p xs.length c) xs.length (i64s xs)
theorem il_sl {p : Option Addr} {c : Nat} {xs : List Int} : ∀ w S, (ilI p c xs).h w S → Sl w p (i64s xs) := own_sl
theorem push_o {w w0 : World} {S0 : Nat → Prop} {L F : List It} {p : Option Addr} {c : Nat} {xs : List Int} {x : Int} {K : Option Addr → Nat → Nat → World → Prop} (H : X.Own w0 S0 L w) (hp : Pick L (ilI p c xs) F) (hn : xs.length ≤ 1000000000)
    (k : ∀ p' c' w', X.Own w0 S0 (ilI p' c' (xs ++ [x]) :: F) w' → K p' (xs ++ [x]).length c' w') :
    alc [.int .i64 x] tInt w fun b w1 => runS P (Builtin.append_ #[tInts, tInts] tInts [.slice p xs.length c, .slice (some ⟨b, 0, none⟩) 1 1].toArray) w1 K := by
  refine alc_o H fun b wx H => ?_
  refine app_o appInts (by omega) H (.there hp) (Sl.row (H.row .here)) rfl (by simp [Value.oneCell']) (by unfold maxLen; omega) (by omega) fun p' c' wx H => ?_
  have H := H.rest (L1 := [row b _ _]) (.cons (.there .here) .nil)
  have := k p' c' wx (by unfold ilI; rw [i64s_append, List.length_append]; exact H)
  rw [List.length_append] at this
  exact this
theorem refHas_t (i : It) {p : Option Addr} {c : Nat} {l : List Nat} (hi : ∀ w S, i.h w S → Sl w p (i64s (natI l))) (hl : l.length ≤ 20000) (m : Int) : Tri P F.crierref01_Has [.slice p l.length c, .int .i64 m] [i] fun v L' => v = .bool (hasL l m) ∧ L' = [i] := by
  intro w S hS
  refine crierref01_Has_cv ?_
  unfold crierref01_Has
  have H := Own.start hS
  refine loop_o (fun (st : Int) L => ∃ k : Nat, k ≤ l.length ∧ st = k ∧ (∀ x ∈ l.take k, (x : Int) ≠ m) ∧ L = [i]) (fun (st : Int) => ((l.length : Int) - st).toNat) H ⟨0, by omega, rfl, by simp, rfl⟩ ?_
  rintro _ _ wx ⟨k, hk, rfl, hno, rfl⟩ H
  unfold crierref01_Has_l0
  refine cnd_i (fun h => ?_) fun h => ?_
  · have h := of_decide_eq_true h
    have hk' : k < l.length := by omega
    refine ⟨⟨by omega, h⟩, ?_⟩
    rw [Int.toNat_natCast]
    obtain ⟨a, rfl, hcell⟩ := H.rd (i := i) (by repeat (first | exact Pick.here | apply Pick.there)) hi k _ (natI_get hk')
    refine ⟨_, by rw [Nat.mul_one]; exact hcell, cnd_i (fun he => ?_) fun he => ?_⟩
    · have he := eq_of_beq he
      refine ⟨_, ⟨?_, rfl⟩, H⟩
      rw [hasL_iff.2 ⟨by omega, by rw [← he, Int.toNat_natCast]; exact List.getElem_mem hk'⟩]
    · have he : ((l[k] : Nat) : Int) ≠ m := by simpa using he
      refine ⟨⟨_, ⟨k + 1, by omega, ?_, ?_, rfl⟩, H⟩, ?_⟩
      · rw [W_id (by omega) (by omega)]; rfl
      · intro x hx
        rw [List.take_succ_eq_append_getElem hk', List.mem_append] at hx
        rcases hx with hx | hx
        · exact hno x hx
        · rw [List.mem_singleton.1 hx]; exact he
      · rw [W_id (by omega) (by omega)]
        show ((l.length : Int) - ((k : Int) + 1)).toNat < ((l.length : Int) - (k : Int)).toNat
        omega
  · have h := of_decide_eq_false h
    have : k = l.length := by omega
    subst this
    rw [List.take_length] at hno
    refine ⟨_, ⟨?_, rfl⟩, H⟩
    have : hasL l m = false := by
      rw [Bool.eq_false_iff]
      intro hh
      obtain ⟨h0, hm⟩ := hasL_iff.1 hh
      exact hno _ hm (by omega)
    rw [this]
theorem ref01May_plain (m : Int) (w : World) : CV P F.crierref01_May [.int .i64 m] w fun v w' => v = .bool (mayL m) ∧ Below w.heap.size w w' := by
  refine crierref01_May_cv ?_
  unfold crierref01_May
  have hB := Below.refl w.heap.size w
  refine join_o (cnd_i (fun h => ⟨?_, hB⟩) fun h => ⟨?_, hB⟩)
  · have h := of_decide_eq_true h
    simp [mayL, h]
  · have h := of_decide_eq_false h
    have : mayL m = false := by simp [mayL]; omega
    rw [this]
theorem refSame_t (i : It) {p q : Option Addr} {c d n : Nat} {xs ys : List Int} (hx : ∀ w S, i.h w S → Sl w p (i64s xs)) (j : It) (hy : ∀ w S, j.h w S → Sl w q (i64s ys)) (hn : xs.length ≤ 1000000000) : Tri P F.crierref01_Same [.slice p xs.length c, .slice q ys.length d] [i, j] fun v L' => v = .bool (decide (xs = ys)) ∧ L' = [i, j] := by
  intro w S hS
  refine crierref01_Same_cv ?_
  unfold crierref01_Same
  have H := Own.start hS
  refine cnd_i (fun h => ?_) fun h => ?_
  · have h : xs.length ≠ ys.length := by simpa only [bne_iff_ne, ne_eq, Int.natCast_inj] using h
    refine ⟨_, ⟨?_, rfl⟩, H⟩
    rw [eq_comm]
    congr 1
    rw [decide_eq_false_iff_not]
    rintro rfl; exact h rfl
  have hlen : xs.length = ys.length := by simpa only [bne_eq_false_iff_eq, Int.natCast_inj] using h
  refine loop_o (fun (st : Int) L => ∃ k : Nat, k ≤ xs.length ∧ st = k ∧ (∀ u, u < k → xs[u]? = ys[u]?) ∧ L = [i, j]) (fun (st : Int) => ((xs.length : Int) - st).toNat) H ⟨0, by omega, rfl, fun u hu => by omega, rfl⟩ ?_
  rintro _ _ wx ⟨k, hk, rfl, heq, rfl⟩ H
  unfold crierref01_Same_l0
  refine cnd_i (fun h => ?_) fun h => ?_
  · have h := of_decide_eq_true h
    have hk1 : k < xs.length := by omega
    have hk2 : k < ys.length := by omega
    refine drw_o H fun wx H => ?_
    refine ⟨⟨by omega, h⟩, ?_⟩
    rw [Int.toNat_natCast]
    obtain ⟨a, rfl, hcell⟩ := H.rd (i := i) (by repeat (first | exact Pick.here | apply Pick.there)) hx k _ (i64s_get hk1)
    refine ⟨_, by rw [Nat.mul_one]; exact hcell, ⟨by omega, by omega⟩, ?_⟩
    rw [Int.toNat_natCast]
    obtain ⟨a2, rfl, hcell2⟩ := H.rd (i := j) (by repeat (first | exact Pick.here | apply Pick.there)) hy k _ (i64s_get hk2)
    refine ⟨_, by rw [Nat.mul_one]; exact hcell2, cnd_i (fun hne => ?_) fun he => ?_⟩
    · refine ⟨_, ⟨?_, rfl⟩, H⟩
      rw [eq_comm]
      congr 1
      rw [decide_eq_false_iff_not]
      rintro rfl; simp at hne
    · have he : xs[k] = ys[k] := by simpa using he
      refine ⟨⟨_, ⟨k + 1, by omega, ?_, ?_, rfl⟩, H⟩, ?_⟩
      · rw [W_id (by omega) (by omega)]; rfl
      · intro u hu
        rcases Nat.lt_or_ge u k with h | h
        · exact heq u h
        · rw [show u = k by omega]; simp [hk1, hk2, he]
      · rw [W_id (by omega) (by omega)]
        show ((xs.length : Int) - ((k : Int) + 1)).toNat < ((xs.length : Int) - (k : Int)).toNat
        omega
  · have h := of_decide_eq_false h
    refine ⟨_, ⟨?_, rfl⟩, H⟩
    rw [eq_comm]
    congr 1
    rw [decide_eq_true_eq]
    apply List.ext_getElem?
    intro u
    rcases Nat.lt_or_ge u k with h | h
    · exact heq u h
    · rw [List.getElem?_eq_none (by omega), List.getElem?_eq_none (by omega)]
theorem cnd_n {b : Bool} {x y : Prop} (h1 : b = true → x) (h2 : ¬ b = true → y) : cnd b x y := cnd_i h1 fun h => h2 (by rw [h]; simp)
theorem hasL_nat {l : List Nat} {x : Nat} : hasL l (x : Int) = l.contains x := by simp [hasL]
theorem refTake_t (i : It) {p : Option Addr} {c : Nat} {l : List Nat} (hi : ∀ w S, i.h w S → Sl w p (i64s (natI l))) (hl : l.length ≤ 20000) (m : Int) :
    Tri P F.crierref01_Take [.slice p l.length c, .int .i64 m] [i] fun v L' => ∃ p' c', v = .slice p' (natI (l.filter fun x => !decide ((x : Int) = m))).length c' ∧ L' = [ilI p' c' (natI (l.filter fun x => !decide ((x : Int) = m))), i] := by
  intro w S hS
  refine crierref01_Take_cv ?_
  unfold crierref01_Take
  have H := own_nil (e := tInt) (size := 1) (Own.start hS)
  refine loop_o (fun (st : (Option Addr × Nat × Nat) × Int) L => ∃ (k : Nat) (po : Option Addr) (co : Nat), k ≤ l.length ∧ st = ((po, (natI ((l.take k).filter fun x => !decide ((x : Int) = m))).length, co), (k : Int)) ∧ L = [ilI po co (natI ((l.take k).filter fun x => !decide ((x : Int) = m))), i])
    (fun (st : (Option Addr × Nat × Nat) × Int) => ((l.length : Int) - st.2).toNat) H ⟨0, none, 0, by omega, by simp [natI], by simp only [List.take_zero, List.filter_nil, natI, List.map_nil]; rfl⟩ ?_
  rintro _ _ wx ⟨k, po, co, hk, rfl, rfl⟩ H
  dsimp only
  unfold crierref01_Take_l1
  refine cnd_i (fun h => ?_) fun h => ?_
  · have h := of_decide_eq_true h
    have hk' : k < l.length := by omega
    have hfl : (natI ((l.take k).filter fun x => !decide ((x : Int) = m))).length ≤ 20000 := by
      rw [natI_length]; exact Nat.le_trans (List.length_filter_le _ _) (by simp; omega)
    have htk : l.take (k + 1) = l.take k ++ [l[k]] := List.take_succ_eq_append_getElem hk'
    refine join_o ⟨⟨by omega, h⟩, ?_⟩
    rw [Int.toNat_natCast]
    obtain ⟨a, rfl, hcell⟩ := H.rd (i := i) (by repeat (first | exact Pick.here | apply Pick.there)) hi k _ (natI_get hk')
    have hcell' : wx.cell? (a.add (k * 1)) = some (.int .i64 (l[k] : Nat)) := by rw [Nat.mul_one]; exact hcell
    refine ⟨_, hcell', ?_⟩
    dsimp only
    have ec : (((l[k] : Nat) : Int) != m) = !decide (((l[k] : Nat) : Int) = m) := by rw [Bool.eq_iff_iff]; simp
    rw [ec]
    refine cnd_n (fun hc => ?_) fun hc => ?_
    · refine ⟨⟨by omega, h⟩, ?_⟩
      rw [Int.toNat_natCast]
      refine ⟨_, hcell', ?_⟩
      refine push_o H (by repeat (first | exact Pick.here | apply Pick.there)) (by omega) fun p' c' wx H => ?_
      unfold crierref01_Take_j0
      refine ⟨⟨_, ⟨k + 1, p', c', by omega, ?_, ?_⟩, H⟩, ?_⟩
      · rw [W_id (by omega) (by omega), htk, List.filter_append, List.filter_cons, if_pos hc]; simp [natI]
      · rw [htk, List.filter_append, List.filter_cons, if_pos hc]; simp [natI]
      · show ((l.length : Int) - IntKind.i64.wrap ((k : Int) + 1)).toNat < ((l.length : Int) - (k : Int)).toNat
        rw [W_id (by omega) (by omega)]; omega
    · unfold crierref01_Take_j0
      refine ⟨⟨_, ⟨k + 1, po, co, by omega, ?_, ?_⟩, H⟩, ?_⟩
      · rw [W_id (by omega) (by omega), htk, List.filter_append, List.filter_cons, if_neg hc]; simp [natI]
      · rw [htk, List.filter_append, List.filter_cons, if_neg hc]; simp [natI]
      · show ((l.length : Int) - IntKind.i64.wrap ((k : Int) + 1)).toNat < ((l.length : Int) - (k : Int)).toNat
        rw [W_id (by omega) (by omega)]; omega
  · have h := of_decide_eq_false h
    have : k = l.length := by omega
    subst this
    rw [List.take_length] at H ⊢
    exact ⟨_, ⟨po, co, rfl, rfl⟩, H⟩
end Go.Proofs.YtgjddhpblpfneaaDoor
/-
  sets: the document's lists: a number put in; lists of numbers; rows of neighbours.
-/
namespace Go.Proofs.YtgjddhpblpfneaaDoor
open Go Go.RowKit X
set_option maxRecDepth 100000
set_option linter.unusedVariables false
theorem ins_end {a : List Nat} {m : Nat} (h : ∀ y ∈ a, y < m) : insL a m = a ++ [m] := by
  induction a with
  | nil => rfl
  | cons y r ih =>
    have hy := h y (by simp)
    unfold insL
    rw [if_neg (by omega), if_neg (by omega), ih fun z hz => h z (List.mem_cons_of_mem _ hz)]; rfl
theorem ins_snoc1 {a : List Nat} {m x : Nat} (h : ∀ y ∈ a, y < m) (hx : m < x) : insL (a ++ [x]) m = a ++ [m] ++ [x] := by
  induction a with
  | nil => simp [insL, hx]
  | cons y r ih =>
    have hy := h y (by simp)
    simp only [List.cons_append]
    unfold insL
    rw [if_neg (by omega), if_neg (by omega), ih fun z hz => h z (List.mem_cons_of_mem _ hz)]
theorem ins_snoc2 {a : List Nat} {m x : Nat} (h : ∃ y ∈ a, m < y) : insL (a ++ [x]) m = insL a m ++ [x] := by
  induction a with
  | nil => obtain ⟨y, hy, _⟩ := h; cases hy
  | cons y r ih =>
    simp only [List.cons_append]
    unfold insL
    split
    · rfl
    · split
      · rfl
      · rename_i h1 h2
        obtain ⟨z, hz, hm⟩ := h
        rcases List.mem_cons.1 hz with rfl | hz
        · omega
        · rw [ih ⟨z, hz, hm⟩]; rfl
theorem refPut_t {p : Option Addr} {c : Nat} {l : List Nat} (hup : Up l) (hl : l.length ≤ 20000) (m : Int) :
    Tri P F.crierref01_Put [.slice p l.length c, .int .i64 m] [ilI p c (natI l)] fun v L' => ∃ p' c', v = .slice p' (putL l m).length c' ∧ L' = [ilI p' c' (natI (putL l m))] := by
  intro w S hS
  refine crierref01_Put_cv ?_
  unfold crierref01_Put
  have H := Own.start hS
  have stay : ∀ wx, putL l m = l → X.Own w S [ilI p c (natI l)] wx → crierref01_Put_j4 p l.length c m (fun v w' => ∃ L', (∃ p' c', v = .slice p' (putL l m).length c' ∧ L' = [ilI p' c' (natI (putL l m))]) ∧ X.Own w S L' w') true wx := by
    intro wx h H
    unfold crierref01_Put_j4
    rw [h]
    exact cnd_i (fun _ => ⟨_, ⟨p, c, rfl, rfl⟩, H⟩) (fun h => by cases h)
  refine join_o ?_
  refine call_p H (tri_plain (ref01May_plain m)) (by repeat (first | exact Cut.nil | (apply Cut.cons; (repeat (first | exact Pick.here | apply Pick.there))))) fun wx H => ?_
  refine ⟨_, rfl, cnd_i (fun h => stay _ ?_ H) fun h => ?_⟩
  · have h : mayL m = false := by simpa using h
    simp [putL, h]
  have hm : mayL m = true := by simpa using h
  have hm' := mayL_iff.1 hm
  refine call_p H (refHas_t (ilI p c (natI l)) il_sl hl m) (by repeat (first | exact Cut.nil | (apply Cut.cons; (repeat (first | exact Pick.here | apply Pick.there))))) fun wx H => ?_
  refine ⟨_, rfl, ?_⟩
  cases hh : hasL l m
  case true => exact stay _ (putL_has hup hh) H
  have hnot : m.toNat ∉ l := fun h => by rw [hasL_iff.2 ⟨by omega, h⟩] at hh; cases hh
  have ep : putL l m = insL l m.toNat := by simp [putL, hm]
  rw [ep]
  unfold crierref01_Put_j4
  refine cnd_i (fun h => by cases h) fun _ => ?_
  have H := own_nil (e := tInt) (size := 1) H
  have em : m = (m.toNat : Int) := by omega
  generalize m.toNat = mn at *
  subst em
  refine loop_o (fun (st : (Option Addr × Nat × Nat) × Bool × Int) L => ∃ (k : Nat) (po : Option Addr) (co : Nat) (b : Bool) (out : List Nat), k ≤ l.length ∧ st = ((po, (natI out).length, co), b, (k : Int)) ∧ (if b then (∃ y ∈ l.take k, mn < y) ∧ out = insL (l.take k) mn else (∀ y ∈ l.take k, y < mn) ∧ out = l.take k) ∧ L = [ilI po co (natI out), ilI p c (natI l)])
    (fun (st : (Option Addr × Nat × Nat) × Bool × Int) => ((l.length : Int) - st.2.2).toNat) H ⟨0, none, 0, false, [], by omega, by simp [natI], by simp, by simp only [natI, List.map_nil]; rfl⟩ ?_
  rintro _ _ wx ⟨k, po, co, b, out, hk, rfl, hout, rfl⟩ H
  dsimp only
  have hlen : (natI out).length ≤ 20001 := by
    rw [natI_length]
    cases b
    · simp only [Bool.false_eq_true, if_false] at hout; rw [hout.2]; simp; omega
    · simp only [if_true] at hout
      rw [hout.2]
      have : ∀ (a : List Nat) x, (insL a x).length ≤ a.length + 1 := by
        intro a x
        induction a with
        | nil => simp [insL]
        | cons y r ih => unfold insL; split; simp; split; simp; simp only [List.length_cons]; omega
      have := this (l.take k) mn
      simp only [List.length_take] at this; omega
  unfold crierref01_Put_l3
  refine cnd_i (fun h => ?_) fun h => ?_
  · have h := of_decide_eq_true h
    have hk' : k < l.length := by omega
    have htk : l.take (k + 1) = l.take k ++ [l[k]] := List.take_succ_eq_append_getElem hk'
    have hx : l[k] ≠ mn := fun e => hnot (e ▸ List.getElem_mem hk')
    refine join_o (join_o ⟨⟨by omega, h⟩, ?_⟩)
    rw [Int.toNat_natCast]
    obtain ⟨a, rfl, hcell⟩ := H.rd (i := ilI p c (natI l)) (by repeat (first | exact Pick.here | apply Pick.there)) il_sl k _ (natI_get hk')
    refine ⟨_, by rw [Nat.mul_one]; exact hcell, ?_⟩
    dsimp only
    -- the element goes behind
    have rest : ∀ wx po co b2 out2, (natI out2).length ≤ 20002 → (if b2 then (∃ y ∈ l.take (k + 1), mn < y) ∧ out2 ++ [l[k]] = insL (l.take (k + 1)) mn else (∀ y ∈ l.take (k + 1), y < mn) ∧ out2 ++ [l[k]] = l.take (k + 1)) → X.Own w S [ilI po co (natI out2), ilI (some a) c (natI l)] wx →
        crierref01_Put_j0 (some a) l.length (k : Int) (fun s' w' => (∃ L', (∃ (k : Nat) (po : Option Addr) (co : Nat) (b : Bool) (out : List Nat), k ≤ l.length ∧ s' = ((po, (natI out).length, co), b, (k : Int)) ∧ (if b then (∃ y ∈ l.take k, mn < y) ∧ out = insL (l.take k) mn else (∀ y ∈ l.take k, y < mn) ∧ out = l.take k) ∧ L' = [ilI po co (natI out), ilI (some a) c (natI l)]) ∧ X.Own w S L' w') ∧ ((l.length : Int) - s'.2.2).toNat < ((l.length : Int) - (k : Int)).toNat) po (natI out2).length co b2 wx := by
      intro wx po co b2 out2 hl2 hinv H
      unfold crierref01_Put_j0
      refine ⟨⟨by omega, h⟩, ?_⟩
      rw [Int.toNat_natCast]
      obtain ⟨a3, ha3, hcell3⟩ := H.rd (i := ilI (some a) c (natI l)) (by repeat (first | exact Pick.here | apply Pick.there)) il_sl k _ (natI_get hk')
      cases ha3
      refine ⟨_, by rw [Nat.mul_one]; exact hcell3, ?_⟩
      refine push_o H (by repeat (first | exact Pick.here | apply Pick.there)) (by omega) fun p' c' wx H => ?_
      have en : natI out2 ++ [((l[k] : Nat) : Int)] = natI (out2 ++ [l[k]]) := by simp [natI]
      rw [en] at H ⊢
      refine ⟨⟨_, ⟨k + 1, p', c', b2, out2 ++ [l[k]], by omega, ?_, hinv, rfl⟩, H⟩, ?_⟩
      · rw [W_id (by omega) (by omega)]; rfl
      · show ((l.length : Int) - IntKind.i64.wrap ((k : Int) + 1)).toNat < ((l.length : Int) - (k : Int)).toNat
        rw [W_id (by omega) (by omega)]; omega
    cases b
    · simp only [Bool.false_eq_true, if_false] at hout
      obtain ⟨hall, rfl⟩ := hout
      refine cnd_n (fun hc => ?_) fun hc => ?_
      · have hc := of_decide_eq_true hc
        unfold crierref01_Put_j1
        refine cnd_i (fun _ => ?_) (fun h => by cases h)
        refine push_o H (by repeat (first | exact Pick.here | apply Pick.there)) (by omega) fun p' c' wx H => ?_
        have en : natI (l.take k) ++ [(mn : Int)] = natI (l.take k ++ [mn]) := by simp [natI]
        rw [en] at H ⊢
        refine rest wx p' c' true _ (by rw [natI_length, List.length_append]; rw [natI_length] at hlen; simp only [List.length_cons, List.length_nil]; omega) ?_ H
        rw [if_pos rfl, htk]
        exact ⟨⟨l[k], List.mem_append_right _ (List.mem_singleton.2 rfl), by omega⟩, (ins_snoc1 hall (by omega)).symm⟩
      · have hc : ¬ ((l[k] : Int) > mn) := by simpa using hc
        unfold crierref01_Put_j1
        refine cnd_i (fun h => by cases h) fun _ => rest wx po co false _ (by omega) ?_ H
        simp only [Bool.false_eq_true, if_false]
        rw [htk]
        refine ⟨fun y hy => ?_, rfl⟩
        rcases List.mem_append.1 hy with hy | hy
        · exact hall y hy
        · rw [List.mem_singleton.1 hy]; omega
    · simp only [if_true] at hout
      obtain ⟨hex, rfl⟩ := hout
      have fin : crierref01_Put_j1 (mn : Int) po (natI (insL (l.take k) mn)).length co true (fun s54 w55 => crierref01_Put_j0 (some a) l.length (k : Int) (fun s' w' => (∃ L', (∃ (k : Nat) (po : Option Addr) (co : Nat) (b : Bool) (out : List Nat), k ≤ l.length ∧ s' = ((po, (natI out).length, co), b, (k : Int)) ∧ (if b then (∃ y ∈ l.take k, mn < y) ∧ out = insL (l.take k) mn else (∀ y ∈ l.take k, y < mn) ∧ out = l.take k) ∧ L' = [ilI po co (natI out), ilI (some a) c (natI l)]) ∧ X.Own w S L' w') ∧ ((l.length : Int) - s'.2.2).toNat < ((l.length : Int) - (k : Int)).toNat) s54.1.1 s54.1.2.1 s54.1.2.2 s54.2 w55) false wx := by
        unfold crierref01_Put_j1
        refine cnd_i (fun h => by cases h) fun _ => rest wx po co true _ (by omega) ?_ H
        rw [if_pos rfl, htk]
        obtain ⟨y, hy, hmy⟩ := hex
        exact ⟨⟨y, List.mem_append_left _ hy, hmy⟩, (ins_snoc2 ⟨y, hy, hmy⟩).symm⟩
      exact cnd_i (fun _ => fin) fun _ => fin
  · have h := of_decide_eq_false h
    have : k = l.length := by omega
    subst this
    rw [List.take_length] at hout
    refine join_o ?_
    unfold crierref01_Put_j2
    cases b
    · simp only [Bool.false_eq_true, if_false] at hout
      obtain ⟨hall, rfl⟩ := hout
      refine cnd_i (fun _ => ?_) (fun h => by cases h)
      refine push_o H (by repeat (first | exact Pick.here | apply Pick.there)) (by omega) fun p' c' wx H => ?_
      have en : natI out ++ [(mn : Int)] = natI (insL out mn) := by rw [ins_end hall]; simp [natI]
      rw [en] at H ⊢
      exact ⟨_, ⟨p', c', by rw [natI_length], rfl⟩, H.drop (by repeat (first | exact Cut.nil | (apply Cut.cons; (repeat (first | exact Pick.here | apply Pick.there)))))⟩
    · simp only [if_true] at hout
      obtain ⟨_, rfl⟩ := hout
      exact cnd_i (fun h => by cases h) fun _ => ⟨_, ⟨po, co, by dsimp only; rw [natI_length], rfl⟩, H.drop (by repeat (first | exact Cut.nil | (apply Cut.cons; (repeat (first | exact Pick.here | apply Pick.there)))))⟩
end Go.Proofs.YtgjddhpblpfneaaDoor
