/-
  Sets: words of two sets; the loop over members.
-/
import Derived.Test.YtlccemphlinecaaDoorC3
namespace Go.Proofs.YtlccemphlinecaaDoor
open Go Go.RowKit X
set_option maxRecDepth 100000
set_option linter.unusedVariables false
theorem word_cv {w : World} {p : Option Addr} {c : Nat} {ws : List Nat} (h : Sl w p (u64s ws)) {k : Nat} : CV P F.sets_word [.slice p ws.length c, .int .i64 k] w fun v w' => v = .int .u64 (ws.getD k 0 : Nat) ∧ Below w.heap.size w w' := by
  refine sets_word_cv ?_
  unfold sets_word
  refine cnd_i (fun hk => ?_) fun hk => ?_
  · have hk := of_decide_eq_true hk
    have hk' : k < ws.length := by omega
    refine ⟨⟨by omega, hk⟩, ?_⟩
    rw [Int.toNat_natCast]
    obtain ⟨a, rfl, hc⟩ := h k _ (u64s_get hk')
    exact ⟨_, by rw [Nat.mul_one]; exact hc, by rw [getD_get hk'], Below.refl _ _⟩
  · have hk := of_decide_eq_false hk
    refine ⟨?_, Below.refl _ _⟩
    have : ws.getD k 0 = 0 := by simp [List.getD, List.getElem?_eq_none (show ws.length ≤ k by omega)]
    rw [this]; rfl
theorem word_t (i : It) {p : Option Addr} {c : Nat} {ws : List Nat} (hi : ∀ w S, i.h w S → Sl w p (u64s ws)) (k : Nat) : Tri P F.sets_word [.slice p ws.length c, .int .i64 k] [i] fun v L' => v = .int .u64 (ws.getD k 0 : Nat) ∧ L' = [i] :=
  Tri.of_pure fun w S hS => word_cv (hi w S (sep_one.1 hS))
theorem max_nat (a b : Nat) : (if (b : Int) > (a : Int) then (b : Int) else (a : Int)) = ((max a b : Nat) : Int) := by split <;> omega
theorem mems_pad {ws vs : List Nat} (h2 : ∀ x ∈ ws, x < 2 ^ 64) (h3 : ∀ x ∈ vs, x < 2 ^ 64) : mems ws = mems vs ↔ ∀ k, k < max ws.length vs.length → ws.getD k 0 = vs.getD k 0 := by
  have hlt : ∀ (l : List Nat) k, (∀ x ∈ l, x < 2 ^ 64) → l.getD k 0 < 2 ^ 64 := by
    intro l k h
    simp only [List.getD]
    cases h2 : l[k]? with
    | none => simp
    | some x => exact h x (List.mem_of_getElem? h2)
  constructor
  · intro h k hk
    apply Nat.eq_of_testBit_eq
    intro i
    by_cases hi : i < 64
    · have e : ∀ l : List Nat, hasN l (64 * k + i) = (l.getD k 0).testBit i := by
        intro l; unfold hasN
        rw [show (64 * k + i) / 64 = k by omega, show (64 * k + i) % 64 = i by omega]
      rw [← e, ← e, Bool.eq_iff_iff, ← mem_mems, ← mem_mems, h]
    · rw [Nat.testBit_lt_two_pow (Nat.lt_of_lt_of_le (hlt ws k h2) (Nat.pow_le_pow_right (by omega) (by omega))), Nat.testBit_lt_two_pow (Nat.lt_of_lt_of_le (hlt vs k h3) (Nat.pow_le_pow_right (by omega) (by omega)))]
  · intro h
    refine mems_eq (mems_up vs) fun m => ?_
    rw [mem_mems]
    by_cases hm : m / 64 < max ws.length vs.length
    · unfold hasN; rw [h _ hm]
    · rw [hasN_out (ws := ws) (by omega), hasN_out (ws := vs) (by omega)]
theorem same_set_t (b b' : Nat) (l l' : List Nat) : Tri P F.sets_Same_int [ptrV b, ptrV b'] [setI b l, setI b' l'] fun v L' => v = .bool (decide (l = l')) ∧ L' = [setI b l, setI b' l'] := by
  intro w S hS
  refine sets_Same_int_cv ?_
  unfold sets_Same_int
  have H := Own.start hS
  obtain ⟨ws, p, c, t, rfl, h2, h3, H⟩ := set_open H (b := b) (l := l) (by repeat (first | exact Pick.here | apply Pick.there))
  obtain ⟨vs, p', c', t', rfl, h2', h3', H⟩ := set_open H (b := b') (l := l') (by repeat (first | exact Pick.here | apply Pick.there))
  refine drw_o H fun wx H => ?_
  repeat (first | refine ldI_o H (by repeat (first | exact Pick.here | apply Pick.there)) (by rfl) ?_ | refine ldL_o H (by repeat (first | exact Pick.here | apply Pick.there)) (by rfl) ?_ | refine ldB_o H (by repeat (first | exact Pick.here | apply Pick.there)) (by rfl) ?_ | refine ldP_o H (by repeat (first | exact Pick.here | apply Pick.there)) (by rfl) ?_ | refine ldS_o H (by repeat (first | exact Pick.here | apply Pick.there)) (by rfl) ?_)
  refine loop_o (fun (st : Int) L => ∃ k : Nat, k ≤ max ws.length vs.length ∧ st = k ∧ (∀ j, j < k → ws.getD j 0 = vs.getD j 0) ∧ L = [row b' [.slice p' vs.length c'] t', own tWord 1 (.slice p' vs.length c') vs.length (u64s vs), row b [.slice p ws.length c] t, own tWord 1 (.slice p ws.length c) ws.length (u64s ws)])
    (fun (st : Int) => (((max ws.length vs.length : Nat) : Int) - st).toNat) H ⟨0, by omega, rfl, fun j hj => by omega, rfl⟩ ?_
  rintro _ _ wx ⟨k, hk, rfl, heq, rfl⟩ H
  unfold sets_Same_int_l0
  rw [max_nat]
  have fin : ∀ wx x, (x = decide (mems ws = mems vs)) → X.Own w S [row b' [.slice p' vs.length c'] t', own tWord 1 (.slice p' vs.length c') vs.length (u64s vs), row b [.slice p ws.length c] t, own tWord 1 (.slice p ws.length c) ws.length (u64s ws)] wx →
      ∃ L', (Value.bool x = .bool (decide (mems ws = mems vs)) ∧ L' = [setI b (mems ws), setI b' (mems vs)]) ∧ X.Own w S L' wx := by
    intro wx x hx H
    refine ⟨_, ⟨by rw [hx], rfl⟩, ?_⟩
    have H := set_shut H rfl rfl rfl h2' h3'
    have H := set_shut (F := [setI b' (mems vs)]) (H.drop (by repeat (first | exact Cut.nil | (apply Cut.cons; (repeat (first | exact Pick.here | apply Pick.there)))))) rfl rfl rfl h2 h3
    exact H
  refine cnd_i (fun h => ?_) fun h => ?_
  · have h := of_decide_eq_true h
    refine drw_o H fun wx H => ?_
    repeat (first | refine ldI_o H (by repeat (first | exact Pick.here | apply Pick.there)) (by rfl) ?_ | refine ldL_o H (by repeat (first | exact Pick.here | apply Pick.there)) (by rfl) ?_ | refine ldB_o H (by repeat (first | exact Pick.here | apply Pick.there)) (by rfl) ?_ | refine ldP_o H (by repeat (first | exact Pick.here | apply Pick.there)) (by rfl) ?_ | refine ldS_o H (by repeat (first | exact Pick.here | apply Pick.there)) (by rfl) ?_)
    refine call_p H (word_t (own tWord 1 (.slice p ws.length c) ws.length (u64s ws)) own_sl k) (by repeat (first | exact Cut.nil | (apply Cut.cons; (repeat (first | exact Pick.here | apply Pick.there))))) fun wx H => ?_
    refine ⟨_, rfl, ldL_o H (by repeat (first | exact Pick.here | apply Pick.there)) (by rfl) rfl, ?_⟩
    refine call_p H (word_t (own tWord 1 (.slice p' vs.length c') vs.length (u64s vs)) own_sl k) (by repeat (first | exact Cut.nil | (apply Cut.cons; (repeat (first | exact Pick.here | apply Pick.there))))) fun wx H => ?_
    refine ⟨_, rfl, cnd_i (fun hne => ?_) fun he => ?_⟩
    · refine fin _ _ ?_ H
      simp only [bne_iff_ne, ne_eq, Int.natCast_inj] at hne
      rw [eq_comm, decide_eq_false_iff_not, mems_pad h2 h2']
      exact fun hall => hne (hall k (by omega))
    · simp only [bne_eq_false_iff_eq, Int.natCast_inj] at he
      refine ⟨⟨_, ⟨k + 1, by omega, ?_, ?_, rfl⟩, H⟩, ?_⟩
      · rw [W_id (by omega) (by omega)]; rfl
      · intro j hj
        rcases Nat.lt_or_ge j k with h | h
        · exact heq j h
        · rw [show j = k by omega]; exact he
      · rw [W_id (by omega) (by omega)]
        show (((max ws.length vs.length : Nat) : Int) - ((k : Int) + 1)).toNat < (((max ws.length vs.length : Nat) : Int) - (k : Int)).toNat
        omega
  · have h := of_decide_eq_false h
    refine fin _ _ ?_ H
    rw [eq_comm, decide_eq_true_eq, mems_pad h2 h2']
    exact fun j hj => heq j (by omega)
/-- two sets joined word by word -/
theorem join_set_t (b b' : Nat) (l l' : List Nat) (g : FuncId) (f : Nat → Nat → Nat) (o : Bool → Bool → Bool) (hg : enters P g = true) (hcall : ∀ (x y : Nat) (w : World), x < 2 ^ 64 → y < 2 ^ 64 → CV P g [.int .u64 x, .int .u64 y] w fun v w' => v = .int .u64 (f x y : Nat) ∧ Below w.heap.size w w')
    (hf : ∀ a b i, a < 2 ^ 64 → b < 2 ^ 64 → (f a b).testBit i = o (a.testBit i) (b.testBit i)) (hlt : ∀ a b, a < 2 ^ 64 → b < 2 ^ 64 → f a b < 2 ^ 64) (ho : o false false = false) (r : List Nat) (hr : Up r) (hmem : ∀ m, m ∈ r ↔ o (l.contains m) (l'.contains m) = true) :
    Tri P F.sets_join_int [ptrV b, ptrV b', .func (.func g) [].toArray [].toArray] [setI b l, setI b' l'] fun v L' => ∃ b2, v = ptrV b2 ∧ L' = [setI b2 r, setI b l, setI b' l'] := by
  intro w S hS
  refine sets_join_int_cv ?_
  unfold sets_join_int
  have H := Own.start hS
  obtain ⟨ws, p, c, t, rfl, h2, h3, H⟩ := set_open H (b := b) (l := l) (by repeat (first | exact Pick.here | apply Pick.there))
  obtain ⟨vs, p', c', t', rfl, h2', h3', H⟩ := set_open H (b := b') (l := l') (by repeat (first | exact Pick.here | apply Pick.there))
  have hget : ∀ (l : List Nat) k, (∀ x ∈ l, x < 2 ^ 64) → l.getD k 0 < 2 ^ 64 := by
    intro l k h
    simp only [List.getD]
    cases h2 : l[k]? with
    | none => simp
    | some x => exact h x (List.mem_of_getElem? h2)
  refine alc_o H fun bx wx H => ?_
  have H := own_nil (e := tWord) (size := 1) H
  refine drw_o H fun wx H => ?_
  repeat (first | refine ldI_o H (by repeat (first | exact Pick.here | apply Pick.there)) (by rfl) ?_ | refine ldL_o H (by repeat (first | exact Pick.here | apply Pick.there)) (by rfl) ?_ | refine ldB_o H (by repeat (first | exact Pick.here | apply Pick.there)) (by rfl) ?_ | refine ldP_o H (by repeat (first | exact Pick.here | apply Pick.there)) (by rfl) ?_ | refine ldS_o H (by repeat (first | exact Pick.here | apply Pick.there)) (by rfl) ?_)
  refine loop_o (fun (st : Int) L => ∃ (k : Nat) (po : Option Addr) (co : Nat) (us : List Nat), us = (List.range k).map (fun k => f (ws.getD k 0) (vs.getD k 0)) ∧ k ≤ max ws.length vs.length ∧ st = k ∧
      L = [own tWord 1 (.slice po k co) k (u64s us), row bx [.slice po k co] T.t56, row b' [.slice p' vs.length c'] t', own tWord 1 (.slice p' vs.length c') vs.length (u64s vs), row b [.slice p ws.length c] t, own tWord 1 (.slice p ws.length c) ws.length (u64s ws)])
    (fun (st : Int) => (((max ws.length vs.length : Nat) : Int) - st).toNat) H ⟨0, none, 0, [], rfl, by omega, rfl, rfl⟩ ?_
  rintro _ _ wx ⟨k, po, co, us, hus, hk, rfl, rfl⟩ H
  unfold sets_join_int_l0
  rw [max_nat]
  refine cnd_i (fun h => ?_) fun h => ?_
  · have h := of_decide_eq_true h
    refine drw_o H fun wx H => ?_
    repeat (first | refine ldI_o H (by repeat (first | exact Pick.here | apply Pick.there)) (by rfl) ?_ | refine ldL_o H (by repeat (first | exact Pick.here | apply Pick.there)) (by rfl) ?_ | refine ldB_o H (by repeat (first | exact Pick.here | apply Pick.there)) (by rfl) ?_ | refine ldP_o H (by repeat (first | exact Pick.here | apply Pick.there)) (by rfl) ?_ | refine ldS_o H (by repeat (first | exact Pick.here | apply Pick.there)) (by rfl) ?_)
    refine call_p H (word_t (own tWord 1 (.slice p ws.length c) ws.length (u64s ws)) own_sl k) (by repeat (first | exact Cut.nil | (apply Cut.cons; (repeat (first | exact Pick.here | apply Pick.there))))) fun wx H => ?_
    refine ⟨_, rfl, ldL_o H (by repeat (first | exact Pick.here | apply Pick.there)) (by rfl) rfl, ldL_o H (by repeat (first | exact Pick.here | apply Pick.there)) (by rfl) rfl, ?_⟩
    refine call_p H (word_t (own tWord 1 (.slice p' vs.length c') vs.length (u64s vs)) own_sl k) (by repeat (first | exact Cut.nil | (apply Cut.cons; (repeat (first | exact Pick.here | apply Pick.there))))) fun wx H => ?_
    refine ⟨_, rfl, ldL_o H (by repeat (first | exact Pick.here | apply Pick.there)) (by rfl) rfl, ?_⟩
    have hx := hget ws k h2
    have hy := hget vs k h2'
    refine enters_cv' (first := []) (cap := []) hg ?_
    refine call_p H (tri_plain (hcall _ _ · hx hy)) (by repeat (first | exact Cut.nil | (apply Cut.cons; (repeat (first | exact Pick.here | apply Pick.there))))) fun wx H => ?_
    refine ⟨_, rfl, ldL_o H (by repeat (first | exact Pick.here | apply Pick.there)) (by rfl) rfl, ?_⟩
    refine alc_o H fun bx wx H => ?_
    refine ⟨ldL_o H (by repeat (first | exact Pick.here | apply Pick.there)) (by rfl) rfl, ?_⟩
    refine app_o appWords (by omega) H (by repeat (first | exact Pick.here | apply Pick.there)) (Sl.row (H.row (by repeat (first | exact Pick.here | apply Pick.there)))) rfl (by simp [Value.oneCell']) (by unfold maxLen; omega) (by omega) fun p2 c2 wx H => ?_
    refine st1_o H (by repeat (first | exact Rep.here | apply Rep.there)) (by simp) fun wx H => ⟨⟨_, ⟨k + 1, p2, c2, us ++ [f (ws.getD k 0) (vs.getD k 0)], ?_, by omega, ?_, rfl⟩, ?_⟩, ?_⟩
    · rw [hus, List.range_succ, List.map_append]; rfl
    · rw [W_id (by omega) (by omega)]; rfl
    · rw [u64s_append]; exact H.drop (by repeat (first | exact Cut.nil | (apply Cut.cons; (repeat (first | exact Pick.here | apply Pick.there)))))
    · rw [W_id (by omega) (by omega)]
      show (((max ws.length vs.length : Nat) : Int) - ((k : Int) + 1)).toNat < (((max ws.length vs.length : Nat) : Int) - (k : Int)).toNat
      omega
  · have h := of_decide_eq_false h
    have : k = max ws.length vs.length := by omega
    subst this
    have hlen : us.length = max ws.length vs.length := by rw [hus]; simp
    have hm : mems us = r := by
      refine mems_eq hr fun m => ?_
      rw [hus, hasN_zip f o hf ho h2 h2', hmem]
      have e : ∀ l : List Nat, (mems l).contains m = hasN l m := fun l => by rw [Bool.eq_iff_iff, List.contains_iff_mem, mem_mems]
      rw [e, e]
    have hb : ∀ x ∈ us, x < 2 ^ 64 := by
      intro x hx
      rw [hus] at hx
      obtain ⟨j, _, rfl⟩ := List.mem_map.1 hx
      exact hlt _ _ (hget ws j h2) (hget vs j h2')
    have H := set_shut (b := bx) (l := r) (ws := us) (F := [row b' [.slice p' vs.length c'] t', own tWord 1 (.slice p' vs.length c') vs.length (u64s vs), row b [.slice p ws.length c] t, own tWord 1 (.slice p ws.length c) ws.length (u64s ws)]) (H.drop (by repeat (first | exact Cut.nil | (apply Cut.cons; (repeat (first | exact Pick.here | apply Pick.there)))))) hlen.symm rfl hm hb (by omega)
    have H := set_shut (b := b') (l := mems vs) (F := [row b [.slice p ws.length c] t, own tWord 1 (.slice p ws.length c) ws.length (u64s ws), setI bx r]) (H.drop (by repeat (first | exact Cut.nil | (apply Cut.cons; (repeat (first | exact Pick.here | apply Pick.there)))))) rfl rfl rfl h2' h3'
    have H := set_shut (b := b) (l := mems ws) (F := [setI bx r, setI b' (mems vs)]) (H.drop (by repeat (first | exact Cut.nil | (apply Cut.cons; (repeat (first | exact Pick.here | apply Pick.there)))))) rfl rfl rfl h2 h3
    exact ⟨_, ⟨bx, rfl, rfl⟩, H.drop (by repeat (first | exact Cut.nil | (apply Cut.cons; (repeat (first | exact Pick.here | apply Pick.there)))))⟩
end Go.Proofs.YtlccemphlinecaaDoor
