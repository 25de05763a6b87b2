/-
  tables: a device's events, and their routes; collections.
-/
import Derived.Test.YthoieihffbahpaaL4
namespace Go.Proofs.Ythoieihffbahpaa
open Go Go.RowKit X
set_option maxRecDepth 100000
set_option linter.unusedVariables false
set_option maxHeartbeats 1000000
def evK (b : Int) : Int := if (if 31 < b then 31 else b) > 0 then (if 31 < b then 31 else b) else 0
def evN (b : Int) : Int := 2 * 2 ^ (evK b).toNat
theorem evK_range (b : Int) : 0 ≤ evK b ∧ evK b ≤ 31 := by unfold evK; split <;> split <;> omega
theorem evN_range (b : Int) : 2 ≤ evN b ∧ evN b ≤ 4294967296 := by
  have h := evK_range b
  unfold evN
  have h1 : (2 : Int) ^ (evK b).toNat ≤ 2 ^ 31 := by
    have : (2 : Nat) ^ (evK b).toNat ≤ 2 ^ 31 := Nat.pow_le_pow_right (by omega) (by omega)
    exact_mod_cast this
  have h2 : (1 : Int) ≤ 2 ^ (evK b).toNat := by
    have : 1 ≤ (2 : Nat) ^ (evK b).toNat := Nat.pow_pos (by omega)
    exact_mod_cast this
  omega
theorem events_plain (v : Bool) (b a : Int) : Plain F.tables_Device_Events [devV v b a] (.int .i64 (evN b)) := by
  intro w
  refine tables_Device_Events_cv ?_
  refine alc_i fun w1 hB1 h1 hs1 => ?_
  have hb1 := hB1 _ (Nat.le_refl _)
  refine ldI_i h1 rfl ⟨(evK_range b).1, ?_, hb1⟩
  have h := evK_range b
  have h2 := evN_range b
  have e : min (Int.toNat (evK b)) IntKind.i64.bits = (evK b).toNat := by show min (evK b).toNat 64 = _; omega
  show Value.int .i64 (IntKind.i64.wrap (2 * 2 ^ min (Int.toNat (evK b)) IntKind.i64.bits)) = _
  rw [e, W_id (n := 2 * 2 ^ (evK b).toNat) (by unfold evN at h2; omega) (by unfold evN at h2; omega)]; rfl
def evM (n : Nat) (v : Bool) (b a ev : Int) : Int × Int :=
  if v = false ∨ ev < 0 ∨ ev ≥ evN b then (0, 182)
  else if holdsB n (IntKind.i64.wrap (a + 8 * ev)) 8 = false then (0, 180)
  else (IntKind.i64.wrap (a + 8 * ev), 0)
theorem evM_ok {n : Nat} {v : Bool} {b a ev : Int} (h : (evM n v b a ev).2 = 0) : 0 ≤ (evM n v b a ev).1 ∧ (evM n v b a ev).1 + 8 ≤ n := by
  unfold evM at *
  split at h
  · cases h
  · rename_i h1
    rw [if_neg h1]
    split at h
    · cases h
    · rename_i h2
      rw [if_neg h2]
      have := holdsB_iff.1 (by simpa using h2 : holdsB n (IntKind.i64.wrap (a + 8 * ev)) 8 = true)
      exact ⟨by omega, by omega⟩
theorem event_t (p : Nat) (bs : List Int) (v : Bool) (b a ev : Int) : Tri P F.tables_Device_event [devV v b a, ptr p, .int .i64 ev] [memI p bs] fun x L' => x = slotV (evM bs.length v b a ev) ∧ L' = [memI p bs] := by
  intro w S hS
  refine tables_Device_event_cv ?_
  unfold tables_Device_event
  have H := Own.start hS
  refine alc_o H fun b6 wx H => alc_o H fun b8 wx H => ?_
  have out : ∀ x wx, X.Own w S [row b8 [.int .i64 0, .int .i64 0] T.t30, row b6 [.bool v, .int .i64 b, .int .i64 a] T.t36, memI p bs] wx → x = decide (v = false ∨ ev < 0 ∨ ev ≥ evN b) → tables_Device_event_j0 (some ⟨p, 0, none⟩) ev (fun v_1 w' => ∃ L', (v_1 = slotV (evM bs.length v b a ev) ∧ L' = [memI p bs]) ∧ X.Own w S L' w') b6 b8 x wx := by
    intro x wx H hx
    unfold tables_Device_event_j0 evM
    refine cnd_i (fun h => ?_) fun h => ?_
    · rw [h] at hx
      rw [if_pos (of_decide_eq_true hx.symm)]
      refine st1_o H (by repeat (first | exact Rep.here | apply Rep.there)) (by simp) fun wx H => ?_
      refine st1_o H (by repeat (first | exact Rep.here | apply Rep.there)) (by simp) fun wx H => ?_
      repeat (first | refine ldI_o H (by repeat (first | exact Pick.here | apply Pick.there)) (by rfl) ?_ | refine ldL_o H (by repeat (first | exact Pick.here | apply Pick.there)) (by rfl) ?_ | refine ldB_o H (by repeat (first | exact Pick.here | apply Pick.there)) (by rfl) ?_ | refine ldP_o H (by repeat (first | exact Pick.here | apply Pick.there)) (by rfl) ?_ | refine ldS_o H (by repeat (first | exact Pick.here | apply Pick.there)) (by rfl) ?_)
      exact ⟨_, ⟨rfl, rfl⟩, H.drop (by repeat (first | exact Cut.nil | (apply Cut.cons; (repeat (first | exact Pick.here | apply Pick.there)))))⟩
    · rw [h] at hx
      have hx := of_decide_eq_false hx.symm
      rw [if_neg hx]
      have hr := evN_range b
      repeat (first | refine ldI_o H (by repeat (first | exact Pick.here | apply Pick.there)) (by rfl) ?_ | refine ldL_o H (by repeat (first | exact Pick.here | apply Pick.there)) (by rfl) ?_ | refine ldB_o H (by repeat (first | exact Pick.here | apply Pick.there)) (by rfl) ?_ | refine ldP_o H (by repeat (first | exact Pick.here | apply Pick.there)) (by rfl) ?_ | refine ldS_o H (by repeat (first | exact Pick.here | apply Pick.there)) (by rfl) ?_)
      refine alc_o H fun bz wx H => ?_
      refine st1_o H (by repeat (first | exact Rep.here | apply Rep.there)) (by simp) fun wx H => ?_
      refine st1_o H (by repeat (first | exact Rep.here | apply Rep.there)) (by simp) fun wx H => ?_
      rw [W_id (n := ev * 8) (by omega) (by omega), Int.mul_comm ev] at H
      repeat (first | refine ldI_o H (by repeat (first | exact Pick.here | apply Pick.there)) (by rfl) ?_ | refine ldL_o H (by repeat (first | exact Pick.here | apply Pick.there)) (by rfl) ?_ | refine ldB_o H (by repeat (first | exact Pick.here | apply Pick.there)) (by rfl) ?_ | refine ldP_o H (by repeat (first | exact Pick.here | apply Pick.there)) (by rfl) ?_ | refine ldS_o H (by repeat (first | exact Pick.here | apply Pick.there)) (by rfl) ?_)
      refine call_p H (holds_t p bs (IntKind.i64.wrap (a + 8 * ev)) 8) (by repeat (first | exact Cut.nil | (apply Cut.cons; (repeat (first | exact Pick.here | apply Pick.there))))) fun wx H => ?_
      refine ⟨_, rfl, ?_⟩
      cases holdsB bs.length (IntKind.i64.wrap (a + 8 * ev)) 8
      · refine cnd_i (fun _ => ?_) (fun h => by cases h)
        refine st1_o H (by repeat (first | exact Rep.here | apply Rep.there)) (by simp) fun wx H => ?_
        refine st1_o H (by repeat (first | exact Rep.here | apply Rep.there)) (by simp) fun wx H => ?_
        repeat (first | refine ldI_o H (by repeat (first | exact Pick.here | apply Pick.there)) (by rfl) ?_ | refine ldL_o H (by repeat (first | exact Pick.here | apply Pick.there)) (by rfl) ?_ | refine ldB_o H (by repeat (first | exact Pick.here | apply Pick.there)) (by rfl) ?_ | refine ldP_o H (by repeat (first | exact Pick.here | apply Pick.there)) (by rfl) ?_ | refine ldS_o H (by repeat (first | exact Pick.here | apply Pick.there)) (by rfl) ?_)
        exact ⟨_, ⟨rfl, rfl⟩, H.drop (by repeat (first | exact Cut.nil | (apply Cut.cons; (repeat (first | exact Pick.here | apply Pick.there)))))⟩
      · refine cnd_i (fun h => by cases h) fun _ => ?_
        repeat (first | refine ldI_o H (by repeat (first | exact Pick.here | apply Pick.there)) (by rfl) ?_ | refine ldL_o H (by repeat (first | exact Pick.here | apply Pick.there)) (by rfl) ?_ | refine ldB_o H (by repeat (first | exact Pick.here | apply Pick.there)) (by rfl) ?_ | refine ldP_o H (by repeat (first | exact Pick.here | apply Pick.there)) (by rfl) ?_ | refine ldS_o H (by repeat (first | exact Pick.here | apply Pick.there)) (by rfl) ?_)
        refine st1_o H (by repeat (first | exact Rep.here | apply Rep.there)) (by simp) fun wx H => ?_
        refine st1_o H (by repeat (first | exact Rep.here | apply Rep.there)) (by simp) fun wx H => ?_
        repeat (first | refine ldI_o H (by repeat (first | exact Pick.here | apply Pick.there)) (by rfl) ?_ | refine ldL_o H (by repeat (first | exact Pick.here | apply Pick.there)) (by rfl) ?_ | refine ldB_o H (by repeat (first | exact Pick.here | apply Pick.there)) (by rfl) ?_ | refine ldP_o H (by repeat (first | exact Pick.here | apply Pick.there)) (by rfl) ?_ | refine ldS_o H (by repeat (first | exact Pick.here | apply Pick.there)) (by rfl) ?_)
        exact ⟨_, ⟨rfl, rfl⟩, H.drop (by repeat (first | exact Cut.nil | (apply Cut.cons; (repeat (first | exact Pick.here | apply Pick.there)))))⟩
  refine join_o (ldB_o H (by repeat (first | exact Pick.here | apply Pick.there)) (by rfl) (cnd_i (fun h => out _ _ H (.symm (decide_eq_true (.inl (by simpa using h))))) fun h1 => cnd_i (fun h => out _ _ H (.symm (decide_eq_true (.inr (.inl (of_decide_eq_true h)))))) fun h2 => ?_))
  have h1 : v = true := by simpa using h1
  have h2 := of_decide_eq_false h2
  repeat (first | refine ldI_o H (by repeat (first | exact Pick.here | apply Pick.there)) (by rfl) ?_ | refine ldL_o H (by repeat (first | exact Pick.here | apply Pick.there)) (by rfl) ?_ | refine ldB_o H (by repeat (first | exact Pick.here | apply Pick.there)) (by rfl) ?_ | refine ldP_o H (by repeat (first | exact Pick.here | apply Pick.there)) (by rfl) ?_ | refine ldS_o H (by repeat (first | exact Pick.here | apply Pick.there)) (by rfl) ?_)
  refine call_p H (tri_plain (events_plain v b a)) (by repeat (first | exact Cut.nil | (apply Cut.cons; (repeat (first | exact Pick.here | apply Pick.there))))) fun wx H => ?_
  refine ⟨_, rfl, out _ _ H ?_⟩
  subst h1
  rw [Bool.eq_iff_iff, decide_eq_true_eq, decide_eq_true_eq]
  simp [h2]
def routeM (bs : List Int) (v : Bool) (b a ev : Int) : (Int × Int × Bool) × Int :=
  if (evM bs.length v b a ev).2 ≠ 0 then ((0, 0, false), (evM bs.length v b a ev).2)
  else if w8 bs (evM bs.length v b a ev).1.toNat < 9223372036854775808 then ((0, 0, false), 0)
  else ((w8 bs (evM bs.length v b a ev).1.toNat % 4294967296, w8 bs (evM bs.length v b a ev).1.toNat / 4294967296 % 65536, true), 0)
def routeV (r : (Int × Int × Bool) × Int) : Value := .tuple [rouV r.1.1 r.1.2.1 r.1.2.2, .int .i64 r.2].toArray
theorem route_t (p : Nat) (bs : List Int) (hr : ∀ x ∈ bs, 0 ≤ x ∧ x < 256) (v : Bool) (b a ev : Int) : Tri P F.tables_Device_Route [devV v b a, ptr p, .int .i64 ev] [memI p bs] fun x L' => x = routeV (routeM bs v b a ev) ∧ L' = [memI p bs] := by
  intro w S hS
  refine tables_Device_Route_cv ?_
  unfold tables_Device_Route
  have H := Own.start hS
  refine alc_o H fun b6 wx H => alc_o H fun b8 wx H => ?_
  repeat (first | refine ldI_o H (by repeat (first | exact Pick.here | apply Pick.there)) (by rfl) ?_ | refine ldL_o H (by repeat (first | exact Pick.here | apply Pick.there)) (by rfl) ?_ | refine ldB_o H (by repeat (first | exact Pick.here | apply Pick.there)) (by rfl) ?_ | refine ldP_o H (by repeat (first | exact Pick.here | apply Pick.there)) (by rfl) ?_ | refine ldS_o H (by repeat (first | exact Pick.here | apply Pick.there)) (by rfl) ?_)
  refine call_p H (event_t p bs v b a ev) (by repeat (first | exact Cut.nil | (apply Cut.cons; (repeat (first | exact Pick.here | apply Pick.there))))) fun wx H => ?_
  have hok := evM_ok (n := bs.length) (v := v) (b := b) (a := a) (ev := ev)
  unfold routeM
  generalize evM bs.length v b a ev = r at *
  obtain ⟨q, e⟩ := r
  dsimp only at *
  refine ⟨_, _, _, rfl, alc_o H fun bz wx H => ?_⟩
  refine st1_o H (by repeat (first | exact Rep.here | apply Rep.there)) (by simp) fun wx H => ?_
  refine st1_o H (by repeat (first | exact Rep.here | apply Rep.there)) (by simp) fun wx H => ?_
  refine cnd_i (fun h => ?_) fun h => ?_
  · have h : e ≠ 0 := by simpa using h
    refine st1_o H (by repeat (first | exact Rep.here | apply Rep.there)) (by simp) fun wx H => ?_
    refine st1_o H (by repeat (first | exact Rep.here | apply Rep.there)) (by simp) fun wx H => ?_
    refine st1_o H (by repeat (first | exact Rep.here | apply Rep.there)) (by simp) fun wx H => ?_
    repeat (first | refine ldI_o H (by repeat (first | exact Pick.here | apply Pick.there)) (by rfl) ?_ | refine ldL_o H (by repeat (first | exact Pick.here | apply Pick.there)) (by rfl) ?_ | refine ldB_o H (by repeat (first | exact Pick.here | apply Pick.there)) (by rfl) ?_ | refine ldP_o H (by repeat (first | exact Pick.here | apply Pick.there)) (by rfl) ?_ | refine ldS_o H (by repeat (first | exact Pick.here | apply Pick.there)) (by rfl) ?_)
    rw [if_pos h]
    exact ⟨_, ⟨rfl, rfl⟩, H.drop (by repeat (first | exact Cut.nil | (apply Cut.cons; (repeat (first | exact Pick.here | apply Pick.there)))))⟩
  have h : e = 0 := by simpa using h
  subst h
  have hok := hok rfl
  simp only [if_true, ne_eq, not_true, if_false] at H ⊢
  repeat (first | refine ldI_o H (by repeat (first | exact Pick.here | apply Pick.there)) (by rfl) ?_ | refine ldL_o H (by repeat (first | exact Pick.here | apply Pick.there)) (by rfl) ?_ | refine ldB_o H (by repeat (first | exact Pick.here | apply Pick.there)) (by rfl) ?_ | refine ldP_o H (by repeat (first | exact Pick.here | apply Pick.there)) (by rfl) ?_ | refine ldS_o H (by repeat (first | exact Pick.here | apply Pick.there)) (by rfl) ?_)
  refine call_p H (read_t p bs q 8 0 8) (by repeat (first | exact Cut.nil | (apply Cut.cons; (repeat (first | exact Pick.here | apply Pick.there))))) fun wx H => ?_
  have hxr := w8_range (p := q.toNat) hr
  rw [readV0 hok]
  generalize w8 bs q.toNat = x at *
  refine ⟨_, _, rfl, by omega, ?_⟩
  rw [top_bit hxr]
  refine cnd_i (fun h => ?_) fun h => ?_
  · have h := of_decide_eq_true h
    refine st1_o H (by repeat (first | exact Rep.here | apply Rep.there)) (by simp) fun wx H => ?_
    refine st1_o H (by repeat (first | exact Rep.here | apply Rep.there)) (by simp) fun wx H => ?_
    refine st1_o H (by repeat (first | exact Rep.here | apply Rep.there)) (by simp) fun wx H => ?_
    repeat (first | refine ldI_o H (by repeat (first | exact Pick.here | apply Pick.there)) (by rfl) ?_ | refine ldL_o H (by repeat (first | exact Pick.here | apply Pick.there)) (by rfl) ?_ | refine ldB_o H (by repeat (first | exact Pick.here | apply Pick.there)) (by rfl) ?_ | refine ldP_o H (by repeat (first | exact Pick.here | apply Pick.there)) (by rfl) ?_ | refine ldS_o H (by repeat (first | exact Pick.here | apply Pick.there)) (by rfl) ?_)
    rw [if_pos h]
    exact ⟨_, ⟨rfl, rfl⟩, H.drop (by repeat (first | exact Cut.nil | (apply Cut.cons; (repeat (first | exact Pick.here | apply Pick.there)))))⟩
  · have h := of_decide_eq_false h
    refine ⟨by omega, ?_⟩
    have e1 : IntKind.i64.wrap (bitX .and .u64 x 4294967295) = x % 4294967296 := low32 hxr
    have e2 : Int.fdiv x (2 ^ min (Int.toNat 32) IntKind.u64.bits) = x / 4294967296 := shr_int hxr.1 (s := 32) (by omega)
    have e3 : IntKind.i64.wrap (bitX .and .u64 (x / 4294967296) 65535) = x / 4294967296 % 65536 := by
      rw [and_mask ⟨by omega, by omega⟩ 16 (by omega) 65535 rfl, show (2 : Int) ^ 16 = 65536 from rfl, W_id (by omega) (by omega)]
    rw [e1, e2, e3]
    refine st1_o H (by repeat (first | exact Rep.here | apply Rep.there)) (by simp) fun wx H => ?_
    refine st1_o H (by repeat (first | exact Rep.here | apply Rep.there)) (by simp) fun wx H => ?_
    refine st1_o H (by repeat (first | exact Rep.here | apply Rep.there)) (by simp) fun wx H => ?_
    repeat (first | refine ldI_o H (by repeat (first | exact Pick.here | apply Pick.there)) (by rfl) ?_ | refine ldL_o H (by repeat (first | exact Pick.here | apply Pick.there)) (by rfl) ?_ | refine ldB_o H (by repeat (first | exact Pick.here | apply Pick.there)) (by rfl) ?_ | refine ldP_o H (by repeat (first | exact Pick.here | apply Pick.there)) (by rfl) ?_ | refine ldS_o H (by repeat (first | exact Pick.here | apply Pick.there)) (by rfl) ?_)
    rw [if_neg h]
    exact ⟨_, ⟨rfl, rfl⟩, H.drop (by repeat (first | exact Cut.nil | (apply Cut.cons; (repeat (first | exact Pick.here | apply Pick.there)))))⟩
def setM (bs : List Int) (v : Bool) (b a ev n c : Int) (r : Bool) : List Int × Int :=
  if (evM bs.length v b a ev).2 ≠ 0 then (bs, (evM bs.length v b a ev).2)
  else if r = false then (wr bs (evM bs.length v b a ev).1.toNat 0 8, 0)
  else if n < 0 ∨ n ≥ 4294967296 ∨ c < 0 ∨ c ≥ 65536 then (bs, 1)
  else (wr bs (evM bs.length v b a ev).1.toNat (9223372036854775808 + c * 4294967296 + n) 8, 0)
theorem setRoute_t (p : Nat) (bs : List Int) (v : Bool) (b a ev n c : Int) (r : Bool) : Tri P F.tables_Device_SetRoute [devV v b a, ptr p, .int .i64 ev, rouV n c r] [memI p bs] fun x L' => x = .int .i64 (setM bs v b a ev n c r).2 ∧ L' = [memI p (setM bs v b a ev n c r).1] := by
  intro w S hS
  refine tables_Device_SetRoute_cv ?_
  unfold tables_Device_SetRoute
  have H := Own.start hS
  refine alc_o H fun b9 wx H => alc_o H fun b11 wx H => ?_
  repeat (first | refine ldI_o H (by repeat (first | exact Pick.here | apply Pick.there)) (by rfl) ?_ | refine ldL_o H (by repeat (first | exact Pick.here | apply Pick.there)) (by rfl) ?_ | refine ldB_o H (by repeat (first | exact Pick.here | apply Pick.there)) (by rfl) ?_ | refine ldP_o H (by repeat (first | exact Pick.here | apply Pick.there)) (by rfl) ?_ | refine ldS_o H (by repeat (first | exact Pick.here | apply Pick.there)) (by rfl) ?_)
  refine call_p H (event_t p bs v b a ev) (by repeat (first | exact Cut.nil | (apply Cut.cons; (repeat (first | exact Pick.here | apply Pick.there))))) fun wx H => ?_
  have hok := evM_ok (n := bs.length) (v := v) (b := b) (a := a) (ev := ev)
  unfold setM
  generalize evM bs.length v b a ev = q at *
  obtain ⟨q, e⟩ := q
  dsimp only at *
  refine ⟨_, _, _, rfl, alc_o H fun bz wx H => ?_⟩
  refine st1_o H (by repeat (first | exact Rep.here | apply Rep.there)) (by simp) fun wx H => ?_
  refine st1_o H (by repeat (first | exact Rep.here | apply Rep.there)) (by simp) fun wx H => ?_
  refine cnd_i (fun h => ?_) fun h => ?_
  · have h : e ≠ 0 := by simpa using h
    rw [if_pos h]
    exact ⟨_, ⟨rfl, rfl⟩, H.drop (by repeat (first | exact Cut.nil | (apply Cut.cons; (repeat (first | exact Pick.here | apply Pick.there)))))⟩
  have h : e = 0 := by simpa using h
  subst h
  have hok := hok rfl
  simp only [if_true, ne_eq, not_true, if_false] at H ⊢
  refine ldB_o H (by repeat (first | exact Pick.here | apply Pick.there)) (by rfl) (cnd_i (fun h => ?_) fun h => ?_)
  · have h : r = false := by simpa using h
    subst h
    repeat (first | refine ldI_o H (by repeat (first | exact Pick.here | apply Pick.there)) (by rfl) ?_ | refine ldL_o H (by repeat (first | exact Pick.here | apply Pick.there)) (by rfl) ?_ | refine ldB_o H (by repeat (first | exact Pick.here | apply Pick.there)) (by rfl) ?_ | refine ldP_o H (by repeat (first | exact Pick.here | apply Pick.there)) (by rfl) ?_ | refine ldS_o H (by repeat (first | exact Pick.here | apply Pick.there)) (by rfl) ?_)
    refine call_o H (write_t p bs q 8 0 8 0) (by repeat (first | exact Cut.nil | (apply Cut.cons; (repeat (first | exact Pick.here | apply Pick.there))))) fun vx L' wx hq H => ?_
    obtain ⟨rfl, rfl⟩ := hq
    simp only [List.cons_append, List.nil_append] at H
    rw [writeM0 hok] at H
    exact ⟨_, rfl, _, ⟨rfl, rfl⟩, H.drop (by repeat (first | exact Cut.nil | (apply Cut.cons; (repeat (first | exact Pick.here | apply Pick.there)))))⟩
  have h : r = true := by simpa using h
  subst h
  simp only [reduceCtorEq, if_false]
  have out : ∀ x, x = decide (n < 0 ∨ n ≥ 4294967296 ∨ c < 0 ∨ c ≥ 65536) → tables_Device_SetRoute_j0 (some ⟨p, 0, none⟩) (fun v w' => ∃ L', (v = .int .i64 (if n < 0 ∨ n ≥ 4294967296 ∨ c < 0 ∨ c ≥ 65536 then (bs, (1 : Int)) else (wr bs q.toNat (9223372036854775808 + c * 4294967296 + n) 8, 0)).2 ∧ L' = [memI p (if n < 0 ∨ n ≥ 4294967296 ∨ c < 0 ∨ c ≥ 65536 then (bs, (1 : Int)) else (wr bs q.toNat (9223372036854775808 + c * 4294967296 + n) 8, 0)).1]) ∧ X.Own w S L' w') b11 bz x wx := by
    intro x hx
    unfold tables_Device_SetRoute_j0
    refine cnd_i (fun h => ?_) fun h => ?_
    · rw [h] at hx
      rw [if_pos (of_decide_eq_true hx.symm)]
      exact ⟨_, ⟨rfl, rfl⟩, H.drop (by repeat (first | exact Cut.nil | (apply Cut.cons; (repeat (first | exact Pick.here | apply Pick.there)))))⟩
    · rw [h] at hx
      have hx := of_decide_eq_false hx.symm
      rw [if_neg hx]
      refine drw_o H fun wx H => ?_
      repeat (first | refine ldI_o H (by repeat (first | exact Pick.here | apply Pick.there)) (by rfl) ?_ | refine ldL_o H (by repeat (first | exact Pick.here | apply Pick.there)) (by rfl) ?_ | refine ldB_o H (by repeat (first | exact Pick.here | apply Pick.there)) (by rfl) ?_ | refine ldP_o H (by repeat (first | exact Pick.here | apply Pick.there)) (by rfl) ?_ | refine ldS_o H (by repeat (first | exact Pick.here | apply Pick.there)) (by rfl) ?_)
      refine ⟨by omega, ?_⟩
      repeat (first | refine ldI_o H (by repeat (first | exact Pick.here | apply Pick.there)) (by rfl) ?_ | refine ldL_o H (by repeat (first | exact Pick.here | apply Pick.there)) (by rfl) ?_ | refine ldB_o H (by repeat (first | exact Pick.here | apply Pick.there)) (by rfl) ?_ | refine ldP_o H (by repeat (first | exact Pick.here | apply Pick.there)) (by rfl) ?_ | refine ldS_o H (by repeat (first | exact Pick.here | apply Pick.there)) (by rfl) ?_)
      refine call_p H (tri_plain (flag_plain true)) (by repeat (first | exact Cut.nil | (apply Cut.cons; (repeat (first | exact Pick.here | apply Pick.there))))) fun wx H => ?_
      refine ⟨_, rfl, rfl, ldI_o H (by repeat (first | exact Pick.here | apply Pick.there)) (by rfl) rfl, rfl, ldI_o H (by repeat (first | exact Pick.here | apply Pick.there)) (by rfl) rfl, ldI_o H (by repeat (first | exact Pick.here | apply Pick.there)) (by rfl) (ldI_o H (by repeat (first | exact Pick.here | apply Pick.there)) (by rfl) rfl), ?_⟩
      rw [if_pos rfl, u64_int (x := n) (by omega), u64_int (x := c) (by omega), show (2 : Int) ^ min (Int.toNat 32) IntKind.u64.bits = 4294967296 from rfl, u64_int (x := c * 4294967296) (by omega), or_top (by omega)]
      have e : bitX .or .u64 (9223372036854775808 + c * 4294967296) n = 9223372036854775808 + c * 4294967296 + n := by
        have := or_two 32 (q := 2147483648 + c) (b := n) (by omega) ⟨by omega, by omega⟩ (by omega)
        rw [show (2 : Int) ^ 32 * (2147483648 + c) = 9223372036854775808 + c * 4294967296 by omega] at this
        exact this
      rw [e]
      refine call_o H (write_t p bs q 8 0 8 (9223372036854775808 + c * 4294967296 + n)) (by repeat (first | exact Cut.nil | (apply Cut.cons; (repeat (first | exact Pick.here | apply Pick.there))))) fun vx L' wx hq H => ?_
      obtain ⟨rfl, rfl⟩ := hq
      simp only [List.cons_append, List.nil_append] at H
      rw [writeM0 hok] at H
      exact ⟨_, rfl, _, ⟨rfl, rfl⟩, H.drop (by repeat (first | exact Cut.nil | (apply Cut.cons; (repeat (first | exact Pick.here | apply Pick.there)))))⟩
  refine join_o (ldI_o H (by repeat (first | exact Pick.here | apply Pick.there)) (by rfl) (cnd_i (fun h => out _ (.symm (decide_eq_true (.inl (of_decide_eq_true h))))) fun h1 => ldI_o H (by repeat (first | exact Pick.here | apply Pick.there)) (by rfl) (cnd_i (fun h => out _ (.symm (decide_eq_true (.inr (.inl (of_decide_eq_true h)))))) fun h2 => ldI_o H (by repeat (first | exact Pick.here | apply Pick.there)) (by rfl) (cnd_i (fun h => out _ (.symm (decide_eq_true (.inr (.inr (.inl (of_decide_eq_true h))))))) fun h3 => ldI_o H (by repeat (first | exact Pick.here | apply Pick.there)) (by rfl) (out _ ?_)))))
  have h1 := of_decide_eq_false h1
  have h2 := of_decide_eq_false h2
  have h3 := of_decide_eq_false h3
  rw [Bool.eq_iff_iff, decide_eq_true_eq, decide_eq_true_eq]
  omega
/-! ### Collections -/
def colM (n : Nat) (a s c : Int) : Int × Int := if c < 0 ∨ c ≥ 131072 ∨ holdsB n a s = false ∨ s < 8 * c + 8 then (0, 183) else (a + 8 * c, 0)
theorem colE {n : Nat} {a s c : Int} (h0 : 0 ≤ c) (h1 : c < 131072) (hn : n ≤ 131072) : (errE n a s (8 * c) 8 = 0) ↔ (holdsB n a s = true ∧ 8 * c + 8 ≤ s) := by
  cases hh : holdsB n a s
  · have : errE n a s (8 * c) 8 ≠ 0 := by unfold errE; rw [hh]; simp
    simp [this]
  · rw [errE8 hh hn h0]
    split <;> simp_all <;> omega
def tgtM (bs : List Int) (a s c : Int) : (Int × Bool) × Int :=
  if (colM bs.length a s c).2 ≠ 0 then ((0, false), 183)
  else if w8 bs (colM bs.length a s c).1.toNat < 9223372036854775808 then ((0, false), 0)
  else ((w8 bs (colM bs.length a s c).1.toNat % 65536, true), 0)
def tgtV (r : (Int × Bool) × Int) : Value := .tuple [.int .i64 r.1.1, .bool r.1.2, .int .i64 r.2].toArray
theorem target_t (p : Nat) (bs : List Int) (hr : ∀ x ∈ bs, 0 ≤ x ∧ x < 256) (hn : bs.length ≤ 131072) (a s c : Int) : Tri P F.tables_Target [ptr p, winV a s, .int .i64 c] [memI p bs] fun x L' => x = tgtV (tgtM bs a s c) ∧ L' = [memI p bs] := by
  intro w S hS
  refine tables_Target_cv ?_
  unfold tables_Target
  have H := Own.start hS
  refine alc_o H fun b5 wx H => ?_
  have bad : ∀ wx, X.Own w S [row b5 [.int .i64 a, .int .i64 s] T.t30, memI p bs] wx → (colM bs.length a s c).2 ≠ 0 → (fun v w' => ∃ L', (v = tgtV (tgtM bs a s c) ∧ L' = [memI p bs]) ∧ X.Own w S L' w') (.tuple [.int .i64 0, .bool false, .int .i64 183].toArray) wx := by
    intro wx H h
    rw [tgtM, if_pos h]
    exact ⟨_, ⟨rfl, rfl⟩, H.drop (by repeat (first | exact Cut.nil | (apply Cut.cons; (repeat (first | exact Pick.here | apply Pick.there)))))⟩
  have out : ∀ x, x = decide (c < 0 ∨ c ≥ 131072) → tables_Target_j0 (some ⟨p, 0, none⟩) c (fun v w' => ∃ L', (v = tgtV (tgtM bs a s c) ∧ L' = [memI p bs]) ∧ X.Own w S L' w') b5 x wx := by
    intro x hx
    unfold tables_Target_j0
    refine cnd_i (fun h => ?_) fun h => ?_
    · rw [h] at hx
      have hx := of_decide_eq_true hx.symm
      exact bad _ H (by unfold colM; rw [if_pos (by omega)]; simp)
    · rw [h] at hx
      have hx := of_decide_eq_false hx.symm
      have hx0 : 0 ≤ c := by omega
      have hx1 : c < 131072 := by omega
      repeat (first | refine ldI_o H (by repeat (first | exact Pick.here | apply Pick.there)) (by rfl) ?_ | refine ldL_o H (by repeat (first | exact Pick.here | apply Pick.there)) (by rfl) ?_ | refine ldB_o H (by repeat (first | exact Pick.here | apply Pick.there)) (by rfl) ?_ | refine ldP_o H (by repeat (first | exact Pick.here | apply Pick.there)) (by rfl) ?_ | refine ldS_o H (by repeat (first | exact Pick.here | apply Pick.there)) (by rfl) ?_)
      rw [W_id (n := c * 8) (by omega) (by omega), Int.mul_comm c]
      refine call_p H (read_t p bs a s (8 * c) 8) (by repeat (first | exact Cut.nil | (apply Cut.cons; (repeat (first | exact Pick.here | apply Pick.there))))) fun wx H => ?_
      have he := colE (a := a) (s := s) hx0 hx1 hn
      unfold readV
      by_cases h0 : errE bs.length a s (8 * c) 8 = 0
      · rw [if_pos h0]
        obtain ⟨hh, hs⟩ := he.1 h0
        have ec : colM bs.length a s c = (a + 8 * c, 0) := by unfold colM; rw [if_neg (by rw [hh]; simp; omega)]
        refine ⟨_, _, rfl, cnd_i (fun h => by cases h) fun _ => ⟨by omega, ?_⟩⟩
        rw [tgtM, ec, if_neg (by simp)]
        have hxr := w8_range (p := (a + 8 * c).toNat) hr
        rw [show le (cut bs (a + 8 * c).toNat (Int.toNat 8)) = w8 bs (a + 8 * c).toNat from rfl]
        dsimp only
        generalize w8 bs (a + 8 * c).toNat = x at *
        rw [top_bit hxr]
        refine cnd_i (fun h => ?_) fun h => ?_
        · rw [if_pos (of_decide_eq_true h)]
          exact ⟨_, ⟨rfl, rfl⟩, H.drop (by repeat (first | exact Cut.nil | (apply Cut.cons; (repeat (first | exact Pick.here | apply Pick.there)))))⟩
        · rw [if_neg (of_decide_eq_false h), and_mask hxr 16 (by omega) 65535 rfl, show (2 : Int) ^ 16 = 65536 from rfl, W_id (by omega) (by omega)]
          exact ⟨_, ⟨rfl, rfl⟩, H.drop (by repeat (first | exact Cut.nil | (apply Cut.cons; (repeat (first | exact Pick.here | apply Pick.there)))))⟩
      · rw [if_neg h0]
        refine ⟨_, _, rfl, cnd_i (fun _ => bad _ H ?_) fun h => absurd (by simpa using h) h0⟩
        unfold colM
        rw [if_pos]
        · simp
        · cases hh : holdsB bs.length a s
          · simp
          · rw [hh] at he
            by_cases hs : 8 * c + 8 ≤ s
            · exact absurd (he.2 ⟨rfl, hs⟩) h0
            · simp; omega
  exact join_o (cnd_i (fun h => out _ (.symm (decide_eq_true (.inl (of_decide_eq_true h))))) fun h1 => out _ (by
    have h1 := of_decide_eq_false h1
    rw [Bool.eq_iff_iff, decide_eq_true_eq, decide_eq_true_eq]; omega))
def stgM (bs : List Int) (a s c t : Int) (is : Bool) : List Int × Int :=
  if c < 0 ∨ c ≥ 131072 then (bs, 183)
  else if t < 0 ∨ t ≥ 65536 then (bs, 1)
  else if (colM bs.length a s c).2 ≠ 0 then (bs, 183)
  else (wr bs (colM bs.length a s c).1.toNat (if is then 9223372036854775808 + t else 0) 8, 0)
theorem setTarget_t (p : Nat) (bs : List Int) (hn : bs.length ≤ 131072) (a s c t : Int) (is : Bool) : Tri P F.tables_SetTarget [ptr p, winV a s, .int .i64 c, .int .i64 t, .bool is] [memI p bs] fun x L' => x = .int .i64 (stgM bs a s c t is).2 ∧ L' = [memI p (stgM bs a s c t is).1] := by
  intro w S hS
  refine tables_SetTarget_cv ?_
  unfold tables_SetTarget
  have H := Own.start hS
  refine alc_o H fun b7 wx H => ?_
  have outc : ∀ x, x = decide (c < 0 ∨ c ≥ 131072) → tables_SetTarget_j2 (some ⟨p, 0, none⟩) c t is (fun v w' => ∃ L', (v = .int .i64 (stgM bs a s c t is).2 ∧ L' = [memI p (stgM bs a s c t is).1]) ∧ X.Own w S L' w') b7 x wx := by
    intro x hx
    unfold tables_SetTarget_j2
    refine cnd_i (fun h => ?_) fun h => join_o ?_
    · rw [h] at hx
      rw [stgM, if_pos (of_decide_eq_true hx.symm)]
      exact ⟨_, ⟨rfl, rfl⟩, H.drop (by repeat (first | exact Cut.nil | (apply Cut.cons; (repeat (first | exact Pick.here | apply Pick.there)))))⟩
    rw [h] at hx
    have hx := of_decide_eq_false hx.symm
    have hx0 : 0 ≤ c := by omega
    have hx1 : c < 131072 := by omega
    have outt : ∀ x, x = decide (t < 0 ∨ t ≥ 65536) → tables_SetTarget_j1 (some ⟨p, 0, none⟩) c t is (fun v w' => ∃ L', (v = .int .i64 (stgM bs a s c t is).2 ∧ L' = [memI p (stgM bs a s c t is).1]) ∧ X.Own w S L' w') b7 x wx := by
      intro x hy
      unfold tables_SetTarget_j1
      refine cnd_i (fun h => ?_) fun h => join_o ?_
      · rw [h] at hy
        rw [stgM, if_neg hx, if_pos (of_decide_eq_true hy.symm)]
        exact ⟨_, ⟨rfl, rfl⟩, H.drop (by repeat (first | exact Cut.nil | (apply Cut.cons; (repeat (first | exact Pick.here | apply Pick.there)))))⟩
      rw [h] at hy
      have hy := of_decide_eq_false hy.symm
      have fin : ∀ y wx, y = (if is then 9223372036854775808 + t else 0) → X.Own w S [row b7 [.int .i64 a, .int .i64 s] T.t30, memI p bs] wx → tables_SetTarget_j0 (some ⟨p, 0, none⟩) c (fun v w' => ∃ L', (v = .int .i64 (stgM bs a s c t is).2 ∧ L' = [memI p (stgM bs a s c t is).1]) ∧ X.Own w S L' w') b7 y wx := by
        rintro y wx hy' H
        unfold tables_SetTarget_j0
        repeat (first | refine ldI_o H (by repeat (first | exact Pick.here | apply Pick.there)) (by rfl) ?_ | refine ldL_o H (by repeat (first | exact Pick.here | apply Pick.there)) (by rfl) ?_ | refine ldB_o H (by repeat (first | exact Pick.here | apply Pick.there)) (by rfl) ?_ | refine ldP_o H (by repeat (first | exact Pick.here | apply Pick.there)) (by rfl) ?_ | refine ldS_o H (by repeat (first | exact Pick.here | apply Pick.there)) (by rfl) ?_)
        rw [W_id (n := c * 8) (by omega) (by omega), Int.mul_comm c]
        refine call_o H (write_t p bs a s (8 * c) 8 y) (by repeat (first | exact Cut.nil | (apply Cut.cons; (repeat (first | exact Pick.here | apply Pick.there))))) fun vx L' wx hq H => ?_
        obtain ⟨rfl, rfl⟩ := hq
        simp only [List.cons_append, List.nil_append] at H
        refine ⟨_, rfl, ?_⟩
        rw [stgM, if_neg hx, if_neg hy, ← hy']
        have he := colE (a := a) (s := s) hx0 hx1 hn
        unfold writeM at H
        by_cases h0 : errE bs.length a s (8 * c) 8 = 0
        · rw [if_pos h0] at H
          obtain ⟨hh, hs⟩ := he.1 h0
          have ec : colM bs.length a s c = (a + 8 * c, 0) := by unfold colM; rw [if_neg (by rw [hh]; simp; omega)]
          rw [ec, if_neg (by simp), h0]
          exact cnd_i (fun h => by cases h) fun _ => ⟨_, ⟨rfl, rfl⟩, H.drop (by repeat (first | exact Cut.nil | (apply Cut.cons; (repeat (first | exact Pick.here | apply Pick.there)))))⟩
        · rw [if_neg h0] at H
          rw [if_pos]
          · exact cnd_i (fun _ => ⟨_, ⟨rfl, rfl⟩, H.drop (by repeat (first | exact Cut.nil | (apply Cut.cons; (repeat (first | exact Pick.here | apply Pick.there)))))⟩) fun h => absurd (by simpa using h) h0
          · unfold colM
            rw [if_pos]
            · simp
            · cases hh : holdsB bs.length a s
              · simp
              · rw [hh] at he
                by_cases hs : 8 * c + 8 ≤ s
                · exact absurd (he.2 ⟨rfl, hs⟩) h0
                · simp; omega
      cases is
      · exact cnd_i (fun h => by cases h) fun _ => fin _ _ (by simp) H
      · refine cnd_i (fun _ => ?_) (fun h => by cases h)
        refine call_p H (tri_plain (flag_plain true)) (by repeat (first | exact Cut.nil | (apply Cut.cons; (repeat (first | exact Pick.here | apply Pick.there))))) fun wx H => ?_
        refine ⟨_, rfl, fin _ _ ?_ H⟩
        rw [if_pos rfl, if_pos rfl, u64_int (x := t) (by omega), or_top (by omega)]
    exact cnd_i (fun h => outt _ (.symm (decide_eq_true (.inl (of_decide_eq_true h))))) fun h1 => outt _ (by
      have h1 := of_decide_eq_false h1
      rw [Bool.eq_iff_iff, decide_eq_true_eq, decide_eq_true_eq]; omega)
  exact join_o (cnd_i (fun h => outc _ (.symm (decide_eq_true (.inl (of_decide_eq_true h))))) fun h1 => outc _ (by
    have h1 := of_decide_eq_false h1
    rw [Bool.eq_iff_iff, decide_eq_true_eq, decide_eq_true_eq]; omega))
end Go.Proofs.Ythoieihffbahpaa
