/-
  Sets: numbers let go, counted; copies; sets of numbers.
-/
import Derived.Test.YtlccemphlinecaaDoorC2
import Derived.Test.YtlccemphlinecaaDoorS6
namespace Go.Proofs.YtlccemphlinecaaDoor
open Go Go.RowKit X
set_option maxRecDepth 100000
set_option linter.unusedVariables false
theorem mems_clear {ws : List Nat} {m : Nat} (h2 : ∀ x ∈ ws, x < 2 ^ 64) (hk : m / 64 < ws.length) : mems (ws.set (m / 64) (andNot ws[m / 64] (2 ^ (m % 64)))) = takeL (mems ws) m := by
  have hp : 2 ^ (m % 64) < 2 ^ 64 := Nat.pow_lt_pow_right (by omega) (Nat.mod_lt _ (by omega))
  refine mems_eq (takeL_up (mems_up ws)) fun x => ?_
  rw [hasN_set hk, mem_takeL, mem_mems]
  split
  · rename_i h
    have e : hasN ws x = ws[m / 64].testBit (x % 64) := by unfold hasN; rw [h, getD_get hk]
    rw [andNot_testBit (h2 _ (List.getElem_mem hk)) hp, Nat.testBit_two_pow, e]
    simp only [Bool.and_eq_true, Bool.not_eq_true', decide_eq_false_iff_not]
    constructor
    · rintro ⟨h3, h4⟩; exact ⟨h3, by omega⟩
    · rintro ⟨h3, h4⟩; exact ⟨h3, by omega⟩
  · constructor
    · intro h; exact ⟨h, by omega⟩
    · exact And.left
theorem take_t (b : Nat) (l : List Nat) (m : Int) : Tri P F.sets_Set_int_Take [ptrV b, .int .i64 m] [setI b l] fun v L' => v = .bool (hasL l m) ∧ L' = [setI b (takeL l m)] := by
  intro w S hS
  refine sets_Set_int_Take_cv ?_
  unfold sets_Set_int_Take
  have H := Own.start hS
  refine call_p H (has_t b l m) (by repeat (first | exact Cut.nil | (apply Cut.cons; (repeat (first | exact Pick.here | apply Pick.there))))) fun wx H => ?_
  refine ⟨_, rfl, ?_⟩
  cases hh : hasL l m
  · refine cnd_i (fun _ => ⟨_, ⟨rfl, rfl⟩, ?_⟩) (fun h => by cases h)
    rw [takeL_none hh]; exact H
  refine cnd_i (fun h => by cases h) fun _ => ?_
  obtain ⟨ws, p, c, t, rfl, h2, h3, H⟩ := set_open H (by repeat (first | exact Pick.here | apply Pick.there))
  obtain ⟨h0, hm⟩ := hasL_iff.1 hh
  have hlt := mems_lt hm
  have hk : m.toNat / 64 < ws.length := by omega
  repeat (first | refine ldI_o H (by repeat (first | exact Pick.here | apply Pick.there)) (by rfl) ?_ | refine ldL_o H (by repeat (first | exact Pick.here | apply Pick.there)) (by rfl) ?_ | refine ldB_o H (by repeat (first | exact Pick.here | apply Pick.there)) (by rfl) ?_ | refine ldP_o H (by repeat (first | exact Pick.here | apply Pick.there)) (by rfl) ?_ | refine ldS_o H (by repeat (first | exact Pick.here | apply Pick.there)) (by rfl) ?_)
  refine ⟨by omega, ?_⟩
  rw [show Int.tdiv m 64 = Int.tdiv m (64 : Nat) from rfl, i64_div h0 (by omega) 64 (by omega)]
  refine ⟨⟨by omega, by omega⟩, ?_⟩
  rw [Int.toNat_natCast]
  refine old_o H (by repeat (first | exact Pick.here | apply Pick.there)) (u64s_get hk) ⟨by omega, ?_⟩
  have hb := h2 _ (List.getElem_mem hk)
  have hp : 2 ^ (m.toNat % 64) < 2 ^ 64 := Nat.pow_lt_pow_right (by omega) (Nat.mod_lt _ (by omega))
  rw [mod64 h0 (by omega), shl1_u64 (Nat.mod_lt _ (by omega)), andNot_u64 hb hp]
  refine ⟨by omega, ⟨by omega, by omega⟩, ?_⟩
  refine ost_o H (by repeat (first | exact Rep.here | apply Rep.there)) hk fun wx H => ?_
  rw [u64s_set] at H
  refine ⟨_, ⟨rfl, rfl⟩, set_shut H (by simp) rfl ?_ (set_lt h2 (andNot_lt hb)) (by simpa using h3)⟩
  rw [Int.toNat_natCast, mems_clear h2 hk, Int.toNat_of_nonneg h0]
/-- how many members a row of words has -/
def cntW : List Nat → Nat
  | [] => 0
  | x :: r => (wbits x).length + cntW r
theorem cntW_append (a b : List Nat) : cntW (a ++ b) = cntW a + cntW b := by
  induction a with
  | nil => simp [cntW]
  | cons x r ih => simp only [List.cons_append, cntW, ih]; omega
theorem mems_snoc {ws : List Nat} {x : Nat} (hx : x < 2 ^ 64) : mems (ws ++ [x]) = mems ws ++ (wbits x).map (64 * ws.length + ·) := by
  have hup : Up (mems ws ++ (wbits x).map (64 * ws.length + ·)) := by
    refine List.pairwise_append.2 ⟨mems_up ws, ?_, ?_⟩
    · exact List.Pairwise.map _ (fun a b h => by omega) (wbits_up x)
    · intro a ha b hb
      obtain ⟨i, _, rfl⟩ := List.mem_map.1 hb
      have := mems_lt ha; omega
  refine mems_eq hup fun m => ?_
  rw [List.mem_append, mem_mems, List.mem_map]
  by_cases h : m < 64 * ws.length
  · have : hasN (ws ++ [x]) m = hasN ws m := by
      unfold hasN; simp only [List.getD]; rw [List.getElem?_append_left (by omega)]
    rw [this]
    constructor
    · exact .inl
    · rintro (h1 | ⟨i, _, rfl⟩)
      · exact h1
      · omega
  · rw [hasN_out (ws := ws) (by omega)]
    by_cases h' : m / 64 = ws.length
    · have : hasN (ws ++ [x]) m = x.testBit (m % 64) := by
        unfold hasN; rw [h']; simp [List.getD]
      rw [this]
      constructor
      · intro h1; exact .inr ⟨m % 64, (mem_wbits hx).2 h1, by omega⟩
      · rintro (h1 | ⟨i, h1, rfl⟩)
        · cases h1
        · have h2 : i < 64 := by simp only [wbits, List.mem_filter, List.mem_range] at h1; exact h1.1
          rw [show (64 * ws.length + i) % 64 = i by omega]
          exact (mem_wbits hx).1 h1
    · rw [hasN_out (ws := ws ++ [x]) (by simp; omega)]
      constructor
      · intro h; cases h
      · rintro (h1 | ⟨i, h1, rfl⟩)
        · cases h1
        · have h2 : i < 64 := by simp only [wbits, List.mem_filter, List.mem_range] at h1; exact h1.1
          omega
theorem mems_take {ws : List Nat} (h2 : ∀ x ∈ ws, x < 2 ^ 64) {k : Nat} (hk : k < ws.length) : mems (ws.take (k + 1)) = mems (ws.take k) ++ (wbits ws[k]).map (64 * k + ·) := by
  rw [List.take_succ_eq_append_getElem hk, mems_snoc (h2 _ (List.getElem_mem hk))]
  simp [Nat.min_eq_left (Nat.le_of_lt hk)]
theorem mems_nil : mems [] = [] := rfl
theorem mems_length (ws : List Nat) : (mems ws).length ≤ 64 * ws.length := by
  unfold mems
  exact Nat.le_trans (List.length_filter_le _ _) (by simp)
theorem len_set_t (b : Nat) (l : List Nat) : Tri P F.sets_Set_int_Len [ptrV b] [setI b l] fun v L' => v = .int .i64 l.length ∧ L' = [setI b l] := by
  intro w S hS
  refine sets_Set_int_Len_cv ?_
  unfold sets_Set_int_Len
  have H := Own.start hS
  obtain ⟨ws, p, c, t, rfl, h2, h3, H⟩ := set_open H (by repeat (first | exact Pick.here | apply Pick.there))
  repeat (first | refine ldI_o H (by repeat (first | exact Pick.here | apply Pick.there)) (by rfl) ?_ | refine ldL_o H (by repeat (first | exact Pick.here | apply Pick.there)) (by rfl) ?_ | refine ldB_o H (by repeat (first | exact Pick.here | apply Pick.there)) (by rfl) ?_ | refine ldP_o H (by repeat (first | exact Pick.here | apply Pick.there)) (by rfl) ?_ | refine ldS_o H (by repeat (first | exact Pick.here | apply Pick.there)) (by rfl) ?_)
  refine loop_o (fun (st : Int × Int) L => ∃ k : Nat, k ≤ ws.length ∧ st = (((mems (ws.take k)).length : Int), (k : Int)) ∧ L = [row b [.slice p ws.length c] t, own tWord 1 (.slice p ws.length c) ws.length (u64s ws)]) (fun (st : Int × Int) => ((ws.length : Int) - st.2).toNat) H ⟨0, by omega, by simp [mems], rfl⟩ ?_
  rintro _ _ wx ⟨k, hk, rfl, rfl⟩ H
  unfold sets_Set_int_Len_l0
  refine cnd_i (fun h => ?_) fun h => ?_
  · have h := of_decide_eq_true h
    dsimp only at h
    refine ⟨⟨by dsimp only; omega, h⟩, ?_⟩
    rw [Int.toNat_natCast]
    have hk' : k < ws.length := by omega
    refine old_o H (by repeat (first | exact Pick.here | apply Pick.there)) (u64s_get hk') ?_
    refine call_p H (tri_plain (ones_plain (h2 _ (List.getElem_mem hk')))) (by repeat (first | exact Cut.nil | (apply Cut.cons; (repeat (first | exact Pick.here | apply Pick.there))))) fun wx H => ?_
    have hl := mems_length (ws.take (k + 1))
    have hl2 := congrArg List.length (mems_take h2 hk')
    simp only [List.length_append, List.length_map, List.length_take] at hl hl2
    refine ⟨_, rfl, ⟨_, ⟨k + 1, by omega, ?_, rfl⟩, H⟩, ?_⟩
    · dsimp only
      rw [W_id (by omega) (by omega), W_id (by omega) (by omega), hl2]; push_cast; rfl
    · dsimp only
      rw [W_id (n := (k : Int) + 1) (by omega) (by omega)]; omega
  · have h := of_decide_eq_false h
    dsimp only at h
    have : k = ws.length := by omega
    subst this
    rw [List.take_length]
    exact ⟨_, ⟨rfl, rfl⟩, set_shut H rfl rfl rfl h2 h3⟩
theorem cloneW_t (i : It) {p : Option Addr} {c : Nat} {ws : List Nat} (hi : ∀ w S, i.h w S → Sl w p (u64s ws)) (hl : ws.length ≤ 1000000) :
    Tri P F.slices_Clone__uint64_uint64 [.slice p ws.length c] [i] fun v L' => ∃ p' c', v = .slice p' ws.length c' ∧ L' = [own tWord 1 (.slice p' ws.length c') ws.length (u64s ws), i] := by
  intro w S hS
  refine slices_Clone__uint64_uint64_cv ?_
  unfold slices_Clone__uint64_uint64
  have H := Own.start hS
  refine cnd_i (fun h => ?_) fun h => ?_
  · have : p = none := by cases p <;> simp_all
    subst this
    have := sl_nil (hi w S (sep_one.1 hS))
    have : ws = [] := by cases ws <;> simp_all [u64s]
    subst this
    exact ⟨_, ⟨none, 0, rfl, rfl⟩, own_nil H⟩
  · refine alc_i fun w1 hB1 h1 hs1 => ?_
    have hown : w1.ownsRow w.heap.size tWord 1 (.slice (some ⟨w.heap.size, 0, none⟩) 0 0) 0 [] :=
      ⟨by simp, .inr ⟨w.heap.size, 0, #[], rfl, Nat.le_refl _, h1, Nat.le_refl _, by simp [maxLen], by simp, by simp⟩⟩
    have H1 := own_add H (hB1 _ (Nat.le_refl _)) hown (Nat.le_refl _)
    refine app_o appWords (by omega) H1 .here (H1.rd (i := i) (.there .here) hi) (by rw [u64s_length]; simp) (u64s_one ws) (by unfold maxLen; omega) (by omega) fun p' c' wx H => ?_
    simp only [Nat.zero_add, List.nil_append] at H ⊢
    exact ⟨_, ⟨p', c', rfl, rfl⟩, H⟩
theorem copy_set_t (b : Nat) (l : List Nat) : Tri P F.sets_Set_int_Copy [ptrV b] [setI b l] fun v L' => ∃ b', v = ptrV b' ∧ L' = [setI b' l, setI b l] := by
  intro w S hS
  refine sets_Set_int_Copy_cv ?_
  unfold sets_Set_int_Copy
  have H := Own.start hS
  obtain ⟨ws, p, c, t, rfl, h2, h3, H⟩ := set_open H (by repeat (first | exact Pick.here | apply Pick.there))
  repeat (first | refine ldI_o H (by repeat (first | exact Pick.here | apply Pick.there)) (by rfl) ?_ | refine ldL_o H (by repeat (first | exact Pick.here | apply Pick.there)) (by rfl) ?_ | refine ldB_o H (by repeat (first | exact Pick.here | apply Pick.there)) (by rfl) ?_ | refine ldP_o H (by repeat (first | exact Pick.here | apply Pick.there)) (by rfl) ?_ | refine ldS_o H (by repeat (first | exact Pick.here | apply Pick.there)) (by rfl) ?_)
  refine call_o H (cloneW_t (own tWord 1 (.slice p ws.length c) ws.length (u64s ws)) own_sl (by omega)) (by repeat (first | exact Cut.nil | (apply Cut.cons; (repeat (first | exact Pick.here | apply Pick.there))))) fun vx L' wx hq H => ?_
  obtain ⟨p', c', rfl, rfl⟩ := hq
  simp only [List.cons_append, List.nil_append] at H
  refine ⟨_, _, _, rfl, ?_⟩
  refine alc_o H fun bx wx H => ?_
  have H1 := set_shut (F := [own tWord 1 (.slice p ws.length c) ws.length (u64s ws), row b [.slice p ws.length c] t]) H rfl rfl rfl h2 h3
  have H2 := set_shut (F := [setI bx (mems ws)]) (H1.drop (by repeat (first | exact Cut.nil | (apply Cut.cons; (repeat (first | exact Pick.here | apply Pick.there)))))) rfl rfl rfl h2 h3
  exact ⟨_, ⟨bx, rfl, rfl⟩, H2.drop (by repeat (first | exact Cut.nil | (apply Cut.cons; (repeat (first | exact Pick.here | apply Pick.there)))))⟩
/-- a row of numbers that an argument holds -/
def ofL (ms : List Int) : List Nat := ms.foldl putL []
theorem putL_has' (l : List Nat) (hl : Up l) (m : Int) : (if hasL l m then l else putL l m) = putL l m := by
  split
  · rename_i h; exact (putL_has hl h).symm
  · rfl
theorem foldl_putL_up (ms : List Int) : ∀ {l : List Nat}, Up l → Up (ms.foldl putL l) := by
  induction ms with
  | nil => intro l h; exact h
  | cons m r ih => intro l h; exact ih (putL_up h)
theorem ofL_up (ms : List Int) : Up (ofL ms) := foldl_putL_up ms List.Pairwise.nil
theorem of_set_t (i : It) {p : Option Addr} {c : Nat} {ms : List Int} (hi : ∀ w S, i.h w S → Sl w p (i64s ms)) (hl : ms.length ≤ 9223372036854775807) :
    Tri P F.sets_Of_int [.slice p ms.length c] [i] fun v L' => ∃ b, v = ptrV b ∧ L' = [setI b (ofL ms), i] := by
  intro w S hS
  refine sets_Of_int_cv ?_
  unfold sets_Of_int
  have H := Own.start hS
  refine alc_o H fun bx wx H => ?_
  have H := own_nil (e := tWord) (size := 1) H
  have H := set_shut (b := bx) (l := []) (ws := []) (F := [i]) (H.drop (by repeat (first | exact Cut.nil | (apply Cut.cons; (repeat (first | exact Pick.here | apply Pick.there)))))) rfl rfl rfl (by simp) (by simp)
  refine loop_o (fun (st : Int) L => ∃ k : Nat, k ≤ ms.length ∧ st = k ∧ L = [setI bx (ofL (ms.take k)), i]) (fun (st : Int) => ((ms.length : Int) - st).toNat) H ⟨0, by omega, rfl, rfl⟩ ?_
  rintro _ _ wx ⟨k, hk, rfl, rfl⟩ H
  unfold sets_Of_int_l0
  refine cnd_i (fun h => ?_) fun h => ?_
  · have h := of_decide_eq_true h
    have hk' : k < ms.length := by omega
    refine ⟨⟨by omega, h⟩, ?_⟩
    rw [Int.toNat_natCast]
    obtain ⟨a, rfl, hcell⟩ := H.rd (i := i) (by repeat (first | exact Pick.here | apply Pick.there)) hi k _ (i64s_get hk')
    refine ⟨_, by rw [Nat.mul_one]; exact hcell, ?_⟩
    refine call_o H (put_t bx (ofL (ms.take k)) ms[k]) (by repeat (first | exact Cut.nil | (apply Cut.cons; (repeat (first | exact Pick.here | apply Pick.there))))) fun vx L' wx hq H => ?_
    obtain ⟨rfl, rfl⟩ := hq
    simp only [List.cons_append, List.nil_append] at H
    rw [putL_has' _ (ofL_up _)] at H
    refine ⟨_, rfl, ⟨_, ⟨k + 1, by omega, ?_, ?_⟩, H⟩, ?_⟩
    · rw [W_id (by omega) (by omega)]; rfl
    · unfold ofL; rw [List.take_succ_eq_append_getElem hk', List.foldl_append]; rfl
    · rw [W_id (by omega) (by omega)]
      show ((ms.length : Int) - ((k : Int) + 1)).toNat < ((ms.length : Int) - (k : Int)).toNat
      omega
  · have h := of_decide_eq_false h
    have : k = ms.length := by omega
    subst this
    rw [List.take_length] at H
    exact ⟨_, ⟨bx, rfl, rfl⟩, H⟩
end Go.Proofs.YtlccemphlinecaaDoor
