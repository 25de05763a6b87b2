/-
  cmd: a command in the document's memory.
-/
import Derived.Test.YtggmapokmlbgbaaDoorE10
namespace Go.Proofs.YtggmapokmlbgbaaDoor
open Go Go.RowKit X
set_option maxRecDepth 100000
set_option linter.unusedVariables false
set_option linter.unusedSimpArgs false
set_option maxHeartbeats 1000000
theorem rd8_range {bs : List Int} (h : ∀ x ∈ bs, 0 ≤ x ∧ x < 256) (a off : Int) (k : Nat) : 0 ≤ rd8 bs a off k ∧ rd8 bs a off k < 2 ^ 64 := by
  unfold rd8
  have h1 := le_nonneg (bs := cut bs (a + offK off k).toNat 8) fun x hx => h x (cut_mem hx)
  have hl : (cut bs (a + offK off k).toNat 8).length ≤ 8 := by unfold cut; rw [List.length_take]; omega
  have hp : (256 : Int) ^ (cut bs (a + offK off k).toNat 8).length ≤ 256 ^ 8 := by
    have : (256 : Nat) ^ (cut bs (a + offK off k).toNat 8).length ≤ 256 ^ 8 := Nat.pow_le_pow_right (by omega) hl
    exact_mod_cast this
  have h8 : (256 : Int) ^ 8 = 18446744073709551616 := by decide
  exact ⟨h1.1, by omega⟩
theorem refLoad_t (b : Nat) (bs : List Int) (a s off : Int) : Tri P F.crierref16_Load [ptr b, winV a s, .int .i64 off] [memI b bs] fun v L' => v = loadV bs a s off ∧ L' = [memI b bs] := by
  intro w S hS
  refine crierref16_Load_cv ?_
  unfold crierref16_Load
  have H := Own.start hS
  obtain ⟨hr, hlen⟩ := mem_bounds H (b := b) (bs := bs) .here
  refine alc_o H fun b5 wx H => alc_o H fun b7 wx H => alc_o H fun b9 wx H => ?_
  refine loop_o (fun (st : Int) L => ∃ k : Nat, k ≤ 4 ∧ (∀ j, j < k → errE bs.length a s (offK off j) 8 = 0) ∧ st = k ∧ L = [row b9 (wI (rds bs a off k)) tW4, row b7 [.int .i64 0, .int .i64 0, .int .i64 0, .int .i64 0, .int .i64 0, .int .i64 0, .int .i64 0, .int .i64 0, .bool false] tCmd, row b5 [.int .i64 a, .int .i64 s] tWin, memI b bs])
    (fun (st : Int) => (4 - st).toNat) H ⟨0, by omega, fun _ h => absurd h (by omega), rfl, rfl⟩ ?_
  rintro _ _ wx ⟨k, hk, hg, rfl, rfl⟩ H
  unfold crierref16_Load_l0
  refine cnd_i (fun hc => ?_) fun hc => ?_
  · have hc := of_decide_eq_true hc
    have hk4 : k < 4 := by omega
    repeat (first | refine ldI_o H (by repeat (first | exact Pick.here | apply Pick.there)) (by rfl) ?_ | refine ldL_o H (by repeat (first | exact Pick.here | apply Pick.there)) (by rfl) ?_ | refine ldB_o H (by repeat (first | exact Pick.here | apply Pick.there)) (by rfl) ?_ | refine ldP_o H (by repeat (first | exact Pick.here | apply Pick.there)) (by rfl) ?_ | refine ldS_o H (by repeat (first | exact Pick.here | apply Pick.there)) (by rfl) ?_)
    refine call_p H (refRead_t b bs a s (offK off k) 8) (by repeat (first | exact Cut.nil | (apply Cut.cons; (repeat (first | exact Pick.here | apply Pick.there))))) fun wx H => ?_
    unfold readV
    have e1 : IntKind.i64.wrap ((k : Int) + 1) = ((k + 1 : Nat) : Int) := by rw [W_id (by omega) (by omega)]; push_cast; rfl
    by_cases he : errE bs.length a s (offK off k) 8 = 0
    · rw [if_pos he]
      refine ⟨_, _, rfl, cnd_i (fun h => by cases h) fun _ => ?_⟩
      refine ix_i hk4 ?_
      rw [add_lit, Nat.mul_one, Nat.zero_add, e1]
      refine st1_o H (by repeat (first | exact Rep.here | apply Rep.there)) (by rw [wI_length]; exact hk4) fun wx H => ⟨⟨_, ⟨k + 1, by omega, ?_, rfl, rfl⟩, ?_⟩, by omega⟩
      · intro j hj
        by_cases e : j = k
        · rw [e]; exact he
        · exact hg j (by omega)
      · rw [wI_set] at H
        rw [← rds_next bs a off hk4]
        exact H
    · rw [if_neg he]
      refine ⟨_, _, rfl, cnd_i (fun _ => ?_) (fun h => absurd (by simpa using h) he)⟩
      refine st1_o H (by repeat (first | exact Rep.here | apply Rep.there)) (by simp) fun wx H => ?_
      refine st1_o H (by repeat (first | exact Rep.here | apply Rep.there)) (by simp) fun wx H => ?_
      refine st1_o H (by repeat (first | exact Rep.here | apply Rep.there)) (by simp) fun wx H => ?_
      refine st1_o H (by repeat (first | exact Rep.here | apply Rep.there)) (by simp) fun wx H => ?_
      refine st1_o H (by repeat (first | exact Rep.here | apply Rep.there)) (by simp) fun wx H => ?_
      refine st1_o H (by repeat (first | exact Rep.here | apply Rep.there)) (by simp) fun wx H => ?_
      refine st1_o H (by repeat (first | exact Rep.here | apply Rep.there)) (by simp) fun wx H => ?_
      refine st1_o H (by repeat (first | exact Rep.here | apply Rep.there)) (by simp) fun wx H => ?_
      refine st1_o H (by repeat (first | exact Rep.here | apply Rep.there)) (by simp) fun wx H => ?_
      repeat (first | refine ldI_o H (by repeat (first | exact Pick.here | apply Pick.there)) (by rfl) ?_ | refine ldL_o H (by repeat (first | exact Pick.here | apply Pick.there)) (by rfl) ?_ | refine ldB_o H (by repeat (first | exact Pick.here | apply Pick.there)) (by rfl) ?_ | refine ldP_o H (by repeat (first | exact Pick.here | apply Pick.there)) (by rfl) ?_ | refine ldS_o H (by repeat (first | exact Pick.here | apply Pick.there)) (by rfl) ?_)
      have hl : ldOk bs.length a s off = false := by
        unfold ldOk
        refine Bool.eq_false_iff.2 fun h => he ?_
        exact of_decide_eq_true (List.all_eq_true.1 h k (List.mem_range.2 hk4))
      have e : loadM bs a s off = (cm0, 42) := by unfold loadM; rw [hl]; rfl
      exact ⟨_, ⟨by unfold loadV; rw [e]; rfl, rfl⟩, H.drop (by repeat (first | exact Cut.nil | (apply Cut.cons; (repeat (first | exact Pick.here | apply Pick.there)))))⟩
  · have hc := of_decide_eq_false hc
    have : k = 4 := by omega
    subst this
    have hl : ldOk bs.length a s off = true := by
      unfold ldOk
      exact List.all_eq_true.2 fun k hk => decide_eq_true (hg k (List.mem_range.1 hk))
    repeat (first | refine ldI_o H (by repeat (first | exact Pick.here | apply Pick.there)) (by rfl) ?_ | refine ldL_o H (by repeat (first | exact Pick.here | apply Pick.there)) (by rfl) ?_ | refine ldB_o H (by repeat (first | exact Pick.here | apply Pick.there)) (by rfl) ?_ | refine ldP_o H (by repeat (first | exact Pick.here | apply Pick.there)) (by rfl) ?_ | refine ldS_o H (by repeat (first | exact Pick.here | apply Pick.there)) (by rfl) ?_)
    refine call_p H (refDecode_t (rd8 bs a off 0) (rd8 bs a off 1) (rd8 bs a off 2) (rd8 bs a off 3) ?_) (by repeat (first | exact Cut.nil | (apply Cut.cons; (repeat (first | exact Pick.here | apply Pick.there))))) fun wx H => ?_
    · intro x hx
      simp only [List.mem_cons, List.not_mem_nil, or_false] at hx
      rcases hx with rfl | rfl | rfl | rfl <;> exact rd8_range hr _ _ _
    have hrd : rds bs a off 4 = [rd8 bs a off 0, rd8 bs a off 1, rd8 bs a off 2, rd8 bs a off 3] := rfl
    unfold refDecV
    rw [← hrd]
    cases hd : decM (rds bs a off 4) with
    | none =>
      have e : loadM bs a s off = (cm0, 160) := by unfold loadM; rw [hl, if_pos rfl, hd]
      refine ⟨_, _, _, _, _, _, _, _, _, _, rfl, alc_o H fun b57 wx H => ?_⟩
      refine st1_o H (by repeat (first | exact Rep.here | apply Rep.there)) (by simp) fun wx H => ?_
      refine st1_o H (by repeat (first | exact Rep.here | apply Rep.there)) (by simp) fun wx H => ?_
      refine st1_o H (by repeat (first | exact Rep.here | apply Rep.there)) (by simp) fun wx H => ?_
      refine st1_o H (by repeat (first | exact Rep.here | apply Rep.there)) (by simp) fun wx H => ?_
      refine st1_o H (by repeat (first | exact Rep.here | apply Rep.there)) (by simp) fun wx H => ?_
      refine st1_o H (by repeat (first | exact Rep.here | apply Rep.there)) (by simp) fun wx H => ?_
      refine st1_o H (by repeat (first | exact Rep.here | apply Rep.there)) (by simp) fun wx H => ?_
      refine st1_o H (by repeat (first | exact Rep.here | apply Rep.there)) (by simp) fun wx H => ?_
      refine st1_o H (by repeat (first | exact Rep.here | apply Rep.there)) (by simp) fun wx H => ?_
      refine cnd_i (fun _ => ?_) (fun h => by cases h)
      refine st1_o H (by repeat (first | exact Rep.here | apply Rep.there)) (by simp) fun wx H => ?_
      refine st1_o H (by repeat (first | exact Rep.here | apply Rep.there)) (by simp) fun wx H => ?_
      refine st1_o H (by repeat (first | exact Rep.here | apply Rep.there)) (by simp) fun wx H => ?_
      refine st1_o H (by repeat (first | exact Rep.here | apply Rep.there)) (by simp) fun wx H => ?_
      refine st1_o H (by repeat (first | exact Rep.here | apply Rep.there)) (by simp) fun wx H => ?_
      refine st1_o H (by repeat (first | exact Rep.here | apply Rep.there)) (by simp) fun wx H => ?_
      refine st1_o H (by repeat (first | exact Rep.here | apply Rep.there)) (by simp) fun wx H => ?_
      refine st1_o H (by repeat (first | exact Rep.here | apply Rep.there)) (by simp) fun wx H => ?_
      refine st1_o H (by repeat (first | exact Rep.here | apply Rep.there)) (by simp) fun wx H => ?_
      repeat (first | refine ldI_o H (by repeat (first | exact Pick.here | apply Pick.there)) (by rfl) ?_ | refine ldL_o H (by repeat (first | exact Pick.here | apply Pick.there)) (by rfl) ?_ | refine ldB_o H (by repeat (first | exact Pick.here | apply Pick.there)) (by rfl) ?_ | refine ldP_o H (by repeat (first | exact Pick.here | apply Pick.there)) (by rfl) ?_ | refine ldS_o H (by repeat (first | exact Pick.here | apply Pick.there)) (by rfl) ?_)
      exact ⟨_, ⟨by unfold loadV; rw [e]; rfl, rfl⟩, H.drop (by repeat (first | exact Cut.nil | (apply Cut.cons; (repeat (first | exact Pick.here | apply Pick.there)))))⟩
    | some c =>
      have e : loadM bs a s off = (c, 0) := by unfold loadM; rw [hl, if_pos rfl, hd]
      refine ⟨_, _, _, _, _, _, _, _, _, _, rfl, alc_o H fun b57 wx H => ?_⟩
      refine st1_o H (by repeat (first | exact Rep.here | apply Rep.there)) (by simp) fun wx H => ?_
      refine st1_o H (by repeat (first | exact Rep.here | apply Rep.there)) (by simp) fun wx H => ?_
      refine st1_o H (by repeat (first | exact Rep.here | apply Rep.there)) (by simp) fun wx H => ?_
      refine st1_o H (by repeat (first | exact Rep.here | apply Rep.there)) (by simp) fun wx H => ?_
      refine st1_o H (by repeat (first | exact Rep.here | apply Rep.there)) (by simp) fun wx H => ?_
      refine st1_o H (by repeat (first | exact Rep.here | apply Rep.there)) (by simp) fun wx H => ?_
      refine st1_o H (by repeat (first | exact Rep.here | apply Rep.there)) (by simp) fun wx H => ?_
      refine st1_o H (by repeat (first | exact Rep.here | apply Rep.there)) (by simp) fun wx H => ?_
      refine st1_o H (by repeat (first | exact Rep.here | apply Rep.there)) (by simp) fun wx H => ?_
      refine cnd_i (fun h => by cases h) fun _ => ?_
      repeat (first | refine ldI_o H (by repeat (first | exact Pick.here | apply Pick.there)) (by rfl) ?_ | refine ldL_o H (by repeat (first | exact Pick.here | apply Pick.there)) (by rfl) ?_ | refine ldB_o H (by repeat (first | exact Pick.here | apply Pick.there)) (by rfl) ?_ | refine ldP_o H (by repeat (first | exact Pick.here | apply Pick.there)) (by rfl) ?_ | refine ldS_o H (by repeat (first | exact Pick.here | apply Pick.there)) (by rfl) ?_)
      refine st1_o H (by repeat (first | exact Rep.here | apply Rep.there)) (by simp) fun wx H => ?_
      refine st1_o H (by repeat (first | exact Rep.here | apply Rep.there)) (by simp) fun wx H => ?_
      refine st1_o H (by repeat (first | exact Rep.here | apply Rep.there)) (by simp) fun wx H => ?_
      refine st1_o H (by repeat (first | exact Rep.here | apply Rep.there)) (by simp) fun wx H => ?_
      refine st1_o H (by repeat (first | exact Rep.here | apply Rep.there)) (by simp) fun wx H => ?_
      refine st1_o H (by repeat (first | exact Rep.here | apply Rep.there)) (by simp) fun wx H => ?_
      refine st1_o H (by repeat (first | exact Rep.here | apply Rep.there)) (by simp) fun wx H => ?_
      refine st1_o H (by repeat (first | exact Rep.here | apply Rep.there)) (by simp) fun wx H => ?_
      refine st1_o H (by repeat (first | exact Rep.here | apply Rep.there)) (by simp) fun wx H => ?_
      repeat (first | refine ldI_o H (by repeat (first | exact Pick.here | apply Pick.there)) (by rfl) ?_ | refine ldL_o H (by repeat (first | exact Pick.here | apply Pick.there)) (by rfl) ?_ | refine ldB_o H (by repeat (first | exact Pick.here | apply Pick.there)) (by rfl) ?_ | refine ldP_o H (by repeat (first | exact Pick.here | apply Pick.there)) (by rfl) ?_ | refine ldS_o H (by repeat (first | exact Pick.here | apply Pick.there)) (by rfl) ?_)
      exact ⟨_, ⟨by unfold loadV; rw [e]; rfl, rfl⟩, H.drop (by repeat (first | exact Cut.nil | (apply Cut.cons; (repeat (first | exact Pick.here | apply Pick.there)))))⟩
theorem refStore_t (b : Nat) (bs : List Int) (a s off : Int) (c : Cm) (hI : -9223372036854775808 ≤ c.addr ∧ c.addr ≤ 9223372036854775807) : Tri P F.crierref16_Store [ptr b, winV a s, .int .i64 off, cmV c] [memI b bs] fun v L' => v = .int .i64 (storeE bs.length a s off c) ∧ L' = [memI b (storeM bs a s off c)] := by
  intro w S hS
  refine crierref16_Store_cv ?_
  unfold crierref16_Store
  have H := Own.start hS
  obtain ⟨hr, hlen⟩ := mem_bounds H (b := b) (bs := bs) .here
  refine alc_o H fun b14 wx H => alc_o H fun b16 wx H => ?_
  repeat (first | refine ldI_o H (by repeat (first | exact Pick.here | apply Pick.there)) (by rfl) ?_ | refine ldL_o H (by repeat (first | exact Pick.here | apply Pick.there)) (by rfl) ?_ | refine ldB_o H (by repeat (first | exact Pick.here | apply Pick.there)) (by rfl) ?_ | refine ldP_o H (by repeat (first | exact Pick.here | apply Pick.there)) (by rfl) ?_ | refine ldS_o H (by repeat (first | exact Pick.here | apply Pick.there)) (by rfl) ?_)
  refine call_p H (refEncode_t c hI) (by repeat (first | exact Cut.nil | (apply Cut.cons; (repeat (first | exact Pick.here | apply Pick.there))))) fun wx H => ?_
  have hre := ref_enc (c := c) hI
  cases he : encM c with
  | none =>
    have e : refV c = .tuple [.agg [.int .u64 0, .int .u64 0, .int .u64 0, .int .u64 0].toArray, .bool false].toArray := by unfold refV; rw [hre, he]; rfl
    rw [e]
    refine ⟨_, _, _, _, _, rfl, ?_⟩
    refine alc_o H fun b34 wx H => ?_
    refine st1_o H (by repeat (first | exact Rep.here | apply Rep.there)) (by simp) fun wx H => ?_
    refine st1_o H (by repeat (first | exact Rep.here | apply Rep.there)) (by simp) fun wx H => ?_
    refine st1_o H (by repeat (first | exact Rep.here | apply Rep.there)) (by simp) fun wx H => ?_
    refine st1_o H (by repeat (first | exact Rep.here | apply Rep.there)) (by simp) fun wx H => ?_
    refine cnd_i (fun _ => ⟨[memI b (storeM bs a s off c)], ⟨by unfold storeE; rw [he], rfl⟩, ?_⟩) (fun h => by cases h)
    unfold storeM
    rw [he]
    exact H.drop (by repeat (first | exact Cut.nil | (apply Cut.cons; (repeat (first | exact Pick.here | apply Pick.there)))))
  | some ws =>
    obtain ⟨h4, hwr⟩ := enc_range he
    obtain ⟨x0, x1, x2, x3, rfl⟩ := four h4
    have e : refV c = .tuple [.agg [.int .u64 x0, .int .u64 x1, .int .u64 x2, .int .u64 x3].toArray, .bool true].toArray := by unfold refV; rw [hre, he]; rfl
    rw [e]
    refine ⟨_, _, _, _, _, rfl, ?_⟩
    refine alc_o H fun b34 wx H => ?_
    refine st1_o H (by repeat (first | exact Rep.here | apply Rep.there)) (by simp) fun wx H => ?_
    refine st1_o H (by repeat (first | exact Rep.here | apply Rep.there)) (by simp) fun wx H => ?_
    refine st1_o H (by repeat (first | exact Rep.here | apply Rep.there)) (by simp) fun wx H => ?_
    refine st1_o H (by repeat (first | exact Rep.here | apply Rep.there)) (by simp) fun wx H => ?_
    refine cnd_i (fun h => by cases h) fun _ => join_o ?_
    repeat (first | refine ldI_o H (by repeat (first | exact Pick.here | apply Pick.there)) (by rfl) ?_ | refine ldL_o H (by repeat (first | exact Pick.here | apply Pick.there)) (by rfl) ?_ | refine ldB_o H (by repeat (first | exact Pick.here | apply Pick.there)) (by rfl) ?_ | refine ldP_o H (by repeat (first | exact Pick.here | apply Pick.there)) (by rfl) ?_ | refine ldS_o H (by repeat (first | exact Pick.here | apply Pick.there)) (by rfl) ?_)
    refine call_p H (refHolds_t b bs a s) (by repeat (first | exact Cut.nil | (apply Cut.cons; (repeat (first | exact Pick.here | apply Pick.there))))) fun wx H => ?_
    refine ⟨_, rfl, ?_⟩
    have bad : (mayE s off 8 ≠ 0 ∨ off > IntKind.i64.wrap (s - 32) ∨ holdsB bs.length a s = false) → ∀ wx, X.Own w S [row b34 [.int .u64 x0, .int .u64 x1, .int .u64 x2, .int .u64 x3] tW4, row b16 c.cells tCmd, row b14 [.int .i64 a, .int .i64 s] tWin, memI b bs] wx →
        crierref16_Store_j1 (some ⟨b, 0, none⟩) off (fun v w' => ∃ L', (v = .int .i64 (storeE bs.length a s off c) ∧ L' = [memI b (storeM bs a s off c)]) ∧ X.Own w S L' w') b14 b34 true wx := by
      intro hb wx H
      unfold crierref16_Store_j1
      refine cnd_i (fun _ => ⟨[memI b (storeM bs a s off c)], ⟨by unfold storeE; rw [he]; dsimp only; rw [if_pos hb], rfl⟩, ?_⟩) (fun h => by cases h)
      unfold storeM
      rw [he]
      dsimp only
      rw [if_pos hb]
      exact H.drop (by repeat (first | exact Cut.nil | (apply Cut.cons; (repeat (first | exact Pick.here | apply Pick.there)))))
    cases hh : holdsB bs.length a s
    · exact cnd_i (fun _ => bad (.inr (.inr hh)) _ H) (fun h => by cases h)
    obtain ⟨g1, g2, g3, g4⟩ := holdsB_iff.1 hh
    have hw8 : IntKind.i64.wrap (s - 8) = s - 8 := W_id (by omega) (by omega)
    have hw32 : IntKind.i64.wrap (s - 32) = s - 32 := W_id (by omega) (by omega)
    refine cnd_i (fun h => by cases h) fun _ => ⟨by omega, cnd_i (fun h => bad (.inl ?_) _ H) fun h => cnd_i (fun h2 => bad (.inl ?_) _ H) fun h2 => ?_⟩
    · have h : Int.tmod off 8 ≠ 0 := by simpa using h
      unfold mayE
      rw [if_neg (by omega), if_pos h]; omega
    · have h : Int.tmod off 8 = 0 := by simpa using h
      have h2 := of_decide_eq_true h2
      unfold mayE
      rw [if_neg (by omega), if_neg (by omega), if_pos (.inl h2)]; omega
    have h : Int.tmod off 8 = 0 := by simpa using h
    have h2 := of_decide_eq_false h2
    repeat (first | refine ldI_o H (by repeat (first | exact Pick.here | apply Pick.there)) (by rfl) ?_ | refine ldL_o H (by repeat (first | exact Pick.here | apply Pick.there)) (by rfl) ?_ | refine ldB_o H (by repeat (first | exact Pick.here | apply Pick.there)) (by rfl) ?_ | refine ldP_o H (by repeat (first | exact Pick.here | apply Pick.there)) (by rfl) ?_ | refine ldS_o H (by repeat (first | exact Pick.here | apply Pick.there)) (by rfl) ?_)
    by_cases h3 : off > IntKind.i64.wrap (s - 32)
    · rw [decide_eq_true h3]
      exact bad (.inr (.inl h3)) _ H
    rw [decide_eq_false h3]
    have hn : ¬ (mayE s off 8 ≠ 0 ∨ off > IntKind.i64.wrap (s - 32) ∨ holdsB bs.length a s = false) := by
      rw [hh]
      have : mayE s off 8 = 0 := by
        unfold mayE
        rw [if_neg (by omega), if_neg (by omega), if_neg (by omega)]
      rintro (h4 | h4 | h4)
      · exact h4 this
      · exact h3 h4
      · cases h4
    unfold crierref16_Store_j1
    refine cnd_i (fun h => by cases h) fun _ => ?_
    refine loop_o (fun (st : Int) L => ∃ k : Nat, k ≤ 4 ∧ st = k ∧ L = [row b34 [.int .u64 x0, .int .u64 x1, .int .u64 x2, .int .u64 x3] tW4, row b16 c.cells tCmd, row b14 [.int .i64 a, .int .i64 s] tWin, memI b (stW bs a s off [x0, x1, x2, x3] k)])
      (fun (st : Int) => (4 - st).toNat) H ⟨0, by omega, rfl, rfl⟩ ?_
    rintro _ _ wx ⟨k, hk, rfl, rfl⟩ H
    unfold crierref16_Store_l0
    refine cnd_i (fun hc => ?_) fun hc => ?_
    · have hc := of_decide_eq_true hc
      have hk4 : k < 4 := by omega
      have e1 : IntKind.i64.wrap ((k : Int) + 1) = ((k + 1 : Nat) : Int) := by rw [W_id (by omega) (by omega)]; push_cast; rfl
      have hv : 0 ≤ ([x0, x1, x2, x3] : List Int).getD k 0 ∧ ([x0, x1, x2, x3] : List Int).getD k 0 < 2 ^ 64 := by
        refine hwr _ ?_
        rw [List.getD_eq_getElem?_getD, List.getElem?_eq_getElem (by exact hk4)]
        exact List.getElem_mem _
      refine drw_o H fun wx H => ?_
      repeat (first | refine ldI_o H (by repeat (first | exact Pick.here | apply Pick.there)) (by rfl) ?_ | refine ldL_o H (by repeat (first | exact Pick.here | apply Pick.there)) (by rfl) ?_ | refine ldB_o H (by repeat (first | exact Pick.here | apply Pick.there)) (by rfl) ?_ | refine ldP_o H (by repeat (first | exact Pick.here | apply Pick.there)) (by rfl) ?_ | refine ldS_o H (by repeat (first | exact Pick.here | apply Pick.there)) (by rfl) ?_)
      refine ix_i hk4 ?_
      rw [add_lit, Nat.mul_one, Nat.zero_add]
      refine ldI_o H .here (wI_get (ws := [x0, x1, x2, x3]) hk4) ?_
      refine call_o H (refWrite_t b (stW bs a s off [x0, x1, x2, x3] k) a s (offK off k) 8 ([x0, x1, x2, x3].getD k 0) hv) (by repeat (first | exact Cut.nil | (apply Cut.cons; (repeat (first | exact Pick.here | apply Pick.there))))) fun vx L' wx hq H => ?_
      obtain ⟨rfl, rfl⟩ := hq
      simp only [List.cons_append, List.nil_append] at H
      refine ⟨_, rfl, ?_⟩
      rw [e1]
      exact ⟨⟨_, ⟨k + 1, by omega, rfl, rfl⟩, H.perm (L1 := [row b34 [.int .u64 x0, .int .u64 x1, .int .u64 x2, .int .u64 x3] tW4, row b16 c.cells tCmd, row b14 [.int .i64 a, .int .i64 s] tWin, memI b (stW bs a s off [x0, x1, x2, x3] (k + 1))]) (F := []) (by repeat (first | exact Cut.nil | (apply Cut.cons; (repeat (first | exact Pick.here | apply Pick.there)))))⟩, by omega⟩
    · have hc := of_decide_eq_false hc
      have : k = 4 := by omega
      subst this
      refine ⟨[memI b (storeM bs a s off c)], ⟨by unfold storeE; rw [he]; dsimp only; rw [if_neg hn], rfl⟩, ?_⟩
      unfold storeM
      rw [he]
      dsimp only
      rw [if_neg hn]
      exact H.drop (by repeat (first | exact Cut.nil | (apply Cut.cons; (repeat (first | exact Pick.here | apply Pick.there)))))
end Go.Proofs.YtggmapokmlbgbaaDoor
