/-
  tables: where a device's entry stands: the walk.
-/
import Derived.Test.YthoieihffbahpaaL1
namespace Go.Proofs.Ythoieihffbahpaa
open Go Go.RowKit X
set_option maxRecDepth 100000
set_option linter.unusedVariables false
set_option maxHeartbeats 1000000
theorem slot_t (b : Nat) (bs : List Int) (hr : ∀ x ∈ bs, 0 ≤ x ∧ x < 256) (hn : bs.length ≤ 131072) (a s pg id : Int) : Tri P F.tables_Table_slot [tabV a s pg, ptr b, .int .i64 id] [memI b bs] fun v L' => v = slotV (slotM bs a s pg id) ∧ L' = [memI b bs] := by
  intro w S hS
  refine tables_Table_slot_cv ?_
  unfold tables_Table_slot
  have H := Own.start hS
  refine alc_o H fun b6 wx H => alc_o H fun b8 wx H => ?_
  repeat (first | refine ldI_o H (by repeat (first | exact Pick.here | apply Pick.there)) (by rfl) ?_ | refine ldL_o H (by repeat (first | exact Pick.here | apply Pick.there)) (by rfl) ?_ | refine ldB_o H (by repeat (first | exact Pick.here | apply Pick.there)) (by rfl) ?_ | refine ldP_o H (by repeat (first | exact Pick.here | apply Pick.there)) (by rfl) ?_ | refine ldS_o H (by repeat (first | exact Pick.here | apply Pick.there)) (by rfl) ?_)
  refine call_p H (right_t b bs a s pg) (by repeat (first | exact Cut.nil | (apply Cut.cons; (repeat (first | exact Pick.here | apply Pick.there))))) fun wx H => ?_
  refine ⟨_, rfl, cnd_i (fun h => ?_) fun h => ?_⟩
  · have h : rightE bs.length a s pg ≠ 0 := by simpa using h
    refine st1_o H (by repeat (first | exact Rep.here | apply Rep.there)) (by simp) fun wx H => ?_
    refine st1_o H (by repeat (first | exact Rep.here | apply Rep.there)) (by simp) fun wx H => ?_
    repeat (first | refine ldI_o H (by repeat (first | exact Pick.here | apply Pick.there)) (by rfl) ?_ | refine ldL_o H (by repeat (first | exact Pick.here | apply Pick.there)) (by rfl) ?_ | refine ldB_o H (by repeat (first | exact Pick.here | apply Pick.there)) (by rfl) ?_ | refine ldP_o H (by repeat (first | exact Pick.here | apply Pick.there)) (by rfl) ?_ | refine ldS_o H (by repeat (first | exact Pick.here | apply Pick.there)) (by rfl) ?_)
    refine ⟨_, ⟨?_, rfl⟩, H.drop (by repeat (first | exact Cut.nil | (apply Cut.cons; (repeat (first | exact Pick.here | apply Pick.there)))))⟩
    rw [slotM, if_pos h]; simp [slotV, winV, h]
  have hri : rightE bs.length a s pg = 0 := by simpa using h
  have hh : holdsB bs.length a s = true := by
    cases hh : holdsB bs.length a s
    · simp [rightE, hh] at hri
    · rfl
  have hpb : pgBad pg = false := by
    cases hp : pgBad pg
    · rfl
    · simp [rightE, hh, hp] at hri
  have h4 := holdsB_iff.1 hh
  refine join_o ?_
  have out : (id < 0 ∨ id ≥ 131072) → tables_Table_slot_j3 (some ⟨b, 0, none⟩) id (fun v w' => ∃ L', (v = slotV (slotM bs a s pg id) ∧ L' = [memI b bs]) ∧ X.Own w S L' w') b6 b8 true wx := by
    intro ho
    unfold tables_Table_slot_j3
    refine cnd_i (fun _ => ?_) (fun h => by cases h)
    refine st1_o H (by repeat (first | exact Rep.here | apply Rep.there)) (by simp) fun wx H => ?_
    refine st1_o H (by repeat (first | exact Rep.here | apply Rep.there)) (by simp) fun wx H => ?_
    repeat (first | refine ldI_o H (by repeat (first | exact Pick.here | apply Pick.there)) (by rfl) ?_ | refine ldL_o H (by repeat (first | exact Pick.here | apply Pick.there)) (by rfl) ?_ | refine ldB_o H (by repeat (first | exact Pick.here | apply Pick.there)) (by rfl) ?_ | refine ldP_o H (by repeat (first | exact Pick.here | apply Pick.there)) (by rfl) ?_ | refine ldS_o H (by repeat (first | exact Pick.here | apply Pick.there)) (by rfl) ?_)
    refine ⟨_, ⟨?_, rfl⟩, H.drop (by repeat (first | exact Cut.nil | (apply Cut.cons; (repeat (first | exact Pick.here | apply Pick.there)))))⟩
    rw [slotM, if_neg (by omega), if_pos ho]; rfl
  refine cnd_i (fun h => out (.inl (of_decide_eq_true h))) fun h1 => ?_
  cases h2 : decide (id ≥ 131072)
  case true => exact out (.inr (of_decide_eq_true h2))
  clear out
  have h1 := of_decide_eq_false h1
  have h2 := of_decide_eq_false h2
  have es : slotM bs a s pg id = if pg = 0 then entM bs.length a s id
      else if (entM bs.length a s (id / (pg / 8))).2 ≠ 0 then (0, 180)
      else if w8 bs (entM bs.length a s (id / (pg / 8))).1.toNat < 9223372036854775808 then (0, 180)
      else entM bs.length (w8 bs (entM bs.length a s (id / (pg / 8))).1.toNat % 4294967296) pg (id % (pg / 8)) := by
    rw [slotM, if_neg (by omega), if_neg (by omega)]
  unfold tables_Table_slot_j3
  refine cnd_i (fun h => by cases h) fun _ => ?_
  repeat (first | refine ldI_o H (by repeat (first | exact Pick.here | apply Pick.there)) (by rfl) ?_ | refine ldL_o H (by repeat (first | exact Pick.here | apply Pick.there)) (by rfl) ?_ | refine ldB_o H (by repeat (first | exact Pick.here | apply Pick.there)) (by rfl) ?_ | refine ldP_o H (by repeat (first | exact Pick.here | apply Pick.there)) (by rfl) ?_ | refine ldS_o H (by repeat (first | exact Pick.here | apply Pick.there)) (by rfl) ?_)
  refine alc_o H fun b29 wx H => ?_
  refine st1_o H (by repeat (first | exact Rep.here | apply Rep.there)) (by simp) fun wx H => ?_
  refine st1_o H (by repeat (first | exact Rep.here | apply Rep.there)) (by simp) fun wx H => ?_
  simp only [List.set_cons_zero, List.set_cons_succ] at H
  -- the entry of the window that was found
  have tail : ∀ wa ws k wx, 0 ≤ k → k < 131072 → -9223372036854775808 ≤ ws ∧ ws ≤ 131072 → slotM bs a s pg id = entM bs.length wa ws k →
      X.Own w S [row b29 [.int .i64 wa, .int .i64 ws] T.t30, row b8 [.int .i64 0, .int .i64 0] T.t30, row b6 [.int .i64 a, .int .i64 s, .int .i64 pg] T.t32, memI b bs] wx →
      tables_Table_slot_j1 (some ⟨b, 0, none⟩) (fun v w' => ∃ L', (v = slotV (slotM bs a s pg id) ∧ L' = [memI b bs]) ∧ X.Own w S L' w') b8 b29 k wx := by
    intro wa ws k wx hk0 hk1 hws he H
    unfold tables_Table_slot_j1
    repeat (first | refine ldI_o H (by repeat (first | exact Pick.here | apply Pick.there)) (by rfl) ?_ | refine ldL_o H (by repeat (first | exact Pick.here | apply Pick.there)) (by rfl) ?_ | refine ldB_o H (by repeat (first | exact Pick.here | apply Pick.there)) (by rfl) ?_ | refine ldP_o H (by repeat (first | exact Pick.here | apply Pick.there)) (by rfl) ?_ | refine ldS_o H (by repeat (first | exact Pick.here | apply Pick.there)) (by rfl) ?_)
    rw [W_id (n := k * 8) (by omega) (by omega)]
    refine call_p H (tri_plain (Part_plain wa ws (k * 8) 8)) (by repeat (first | exact Cut.nil | (apply Cut.cons; (repeat (first | exact Pick.here | apply Pick.there))))) fun wx H => ?_
    have bad : ∀ wx bz x y, (entM bs.length wa ws k).2 ≠ 0 → X.Own w S [row bz [.int .i64 x, .int .i64 y] T.t30, row b29 [.int .i64 wa, .int .i64 ws] T.t30, row b8 [.int .i64 0, .int .i64 0] T.t30, row b6 [.int .i64 a, .int .i64 s, .int .i64 pg] T.t32, memI b bs] wx →
        tables_Table_slot_j0 (fun v w' => ∃ L', (v = slotV (slotM bs a s pg id) ∧ L' = [memI b bs]) ∧ X.Own w S L' w') b8 bz true wx := by
      intro wx bz x y hne H
      unfold tables_Table_slot_j0
      refine cnd_i (fun _ => ?_) (fun h => by cases h)
      refine st1_o H (by repeat (first | exact Rep.here | apply Rep.there)) (by simp) fun wx H => ?_
      refine st1_o H (by repeat (first | exact Rep.here | apply Rep.there)) (by simp) fun wx H => ?_
      repeat (first | refine ldI_o H (by repeat (first | exact Pick.here | apply Pick.there)) (by rfl) ?_ | refine ldL_o H (by repeat (first | exact Pick.here | apply Pick.there)) (by rfl) ?_ | refine ldB_o H (by repeat (first | exact Pick.here | apply Pick.there)) (by rfl) ?_ | refine ldP_o H (by repeat (first | exact Pick.here | apply Pick.there)) (by rfl) ?_ | refine ldS_o H (by repeat (first | exact Pick.here | apply Pick.there)) (by rfl) ?_)
      refine ⟨_, ⟨?_, rfl⟩, H.drop (by repeat (first | exact Cut.nil | (apply Cut.cons; (repeat (first | exact Pick.here | apply Pick.there)))))⟩
      rw [he]
      unfold entM at hne ⊢
      split at hne
      · exact absurd rfl hne
      · rename_i hc; rw [if_neg hc]; rfl
    by_cases hc : fairB wa ws = true ∧ 0 ≤ k * 8 ∧ (0 : Int) ≤ 8 ∧ 8 ≤ ws ∧ k * 8 ≤ ws - 8
    · rw [cond_true hc]
      refine ⟨_, _, _, rfl, alc_o H fun bz wx H => ?_⟩
      refine st1_o H (by repeat (first | exact Rep.here | apply Rep.there)) (by simp) fun wx H => ?_
      refine st1_o H (by repeat (first | exact Rep.here | apply Rep.there)) (by simp) fun wx H => ?_
      simp only [List.set_cons_zero, List.set_cons_succ] at H
      refine join_o (cnd_i (fun h => by cases h) fun _ => ?_)
      repeat (first | refine ldI_o H (by repeat (first | exact Pick.here | apply Pick.there)) (by rfl) ?_ | refine ldL_o H (by repeat (first | exact Pick.here | apply Pick.there)) (by rfl) ?_ | refine ldB_o H (by repeat (first | exact Pick.here | apply Pick.there)) (by rfl) ?_ | refine ldP_o H (by repeat (first | exact Pick.here | apply Pick.there)) (by rfl) ?_ | refine ldS_o H (by repeat (first | exact Pick.here | apply Pick.there)) (by rfl) ?_)
      refine call_p H (holds_t b bs wa ws) (by repeat (first | exact Cut.nil | (apply Cut.cons; (repeat (first | exact Pick.here | apply Pick.there))))) fun wx H => ?_
      refine ⟨_, rfl, ?_⟩
      cases hw : holdsB bs.length wa ws
      · exact bad _ bz _ _ (by simp [entM, hw]) H
      · unfold tables_Table_slot_j0
        refine cnd_i (fun h => by cases h) fun _ => ?_
        repeat (first | refine ldI_o H (by repeat (first | exact Pick.here | apply Pick.there)) (by rfl) ?_ | refine ldL_o H (by repeat (first | exact Pick.here | apply Pick.there)) (by rfl) ?_ | refine ldB_o H (by repeat (first | exact Pick.here | apply Pick.there)) (by rfl) ?_ | refine ldP_o H (by repeat (first | exact Pick.here | apply Pick.there)) (by rfl) ?_ | refine ldS_o H (by repeat (first | exact Pick.here | apply Pick.there)) (by rfl) ?_)
        refine st1_o H (by repeat (first | exact Rep.here | apply Rep.there)) (by simp) fun wx H => ?_
        refine st1_o H (by repeat (first | exact Rep.here | apply Rep.there)) (by simp) fun wx H => ?_
        repeat (first | refine ldI_o H (by repeat (first | exact Pick.here | apply Pick.there)) (by rfl) ?_ | refine ldL_o H (by repeat (first | exact Pick.here | apply Pick.there)) (by rfl) ?_ | refine ldB_o H (by repeat (first | exact Pick.here | apply Pick.there)) (by rfl) ?_ | refine ldP_o H (by repeat (first | exact Pick.here | apply Pick.there)) (by rfl) ?_ | refine ldS_o H (by repeat (first | exact Pick.here | apply Pick.there)) (by rfl) ?_)
        refine ⟨_, ⟨?_, rfl⟩, H.drop (by repeat (first | exact Cut.nil | (apply Cut.cons; (repeat (first | exact Pick.here | apply Pick.there)))))⟩
        rw [he, entM, if_pos ⟨hw, hk0, by omega⟩]
        have := holdsB_iff.1 hw
        simp [slotV, winV]; omega
    · rw [cond_false hc]
      refine ⟨_, _, _, rfl, alc_o H fun bz wx H => ?_⟩
      refine st1_o H (by repeat (first | exact Rep.here | apply Rep.there)) (by simp) fun wx H => ?_
      refine st1_o H (by repeat (first | exact Rep.here | apply Rep.there)) (by simp) fun wx H => ?_
      simp only [List.set_cons_zero, List.set_cons_succ] at H
      refine join_o (cnd_i (fun _ => bad _ bz _ _ ?_ H) (fun h => by cases h))
      unfold entM
      split
      · rename_i hx
        have := holdsB_iff.1 hx.1
        exact absurd ⟨fairB_iff.2 (by omega), by omega, by omega, by omega, by omega⟩ hc
      · simp
  refine join_o (ldI_o H (by repeat (first | exact Pick.here | apply Pick.there)) (by rfl) (cnd_i (fun hp => ?_) fun hp => ?_))
  · have hp0 : pg ≠ 0 := by simpa using hp
    obtain ⟨p1, p2⟩ := pg_pos hpb hp0
    rw [if_neg hp0] at es
    repeat (first | refine ldI_o H (by repeat (first | exact Pick.here | apply Pick.there)) (by rfl) ?_ | refine ldL_o H (by repeat (first | exact Pick.here | apply Pick.there)) (by rfl) ?_ | refine ldB_o H (by repeat (first | exact Pick.here | apply Pick.there)) (by rfl) ?_ | refine ldP_o H (by repeat (first | exact Pick.here | apply Pick.there)) (by rfl) ?_ | refine ldS_o H (by repeat (first | exact Pick.here | apply Pick.there)) (by rfl) ?_)
    refine ⟨by omega, ?_⟩
    refine drw_o H fun wx H => ?_
    repeat (first | refine ldI_o H (by repeat (first | exact Pick.here | apply Pick.there)) (by rfl) ?_ | refine ldL_o H (by repeat (first | exact Pick.here | apply Pick.there)) (by rfl) ?_ | refine ldB_o H (by repeat (first | exact Pick.here | apply Pick.there)) (by rfl) ?_ | refine ldP_o H (by repeat (first | exact Pick.here | apply Pick.there)) (by rfl) ?_ | refine ldS_o H (by repeat (first | exact Pick.here | apply Pick.there)) (by rfl) ?_)
    have ediv : IntKind.i64.wrap (Int.tdiv pg 8) = pg / 8 := by rw [Int.tdiv_eq_ediv_of_nonneg (by omega), W_id (by omega) (by omega)]
    rw [ediv]
    have hq1 : 1 ≤ pg / 8 := by omega
    have hq2 : 0 ≤ id / (pg / 8) := Int.ediv_nonneg (by omega) (by omega)
    have hq3 : id / (pg / 8) ≤ id := Int.ediv_le_self _ (by omega)
    have hq4 : 0 ≤ id % (pg / 8) := Int.emod_nonneg _ (by omega)
    have hq5 : id % (pg / 8) < pg / 8 := Int.emod_lt_of_pos _ (by omega)
    have eo : IntKind.i64.wrap (IntKind.i64.wrap (Int.tdiv id (pg / 8)) * 8) = 8 * (id / (pg / 8)) := by
      rw [Int.tdiv_eq_ediv_of_nonneg (by omega), W_id (n := id / (pg / 8)) (by omega) (by omega), W_id (by omega) (by omega)]; omega
    have em : Int.tmod id (pg / 8) = id % (pg / 8) := Int.tmod_eq_emod_of_nonneg (by omega)
    rw [eo]
    refine ⟨by omega, ?_⟩
    generalize id / (pg / 8) = q at *
    generalize id % (pg / 8) = r at *
    refine call_p H (read_t b bs a s (8 * q) 8) (by repeat (first | exact Cut.nil | (apply Cut.cons; (repeat (first | exact Pick.here | apply Pick.there))))) fun wx H => ?_
    have e8 := errE8 hh hn hq2 (n := bs.length) (a := a) (s := s) (k := q)
    have bad2 : ∀ wx x, slotM bs a s pg id = (0, 180) → X.Own w S [row b29 [.int .i64 a, .int .i64 s] T.t30, row b8 [.int .i64 0, .int .i64 0] T.t30, row b6 [.int .i64 a, .int .i64 s, .int .i64 pg] T.t32, memI b bs] wx →
        tables_Table_slot_j2 id (fun v w' => ∃ L', (v = slotV (slotM bs a s pg id) ∧ L' = [memI b bs]) ∧ X.Own w S L' w') b6 b8 b29 (fun s92 w93 => tables_Table_slot_j1 (some ⟨b, 0, none⟩) (fun v w' => ∃ L', (v = slotV (slotM bs a s pg id) ∧ L' = [memI b bs]) ∧ X.Own w S L' w') b8 b29 s92 w93) pg x true wx := by
      intro wx x he H
      unfold tables_Table_slot_j2
      refine cnd_i (fun _ => ?_) (fun h => by cases h)
      refine st1_o H (by repeat (first | exact Rep.here | apply Rep.there)) (by simp) fun wx H => ?_
      refine st1_o H (by repeat (first | exact Rep.here | apply Rep.there)) (by simp) fun wx H => ?_
      repeat (first | refine ldI_o H (by repeat (first | exact Pick.here | apply Pick.there)) (by rfl) ?_ | refine ldL_o H (by repeat (first | exact Pick.here | apply Pick.there)) (by rfl) ?_ | refine ldB_o H (by repeat (first | exact Pick.here | apply Pick.there)) (by rfl) ?_ | refine ldP_o H (by repeat (first | exact Pick.here | apply Pick.there)) (by rfl) ?_ | refine ldS_o H (by repeat (first | exact Pick.here | apply Pick.there)) (by rfl) ?_)
      refine ⟨_, ⟨?_, rfl⟩, H.drop (by repeat (first | exact Cut.nil | (apply Cut.cons; (repeat (first | exact Pick.here | apply Pick.there)))))⟩
      rw [he]; rfl
    by_cases hfit : 8 * q + 8 ≤ s
    · have ee : entM bs.length a s q = (a + 8 * q, 0) := by rw [entM, if_pos ⟨hh, hq2, hfit⟩]
      rw [if_pos hfit] at e8
      rw [ee] at es
      simp only [ne_eq, not_true, if_false] at es
      rw [readV, if_pos e8]
      have hx : le (cut bs (a + 8 * q).toNat (8 : Int).toNat) = w8 bs (a + 8 * q).toNat := rfl
      rw [hx]
      have hxr := w8_range (p := (a + 8 * q).toNat) hr
      generalize w8 bs (a + 8 * q).toNat = x at *
      refine ⟨_, _, rfl, join_o (cnd_i (fun h => by cases h) fun _ => ⟨by omega, ?_⟩)⟩
      rw [top_bit hxr]
      cases hlt : decide (x < 9223372036854775808)
      · have hlt := of_decide_eq_false hlt
        unfold tables_Table_slot_j2
        refine cnd_i (fun h => by cases h) fun _ => ?_
        refine drw_o H fun wx H => ?_
        repeat (first | refine ldI_o H (by repeat (first | exact Pick.here | apply Pick.there)) (by rfl) ?_ | refine ldL_o H (by repeat (first | exact Pick.here | apply Pick.there)) (by rfl) ?_ | refine ldB_o H (by repeat (first | exact Pick.here | apply Pick.there)) (by rfl) ?_ | refine ldP_o H (by repeat (first | exact Pick.here | apply Pick.there)) (by rfl) ?_ | refine ldS_o H (by repeat (first | exact Pick.here | apply Pick.there)) (by rfl) ?_)
        rw [ediv, em]
        refine ⟨by omega, ?_⟩
        refine st1_o H (by repeat (first | exact Rep.here | apply Rep.there)) (by simp) fun wx H => ?_
        refine st1_o H (by repeat (first | exact Rep.here | apply Rep.there)) (by simp) fun wx H => ?_
        rw [low32 hxr] at H
        rw [if_neg hlt] at es
        exact tail _ _ _ _ hq4 (by omega) (by omega) es H
      · have hlt := of_decide_eq_true hlt
        rw [if_pos hlt] at es
        exact bad2 _ _ es H
    · rw [if_neg hfit] at e8
      have ee : (entM bs.length a s q).2 ≠ 0 := by rw [entM, if_neg (by omega)]; simp
      rw [if_pos ee] at es
      rw [readV, if_neg (by rw [e8]; omega), e8]
      exact ⟨_, _, rfl, join_o (cnd_i (fun _ => bad2 _ _ es H) (fun h => by cases h))⟩
  · have hp0 : pg = 0 := by simpa using hp
    rw [if_pos hp0] at es
    exact tail a s id _ (by omega) (by omega) (by omega) es H
end Go.Proofs.Ythoieihffbahpaa
