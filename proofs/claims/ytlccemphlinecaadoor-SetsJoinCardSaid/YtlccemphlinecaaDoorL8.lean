/-
  sets: the rows of neighbours tell all members.
-/
import Derived.Test.YtlccemphlinecaaDoorL7
namespace Go.Proofs.YtlccemphlinecaaDoor
open Go Go.RowKit X
set_option maxRecDepth 100000
set_option linter.unusedVariables false
set_option maxHeartbeats 1000000
theorem runsF_ge : ∀ (r : List Nat) (a b : Nat), a ≤ b → Up (b :: r) → ∀ u ∈ runsF a b r, a ≤ u.1
  | [], a, b, _, _, u, hu => by simp only [runsF, List.mem_singleton] at hu; subst hu; exact Nat.le_refl _
  | m :: r, a, b, h, hup, u, hu => by
    have h' := List.pairwise_cons.1 hup
    have hbm := h'.1 m (by simp)
    unfold runsF at hu
    split at hu
    · exact runsF_ge r a m (by omega) h'.2 u hu
    · rcases List.mem_cons.1 hu with rfl | hu
      · exact Nat.le_refl _
      · have := runsF_ge r m m (Nat.le_refl _) h'.2 u hu; omega
theorem runsF_pair : ∀ (r : List Nat) (a b : Nat), a ≤ b → Up (b :: r) → (runsF a b r).Pairwise fun u v => u.2 + 1 < v.1
  | [], a, b, _, _ => by simp [runsF]
  | m :: r, a, b, h, hup => by
    have h' := List.pairwise_cons.1 hup
    have hbm := h'.1 m (by simp)
    unfold runsF
    split
    · exact runsF_pair r a m (by omega) h'.2
    · refine List.pairwise_cons.2 ⟨fun u hu => ?_, runsF_pair r m m (Nat.le_refl _) h'.2⟩
      have := runsF_ge r m m (Nat.le_refl _) h'.2 u hu
      show b + 1 < u.1
      omega
theorem runsF_le : ∀ (r : List Nat) (a b : Nat), a ≤ b → Up (b :: r) → ∀ u ∈ runsF a b r, u.1 ≤ u.2
  | [], a, b, h, _, u, hu => by simp only [runsF, List.mem_singleton] at hu; subst hu; exact h
  | m :: r, a, b, h, hup, u, hu => by
    have h' := List.pairwise_cons.1 hup
    have hbm := h'.1 m (by simp)
    unfold runsF at hu
    split at hu
    · exact runsF_le r a m (by omega) h'.2 u hu
    · rcases List.mem_cons.1 hu with rfl | hu
      · exact h
      · exact runsF_le r m m (Nat.le_refl _) h'.2 u hu
theorem runsF_mem : ∀ (r : List Nat) (a b : Nat), a ≤ b → Up (b :: r) → ∀ x, (∃ u ∈ runsF a b r, u.1 ≤ x ∧ x ≤ u.2) ↔ (a ≤ x ∧ x ≤ b) ∨ x ∈ r
  | [], a, b, h, _, x => by simp [runsF]
  | m :: r, a, b, h, hup, x => by
    have h' := List.pairwise_cons.1 hup
    have hbm := h'.1 m (by simp)
    unfold runsF
    split
    · rename_i e
      rw [runsF_mem r a m (by omega) h'.2, List.mem_cons]
      constructor
      · rintro (⟨h1, h2⟩ | h1)
        · by_cases hx : x = m
          · exact .inr (.inl hx)
          · exact .inl ⟨h1, by omega⟩
        · exact .inr (.inr h1)
      · rintro (⟨h1, h2⟩ | h1 | h1)
        · exact .inl ⟨h1, by omega⟩
        · exact .inl ⟨by omega, by omega⟩
        · exact .inr h1
    · have ih := runsF_mem r m m (Nat.le_refl _) h'.2 x
      rw [List.mem_cons]
      constructor
      · rintro ⟨u, hu, h1⟩
        rcases List.mem_cons.1 hu with rfl | hu
        · exact .inl h1
        · rcases ih.1 ⟨u, hu, h1⟩ with h2 | h2
          · exact .inr (.inl (by omega))
          · exact .inr (.inr h2)
      · rintro (h1 | h1 | h1)
        · exact ⟨_, List.mem_cons_self, h1⟩
        · obtain ⟨u, hu, h2⟩ := ih.2 (.inl (by omega))
          exact ⟨u, List.mem_cons_of_mem _ hu, h2⟩
        · obtain ⟨u, hu, h2⟩ := ih.2 (.inr h1)
          exact ⟨u, List.mem_cons_of_mem _ hu, h2⟩
theorem runsL_facts {l : List Nat} (hup : Up l) : (runsL l).Pairwise (fun u v => u.2 + 1 < v.1) ∧ (∀ u ∈ runsL l, u.1 ≤ u.2) ∧ ∀ x, (∃ u ∈ runsL l, u.1 ≤ x ∧ x ≤ u.2) ↔ x ∈ l := by
  cases l with
  | nil => simp [runsL]
  | cons m r =>
    refine ⟨runsF_pair r m m (Nat.le_refl _) hup, runsF_le r m m (Nat.le_refl _) hup, fun x => ?_⟩
    rw [show runsL (m :: r) = runsF m m r from rfl, runsF_mem r m m (Nat.le_refl _) hup, List.mem_cons]
    constructor
    · rintro (h | h)
      · exact .inl (by omega)
      · exact .inr h
    · rintro (h | h)
      · exact .inl (by omega)
      · exact .inr h
section
variable {W : World} (hT : TabAt W)
include hT
theorem setsRuns_cv {p : Option Addr} {c : Nat} {ms : List Int} (hp : Sl W p (i64s ms)) (hpl : ms.length ≤ 9223372036854775807) :
    CV P F.crierlaw01_SetsRuns [.slice p ms.length c] W fun r w' => r = .bool true ∧ Below W.heap.size W w' := by
  refine crierlaw01_SetsRuns_cv ?_
  unfold crierlaw01_SetsRuns
  have H := keep_start W
  refine alc_o H fun b4 wx H => ?_
  refine call_p H (awake_t hT) (by repeat (first | exact Cut.nil | (apply Cut.cons; (repeat (first | exact Pick.here | apply Pick.there))))) fun wx H => ?_
  refine ⟨_, rfl, cnd_i (fun h => by cases h) fun _ => cnd_i (fun _ => ?_) fun _ => ?_⟩
  · refine st1_o H (by repeat (first | exact Rep.here | apply Rep.there)) (by simp) fun wx H => ?_
    repeat (first | refine ldI_o H (by repeat (first | exact Pick.here | apply Pick.there)) (by rfl) ?_ | refine ldL_o H (by repeat (first | exact Pick.here | apply Pick.there)) (by rfl) ?_ | refine ldB_o H (by repeat (first | exact Pick.here | apply Pick.there)) (by rfl) ?_ | refine ldP_o H (by repeat (first | exact Pick.here | apply Pick.there)) (by rfl) ?_ | refine ldS_o H (by repeat (first | exact Pick.here | apply Pick.there)) (by rfl) ?_)
    exact ⟨rfl, keep_done H (by repeat (first | exact Pick.here | apply Pick.there))⟩
  refine call_o H (of_set_t (c := c) (keep W) (keep_sl hp) hpl) (by repeat (first | exact Cut.nil | (apply Cut.cons; (repeat (first | exact Pick.here | apply Pick.there))))) fun vx L' wx hq H => ?_
  obtain ⟨b, rfl, rfl⟩ := hq
  simp only [List.cons_append, List.nil_append] at H
  refine ⟨_, rfl, join_o (cnd_i (fun h => by cases h) fun _ => ?_)⟩
  unfold crierlaw01_SetsRuns_j4
  refine cnd_i (fun h => by cases h) fun _ => ?_
  have hup := ofL_up ms
  have hbd : ∀ x ∈ ofL ms, x < 16384 := ofL_lt
  generalize ofL ms = l at *
  refine call_o H (of_set_t (ms := []) (c := 0) (keep W) nil_sl (by simp)) (by repeat (first | exact Cut.nil | (apply Cut.cons; (repeat (first | exact Pick.here | apply Pick.there))))) fun vx L' wx hq H => ?_
  obtain ⟨b', rfl, rfl⟩ := hq
  simp only [List.cons_append, List.nil_append] at H
  refine ⟨_, rfl, alc_o H fun b24 wx H => ?_⟩
  refine st1_o H (by repeat (first | exact Rep.here | apply Rep.there)) (by simp) fun wx H => ?_
  refine alc_o H fun b27 wx H => ?_
  refine st1_o H (by repeat (first | exact Rep.here | apply Rep.there)) (by simp) fun wx H => ?_
  refine call_o H (runs_t b l) (by repeat (first | exact Cut.nil | (apply Cut.cons; (repeat (first | exact Pick.here | apply Pick.there))))) fun vx L' wx hq H => ?_
  obtain ⟨g5, g1, g2, ws, pw, cw, t, t2, t5, rfl, h2, h3, rfl, rfl⟩ := hq
  refine ⟨_, rfl, ?_⟩
  obtain ⟨r1, r2, r3⟩ := runsL_facts hup
  have H := H.drop (L1 := [setI b' [], row b27 [.int .i64 (-2)] T.t3, row b24 [ptrV b'] T.t24, row b4 [.bool false] T.t4, setI b (mems ws)] ++ (runsE g5 g1 g2 ws pw cw t t2 t5 ++ [keep W])) (by repeat (first | exact Cut.nil | (apply Cut.cons; (repeat (first | exact Pick.here | apply Pick.there)))))
  refine rf_o (fun k L => ∃ (lt : List Nat) (last : Int), k ≤ (runsL (mems ws)).length ∧ Up lt ∧ (∀ x, x ∈ lt ↔ ∃ u ∈ (runsL (mems ws)).take k, u.1 ≤ x ∧ x ≤ u.2) ∧ (-2 ≤ last ∧ last < 16384) ∧ (∀ h : k < (runsL (mems ws)).length, last + 1 < ((runsL (mems ws))[k].1 : Nat)) ∧
      L = [setI b' lt, row b27 [.int .i64 last] T.t3, row b24 [ptrV b'] T.t24, row b4 [.bool false] T.t4, setI b (mems ws)])
    (fun c L => False) runs_enters (runs_it hT h2 h3) (i2s_len _) H ⟨[], -2, by omega, List.Pairwise.nil, by simp, by omega, fun h => by omega, rfl⟩ ?_ ?_ ?_
  · rintro k x _ F l' r d wx Q hx ⟨lt, last, hk', hlt, hmem, hlast, hgap, rfl⟩ H hgo hdone
    obtain ⟨hk, rfl⟩ := i2s_get hx
    have hle := r2 _ (List.getElem_mem hk)
    have hg := hgap hk
    have hb2 : (runsL (mems ws))[k].2 < 16384 := hbd _ ((r3 _).1 ⟨_, List.getElem_mem hk, hle, Nat.le_refl _⟩)
    have hnext : ∀ h : k + 1 < (runsL (mems ws)).length, (((runsL (mems ws))[k].2 : Nat) : Int) + 1 < ((runsL (mems ws))[k + 1].1 : Nat) := by
      intro h
      have := List.pairwise_iff_getElem.1 r1 k (k + 1) hk h (by omega)
      omega
    have htk : (runsL (mems ws)).take (k + 1) = (runsL (mems ws)).take k ++ [(runsL (mems ws))[k]] := List.take_succ_eq_append_getElem hk
    generalize (runsL (mems ws))[k] = ab at *
    obtain ⟨a, b2⟩ := ab
    dsimp only at *
    unfold crierlaw01_SetsRuns_r3
    dsimp only [X.b2]
    refine ⟨_, rfl, _, rfl, rec_o H .here fun wx H => join_o ?_⟩
    simp only [List.cons_append, List.nil_append] at H
    refine cnd_i (fun h => ?_) fun _ => ?_
    · have h := of_decide_eq_true h; omega
    refine ldI_o H (by repeat (first | exact Pick.here | apply Pick.there)) (by rfl) ?_
    rw [W_id (n := last + 1) (by omega) (by omega)]
    refine cnd_i (fun h => ?_) fun _ => ?_
    · have h := of_decide_eq_true h; omega
    refine ldP_o H (by repeat (first | exact Pick.here | apply Pick.there)) (by rfl) ?_
    unfold crierlaw01_SetsRuns_j2
    refine cnd_i (fun h => by cases h) fun _ => ?_
    refine loop_o (fun (st : Int) L => ∃ (m : Nat) (lu : List Nat), st = m ∧ a ≤ m ∧ m ≤ b2 + 1 ∧ Up lu ∧ (∀ x, x ∈ lu ↔ (∃ u ∈ (runsL (mems ws)).take k, u.1 ≤ x ∧ x ≤ u.2) ∨ (a ≤ x ∧ x < m)) ∧
        L = setI b' lu :: recI l' r .busy none :: defI d :: row b27 [.int .i64 last] T.t3 :: row b24 [ptrV b'] T.t24 :: row b4 [.bool false] T.t4 :: setI b (mems ws) :: (runsE g5 g1 g2 ws pw cw t t2 t5 ++ [keep W] ++ F))
      (fun (st : Int) => ((b2 : Int) + 1 - st).toNat) (H.perm (L1 := [setI b' lt, recI l' r .busy none, defI d, row b27 [.int .i64 last] T.t3, row b24 [ptrV b'] T.t24, row b4 [.bool false] T.t4, setI b (mems ws)]) (by repeat (first | exact Cut.nil | (apply Cut.cons; (repeat (first | exact Pick.here | apply Pick.there)))))) ⟨a, lt, rfl, Nat.le_refl _, by omega, hlt, fun x => by rw [hmem]; constructor; exact .inl; rintro (h | h); exact h; omega, rfl⟩ ?_
    rintro _ _ wx ⟨m, lu, rfl, hm1, hm2, hlu, hmu, rfl⟩ H
    unfold crierlaw01_SetsRuns_l1
    have stop : ∀ x, x = false → m = b2 + 1 → crierlaw01_SetsRuns_j0 b24 b27 l' r Q (b2 : Int) (m : Int) (fun (s' : Int) w' => (∃ L', (∃ (m : Nat) (lu : List Nat), s' = m ∧ a ≤ m ∧ m ≤ b2 + 1 ∧ Up lu ∧ (∀ x, x ∈ lu ↔ (∃ u ∈ (runsL (mems ws)).take k, u.1 ≤ x ∧ x ≤ u.2) ∨ (a ≤ x ∧ x < m)) ∧
        L' = setI b' lu :: recI l' r .busy none :: defI d :: row b27 [.int .i64 last] T.t3 :: row b24 [ptrV b'] T.t24 :: row b4 [.bool false] T.t4 :: setI b (mems ws) :: (runsE g5 g1 g2 ws pw cw t t2 t5 ++ [keep W] ++ F)) ∧ X.Own W (fun k => k < W.heap.size) L' w') ∧ ((b2 : Int) + 1 - s').toNat < ((b2 : Int) + 1 - (m : Int)).toNat) x wx := by
      rintro _ rfl rfl
      unfold crierlaw01_SetsRuns_j0
      refine cnd_i (fun h => by cases h) fun _ => ?_
      refine st1_o H (by repeat (first | exact Rep.here | apply Rep.there)) (by simp) fun wx H => ?_
      have H := H.perm (L1 := [recI l' r .busy none, defI d, setI b' lu, row b27 [.int .i64 (b2 : Nat)] T.t3, row b24 [ptrV b'] T.t24, row b4 [.bool false] T.t4, setI b (mems ws)]) (by repeat (first | exact Cut.nil | (apply Cut.cons; (repeat (first | exact Pick.here | apply Pick.there)))))
      refine rec_o H .here fun wx H => hgo [setI b' lu, row b27 [.int .i64 (b2 : Nat)] T.t3, row b24 [ptrV b'] T.t24, row b4 [.bool false] T.t4, setI b (mems ws)] wx ⟨lu, _, by omega, hlu, fun x => ?_, by omega, hnext, rfl⟩ H
      rw [hmu, htk]
      constructor
      · rintro (⟨u, hu, h⟩ | h)
        · exact ⟨u, List.mem_append_left _ hu, h⟩
        · exact ⟨(a, b2), List.mem_append_right _ (List.mem_singleton.2 rfl), h.1, by show x ≤ b2; omega⟩
      · rintro ⟨u, hu, h⟩
        rcases List.mem_append.1 hu with hu | hu
        · exact .inl ⟨u, hu, h⟩
        · rw [List.mem_singleton.1 hu] at h
          exact .inr ⟨h.1, by have := h.2; dsimp only at this; omega⟩
    refine join_o (cnd_i (fun h => ?_) fun h => stop _ rfl (by have := of_decide_eq_false h; omega))
    have h := of_decide_eq_true h
    rw [show decide ((m : Int) < 20000) = true from decide_eq_true (by omega)]
    unfold crierlaw01_SetsRuns_j0
    refine cnd_i (fun _ => ?_) (fun h => by cases h)
    refine ldP_o H (by repeat (first | exact Pick.here | apply Pick.there)) (by rfl) ?_
    refine call_o H (put_t b' lu (m : Nat)) (.cons .here .nil) fun vx L' wx hq H => ?_
    obtain ⟨rfl, rfl⟩ := hq
    simp only [List.cons_append, List.nil_append] at H
    rw [putL_has' _ hlu] at H
    refine ⟨_, rfl, ⟨_, ⟨m + 1, _, ?_, by omega, by omega, putL_up hlu, fun x => ?_, rfl⟩, H⟩, ?_⟩
    · rw [W_id (by omega) (by omega)]; rfl
    · rw [mem_putL, hmu]
      have hmay : mayL ((m : Nat) : Int) = true := mayL_iff.2 (by omega)
      constructor
      · rintro ((h1 | h1) | ⟨_, h1⟩)
        · exact .inl h1
        · exact .inr (by omega)
        · exact .inr (by omega)
      · rintro (h1 | h1)
        · exact .inl (.inl h1)
        · by_cases e : x = m
          · subst e; exact .inr ⟨hmay, rfl⟩
          · exact .inl (.inr (by omega))
    · rw [W_id (by omega) (by omega)]
      show ((b2 : Int) + 1 - ((m : Int) + 1)).toNat < ((b2 : Int) + 1 - (m : Int)).toNat
      omega
  · rintro d _ wx ⟨lt, last, _, hlt, hmem, _, _, rfl⟩ H
    dsimp only [jmpX]
    rw [i2s_length, List.take_length] at hmem
    have e : lt = mems ws := sext hlt hup fun x => (hmem x).trans (r3 x)
    subst e
    simp only [List.cons_append, List.nil_append] at H
    refine ldP_o H (by repeat (first | exact Pick.here | apply Pick.there)) (by rfl) ?_
    refine call_p H (same_set_t b b' (mems ws) (mems ws)) (by repeat (first | exact Cut.nil | (apply Cut.cons; (repeat (first | exact Pick.here | apply Pick.there))))) fun wx H => ?_
    refine ⟨_, rfl, ?_⟩
    refine st1_o H (by repeat (first | exact Rep.here | apply Rep.there)) (by simp) fun wx H => ?_
    refine take_o H (by repeat (first | exact Pick.here | apply Pick.there)) fun wx H => ?_
    refine ldB_o H (by repeat (first | exact Pick.here | apply Pick.there)) (by rfl) ?_
    have H : X.Own W (fun k => k < W.heap.size) [keep W] wx := H.drop (by repeat (first | exact Cut.nil | (apply Cut.cons; (repeat (first | exact Pick.here | apply Pick.there)))))
    exact ⟨by simp, keep_done H (by repeat (first | exact Pick.here | apply Pick.there))⟩
  · rintro d _ _ wx h
    cases h
end
end Go.Proofs.YtlccemphlinecaaDoor
