/-
  shadow: ShadowFull.
-/
import Derived.Test.YtmobpenjbaaicaaL11
namespace Go.Proofs.Ytmobpenjbaaicaa
open Go Go.RowKit X
set_option maxRecDepth 100000
set_option linter.unusedVariables false
set_option linter.unusedSimpArgs false
set_option maxHeartbeats 1000000
/-- behind a number that is freed, the least one that is free is not above it -/
theorem least_take {many : Int} {A B : List (Int × Int)} (hI : Inv many A B) {k : Int} {n : Int} (h : lk A k = some n) : (least (takeK B n) : Int) ≤ n := by
  have h1 := hI.take (k := k) (lk_has h).1
  rw [(lk_has h).2] at h1
  have hl := least_is h1
  have hr := hI.rng _ _ h
  rcases Int.lt_or_le n (least (takeK B n) : Int) with hlt | hge
  · have := hl.1.2 n.toNat (by omega)
    rw [hasK_lk, lk_take hI.upB, if_pos (by omega)] at this
    cases this
  · exact hge
theorem shadowFull_cv {W : World} {q : Option Addr} {c : Nat} {xs : List Act25} (hq : Slots W q 3 (xs.map actC)) (hl : xs.length ≤ 9223372036854775807) {m : Int} (hm : 0 ≤ m ∧ m ≤ 255) (d e d' e' : Int) :
    CV P F.crierlaw25_ShadowFull [.int .u8 m, .slice q xs.length c, evV d e, evV d' e'] W fun v w' => v = .bool true ∧ Below W.heap.size W w' := by
  refine crierlaw25_ShadowFull_cv ?_
  unfold crierlaw25_ShadowFull
  have H := keep_start W
  refine alc_o H fun b9 wx H => alc_o H fun b11 wx H => ?_
  refine call_o H (awake_t) (by repeat (first | exact Cut.nil | (apply Cut.cons; (repeat (first | exact Pick.here | apply Pick.there))))) fun vx L' wx hq H => ?_
  obtain ⟨rfl, rfl⟩ := hq
  simp only [List.cons_append, List.nil_append] at H
  refine ⟨_, rfl, cnd_i (fun h => by cases h) fun _ => ?_⟩
  refine call_o H (played_t hq hl hm) (by repeat (first | exact Cut.nil | (apply Cut.cons; (repeat (first | exact Pick.here | apply Pick.there))))) fun vx L' wx hq H => ?_
  obtain ⟨b, n, k, A, B, rfl, hI, rfl⟩ := hq
  simp only [List.cons_append, List.nil_append] at H
  refine ⟨_, rfl, join_o (cnd_i (fun h => by cases h) fun _ => cnd_i (fun h => by cases h) fun _ => ?_)⟩
  repeat (first | refine ldI_o H (by repeat (first | exact Pick.here | apply Pick.there)) (by rfl) ?_ | refine ldL_o H (by repeat (first | exact Pick.here | apply Pick.there)) (by rfl) ?_ | refine ldB_o H (by repeat (first | exact Pick.here | apply Pick.there)) (by rfl) ?_ | refine ldP_o H (by repeat (first | exact Pick.here | apply Pick.there)) (by rfl) ?_ | refine ldS_o H (by repeat (first | exact Pick.here | apply Pick.there)) (by rfl) ?_)
  refine call_p H (may_t d e) (by repeat (first | exact Cut.nil | (apply Cut.cons; (repeat (first | exact Pick.here | apply Pick.there))))) fun wx H => ?_
  refine ⟨_, rfl, ?_⟩
  unfold crierlaw25_ShadowFull_j3
  cases hmay : mayB d e
  · refine cnd_i (fun _ => join_o (cnd_i (fun _ => ?_) (fun h => by cases h))) (fun h => by cases h)
    unfold crierlaw25_ShadowFull_j0
    exact ⟨rfl, keep_done H (by repeat (first | exact Pick.here | apply Pick.there))⟩
  refine cnd_i (fun h => by cases h) fun _ => ?_
  repeat (first | refine ldI_o H (by repeat (first | exact Pick.here | apply Pick.there)) (by rfl) ?_ | refine ldL_o H (by repeat (first | exact Pick.here | apply Pick.there)) (by rfl) ?_ | refine ldB_o H (by repeat (first | exact Pick.here | apply Pick.there)) (by rfl) ?_ | refine ldP_o H (by repeat (first | exact Pick.here | apply Pick.there)) (by rfl) ?_ | refine ldS_o H (by repeat (first | exact Pick.here | apply Pick.there)) (by rfl) ?_)
  refine call_p H (number_t b n k (m % 41) A B d e) (by repeat (first | exact Cut.nil | (apply Cut.cons; (repeat (first | exact Pick.here | apply Pick.there))))) fun wx H => ?_
  refine ⟨_, _, rfl, ?_⟩
  refine call_p H (len_sh_t b n k (m % 41) A B) (by repeat (first | exact Cut.nil | (apply Cut.cons; (repeat (first | exact Pick.here | apply Pick.there))))) fun wx H => ?_
  refine ⟨_, rfl, by omega, ?_⟩
  repeat (first | refine ldI_o H (by repeat (first | exact Pick.here | apply Pick.there)) (by rfl) ?_ | refine ldL_o H (by repeat (first | exact Pick.here | apply Pick.there)) (by rfl) ?_ | refine ldB_o H (by repeat (first | exact Pick.here | apply Pick.there)) (by rfl) ?_ | refine ldP_o H (by repeat (first | exact Pick.here | apply Pick.there)) (by rfl) ?_ | refine ldS_o H (by repeat (first | exact Pick.here | apply Pick.there)) (by rfl) ?_)
  refine call_o H (bind_i hI b n k d e) (by repeat (first | exact Cut.nil | (apply Cut.cons; (repeat (first | exact Pick.here | apply Pick.there))))) fun vx L' wx hq H => ?_
  obtain ⟨rfl, rfl⟩ := hq
  simp only [List.cons_append, List.nil_append] at H
  refine ⟨_, _, rfl, ?_⟩
  rw [wrap_many hm]
  have hfull := hI.full
  have hI' := hI.bind d e
  -- behind a number that was given
  have given : ∀ (n0 : Int) (A B : List (Int × Int)) wx, Inv (m % 41) A B → lk A (keyI d e) = some n0 → X.Own W (fun k => k < W.heap.size) (shL b n k (m % 41) A B ++ [keep W, row b11 [.int .i64 d', .int .i64 e'] T.t24, row b9 [.int .i64 d, .int .i64 e] T.t24]) wx →
      crierlaw25_ShadowFull_j2 (fun v w' => v = .bool true ∧ Below W.heap.size W w') b9 b11 (some ⟨b, 0, none⟩) n0 0 false wx := by
    intro n0 A B wx hI hlk H
    simp only [List.cons_append, List.nil_append] at H
    unfold crierlaw25_ShadowFull_j2
    refine cnd_i (fun h => by cases h) fun _ => cnd_i (fun h => by cases h) fun _ => ?_
    repeat (first | refine ldI_o H (by repeat (first | exact Pick.here | apply Pick.there)) (by rfl) ?_ | refine ldL_o H (by repeat (first | exact Pick.here | apply Pick.there)) (by rfl) ?_ | refine ldB_o H (by repeat (first | exact Pick.here | apply Pick.there)) (by rfl) ?_ | refine ldP_o H (by repeat (first | exact Pick.here | apply Pick.there)) (by rfl) ?_ | refine ldS_o H (by repeat (first | exact Pick.here | apply Pick.there)) (by rfl) ?_)
    refine call_o H (free_t b n k (m % 41) A B d e) (by repeat (first | exact Cut.nil | (apply Cut.cons; (repeat (first | exact Pick.here | apply Pick.there))))) fun vx L' wx hq H => ?_
    rw [free_of hmay hlk] at hq
    obtain ⟨rfl, rfl⟩ := hq
    simp only [List.cons_append, List.nil_append] at H
    have hI2 := hI.free d e
    rw [free_of hmay hlk] at hI2
    dsimp only at hI2
    have hle := least_take hI hlk
    have hr := hI.rng _ _ hlk
    refine ⟨_, _, rfl, ?_⟩
    generalize takeK A (keyI d e) = A2 at *
    generalize takeK B n0 = B2 at *
    repeat (first | refine ldI_o H (by repeat (first | exact Pick.here | apply Pick.there)) (by rfl) ?_ | refine ldL_o H (by repeat (first | exact Pick.here | apply Pick.there)) (by rfl) ?_ | refine ldB_o H (by repeat (first | exact Pick.here | apply Pick.there)) (by rfl) ?_ | refine ldP_o H (by repeat (first | exact Pick.here | apply Pick.there)) (by rfl) ?_ | refine ldS_o H (by repeat (first | exact Pick.here | apply Pick.there)) (by rfl) ?_)
    refine call_p H (number_t b n k (m % 41) A2 B2 d' e') (by repeat (first | exact Cut.nil | (apply Cut.cons; (repeat (first | exact Pick.here | apply Pick.there))))) fun wx H => ?_
    refine ⟨_, _, rfl, ?_⟩
    repeat (first | refine ldI_o H (by repeat (first | exact Pick.here | apply Pick.there)) (by rfl) ?_ | refine ldL_o H (by repeat (first | exact Pick.here | apply Pick.there)) (by rfl) ?_ | refine ldB_o H (by repeat (first | exact Pick.here | apply Pick.there)) (by rfl) ?_ | refine ldP_o H (by repeat (first | exact Pick.here | apply Pick.there)) (by rfl) ?_ | refine ldS_o H (by repeat (first | exact Pick.here | apply Pick.there)) (by rfl) ?_)
    refine call_o H (bind_i hI2 b n k d' e') (by repeat (first | exact Cut.nil | (apply Cut.cons; (repeat (first | exact Pick.here | apply Pick.there))))) fun vx L' wx hq H => ?_
    obtain ⟨rfl, rfl⟩ := hq
    simp only [List.cons_append, List.nil_append] at H
    refine ⟨_, _, rfl, join_o ?_⟩
    unfold crierlaw25_ShadowFull_j1
    refine cnd_i (fun _ => ⟨rfl, keep_done H (by repeat (first | exact Pick.here | apply Pick.there))⟩) fun hg => ?_
    repeat (first | refine ldI_o H (by repeat (first | exact Pick.here | apply Pick.there)) (by rfl) ?_ | refine ldL_o H (by repeat (first | exact Pick.here | apply Pick.there)) (by rfl) ?_ | refine ldB_o H (by repeat (first | exact Pick.here | apply Pick.there)) (by rfl) ?_ | refine ldP_o H (by repeat (first | exact Pick.here | apply Pick.there)) (by rfl) ?_ | refine ldS_o H (by repeat (first | exact Pick.here | apply Pick.there)) (by rfl) ?_)
    refine call_p H (may_t d' e') (by repeat (first | exact Cut.nil | (apply Cut.cons; (repeat (first | exact Pick.here | apply Pick.there))))) fun wx H => ?_
    refine ⟨_, rfl, cnd_i (fun _ => ⟨rfl, keep_done H (by repeat (first | exact Pick.here | apply Pick.there))⟩) fun hmay' => ?_⟩
    have hmay' : mayB d' e' = true := by simpa using hmay'
    have hnone : lk A2 (keyI d' e') = none := by
      cases h : lk A2 (keyI d' e') with
      | none => rfl
      | some z => rw [num_of hmay' h] at hg; simp at hg
    have hb := bind_new (many := m % 41) (B := B2) hmay' hnone
    rw [if_neg (by omega)] at hb
    rw [hb]
    exact cnd_i (fun _ => ⟨by simp; omega, keep_done H (by repeat (first | exact Pick.here | apply Pick.there))⟩) (fun h => by cases h)
  have fin : ∀ (b44 : Bool) (n0 : Int), b44 = false → (bindR (m % 41) A B d e).1.2 = 0 ∨ ((bindR (m % 41) A B d e).1.2 ≠ 0) → n0 = (bindR (m % 41) A B d e).1.1 → 
      crierlaw25_ShadowFull_j2 (fun v w' => v = .bool true ∧ Below W.heap.size W w') b9 b11 (some ⟨b, 0, none⟩) n0 (bindR (m % 41) A B d e).1.2 b44 wx := by
    rintro _ _ rfl (h | h) rfl
    · obtain ⟨_, hlk⟩ := hI.bind_ok h
      rw [h]
      exact given _ _ _ _ hI' hlk H
    · unfold crierlaw25_ShadowFull_j2
      refine cnd_i (fun h => by cases h) fun _ => cnd_i (fun _ => ?_) fun hh => absurd (by simpa using hh) h
      rw [(bind_err h).1]
      exact ⟨rfl, keep_done H (by repeat (first | exact Pick.here | apply Pick.there))⟩
  refine join_o ?_
  cases hlk : lk A (keyI d e) with
  | some z =>
    have hb := bind_of (many := m % 41) (B := B) hmay hlk
    have hn := num_of hmay hlk
    rw [hn]; rw [hb] at fin ⊢
    refine cnd_i (fun _ => cnd_i (fun h => by simp at h) fun _ => cnd_i (fun h => by simp at h) fun _ => fin _ _ rfl (.inl rfl) rfl) fun _ => cnd_i (fun h => by simp at h) fun _ => cnd_i (fun h => by simp at h) fun _ => fin _ _ rfl (.inl rfl) rfl
  | none =>
    have hb := bind_new (many := m % 41) (B := B) hmay hlk
    have hn : numR A d e = (0, 250) := num_not fun _ => hlk
    by_cases hf : m % 41 ≤ (least B : Int)
    · rw [if_pos hf] at hb
      have := hfull.1 hf
      rw [hn]; rw [hb] at fin ⊢
      refine cnd_i (fun _ => cnd_i (fun h => by simp at h) fun _ => cnd_i (fun h => fin _ _ (by simp) (.inr (by simp)) rfl) fun h => by simp at h) fun h => by simp at h; omega
    · rw [if_neg hf] at hb
      have : ¬ (A.length : Int) = m % 41 := fun h => hf (hfull.2 h)
      rw [hn]; rw [hb] at fin ⊢
      refine cnd_i (fun h => by simp at h; omega) fun _ => cnd_i (fun h => by simp at h) fun _ => cnd_i (fun h => by simp at h) fun _ => fin _ _ rfl (.inl rfl) rfl
end Go.Proofs.Ytmobpenjbaaicaa
