/-
  shadow: the law's list; ShadowBound.
-/
import Derived.Test.YtmobpenjbaaicaaL13
import Derived.Test.YtmobpenjbaaicaaK12
namespace Go.Proofs.Ytmobpenjbaaicaa
open Go Go.RowKit X
set_option maxRecDepth 100000
set_option linter.unusedVariables false
set_option linter.unusedSimpArgs false
set_option maxHeartbeats 1000000
variable {many : Int} {A B : List (Int × Int)} {d e d' e' n : Int}
def listL (A : List (Int × Int)) : List Int := A.flatMap fun u => [u.1 / 16, u.1 % 16, u.2]
theorem listL_len (A : List (Int × Int)) : (listL A).length = 3 * A.length := by
  induction A with
  | nil => rfl
  | cons x r ih => unfold listL at *; rw [List.flatMap_cons, List.length_append, ih]; simp; omega
theorem Inv.memA (h : Inv many A B) : ∀ u ∈ A, 0 ≤ u.1 ∧ u.1 < 512 ∧ 0 ≤ u.2 ∧ u.2 < many ∧ lk A u.1 = some u.2 ∧ lk B u.2 = some u.1 := by
  intro u hu
  have h1 := (lk_iff h.upA (k := u.1) (v := u.2)).2 hu
  have := h.rng _ _ h1
  exact ⟨by omega, by omega, by omega, by omega, h1, (h.iff _ _).1 h1⟩
theorem list_t (h : Inv many A B) (b n k : Nat) : Tri P F.crierlaw25_list [bptr b] (shL b n k many A B) fun v L' => ∃ p c, v = .slice p (listL A).length c ∧ L' = nums p c (listL A) :: shL b n k many A B := by
  intro w S hS
  refine crierlaw25_list_cv ?_
  unfold crierlaw25_list
  have H := Own.start hS
  refine alc_o H fun b2 wx H => ?_
  refine call_o H (all_sh_t b n k many A B) (by repeat (first | exact Cut.nil | (apply Cut.cons; (repeat (first | exact Pick.here | apply Pick.there))))) fun vx L' wx hq H => ?_
  obtain ⟨z, rfl, rfl⟩ := hq
  have hlA := h.lenA
  have H := own_nil (e := tInt) (size := 1) H
  have H : X.Own w S ((own tInt 1 (.slice none 0 0) 0 (i64s []) :: (row b2 [.slice none 0 0] T.t37 :: shL b n k many A B)) ++ allE z A) wx := by
    have H := H.drop (L1 := allE z A ++ own tInt 1 (.slice none 0 0) 0 [] :: (row b2 [.slice none 0 0] T.t37 :: shL b n k many A B)) (by unfold allE thrE; simp only [List.cons_append, List.nil_append]; exact (by repeat (first | exact Cut.nil | (apply Cut.cons; (repeat (first | exact Pick.here | apply Pick.there))))))
    exact own_comm H
  refine ⟨_, rfl, join_o ?_⟩
  refine rf_o (fun k' Li => ∃ p c, Li = own tInt 1 (.slice p (3 * k') c) (3 * k') (i64s (listL (A.take k'))) :: (row b2 [.slice p (3 * k') c] T.t37 :: shL b n k many A B)) (fun _ _ => False)
    all_enters (all_it z A (by omega) fun u hu => by have := h.memA u hu; omega) (evs_len A) H ⟨none, 0, rfl⟩ ?_ ?_ ?_
  · rintro k' x _ F l r d wx Q2 hx ⟨p, c, rfl⟩ H hgo hdone
    obtain ⟨u, hu, rfl⟩ := evs_at hx
    have hk' := (List.getElem?_eq_some_iff.1 hu).1
    unfold crierlaw25_list_r1
    dsimp only [X.b2]
    simp only [List.cons_append, List.nil_append] at H
    refine ⟨_, _, rfl, _, rfl, alc_o H fun b24 wx H => ?_⟩
    refine st1_o H (by repeat (first | exact Rep.here | apply Rep.there)) (by simp) fun wx H => ?_
    refine st1_o H (by repeat (first | exact Rep.here | apply Rep.there)) (by simp) fun wx H => ?_
    simp only [List.set_cons_zero, List.set_cons_succ] at H
    refine rec_o H (by repeat (first | exact Rep.here | apply Rep.there)) fun wx H => ?_
    repeat (first | refine ldI_o H (by repeat (first | exact Pick.here | apply Pick.there)) (by rfl) ?_ | refine ldL_o H (by repeat (first | exact Pick.here | apply Pick.there)) (by rfl) ?_ | refine ldB_o H (by repeat (first | exact Pick.here | apply Pick.there)) (by rfl) ?_ | refine ldP_o H (by repeat (first | exact Pick.here | apply Pick.there)) (by rfl) ?_ | refine ldS_o H (by repeat (first | exact Pick.here | apply Pick.there)) (by rfl) ?_)
    refine alc_o H fun b34 wx H => ?_
    refine app_n (m := 3) (b := b34) (ys := [u.1 / 16, u.1 % 16, u.2]) (t := T.t3) H (by repeat (first | exact Pick.here | apply Pick.there)) .here rfl (by omega) fun p1 c1 wx H => ?_
    refine st1_o H (by repeat (first | exact Rep.here | apply Rep.there)) (by simp) fun wx H => ?_
    simp only [List.set_cons_zero, List.set_cons_succ] at H
    repeat (first | refine ldI_o H (by repeat (first | exact Pick.here | apply Pick.there)) (by rfl) ?_ | refine ldL_o H (by repeat (first | exact Pick.here | apply Pick.there)) (by rfl) ?_ | refine ldB_o H (by repeat (first | exact Pick.here | apply Pick.there)) (by rfl) ?_ | refine ldP_o H (by repeat (first | exact Pick.here | apply Pick.there)) (by rfl) ?_ | refine ldS_o H (by repeat (first | exact Pick.here | apply Pick.there)) (by rfl) ?_)
    refine cnd_i (fun hc => absurd (of_decide_eq_true hc) (by omega)) fun _ => ?_
    refine rec_o H (by repeat (first | exact Rep.here | apply Rep.there)) fun wx H => ?_
    have e : listL (A.take k') ++ [u.1 / 16, u.1 % 16, u.2] = listL (A.take (k' + 1)) := by
      rw [List.take_add_one, hu]; simp [listL]
    rw [e] at H
    refine hgo (own tInt 1 (.slice p1 (3 * (k' + 1)) c1) (3 * (k' + 1)) (i64s (listL (A.take (k' + 1)))) :: (row b2 [.slice p1 (3 * (k' + 1)) c1] T.t37 :: shL b n k many A B)) wx ⟨p1, c1, rfl⟩ ?_
    have H := H.rest (L1 := [row b34 (i64s [u.1 / 16, u.1 % 16, u.2]) T.t3, row b24 [.int .i64 (u.1 / 16), .int .i64 (u.1 % 16)] T.t24]) (by repeat (first | exact Cut.nil | (apply Cut.cons; (repeat (first | exact Pick.here | apply Pick.there)))))
    exact H.perm (L1 := [recI l r .ready none, defI d, own tInt 1 (.slice p1 (3 * k' + 3) c1) (3 * k' + 3) (i64s (listL (A.take (k' + 1)))), row b2 [.slice p1 (3 * k' + 3) c1] T.t37]) (by repeat (first | exact Cut.nil | (apply Cut.cons; (repeat (first | exact Pick.here | apply Pick.there)))))
  · rintro d _ wx ⟨p, c, rfl⟩ H
    dsimp only [jmpX]
    unfold crierlaw25_list_j0
    simp only [List.cons_append, List.nil_append] at H
    repeat (first | refine ldI_o H (by repeat (first | exact Pick.here | apply Pick.there)) (by rfl) ?_ | refine ldL_o H (by repeat (first | exact Pick.here | apply Pick.there)) (by rfl) ?_ | refine ldB_o H (by repeat (first | exact Pick.here | apply Pick.there)) (by rfl) ?_ | refine ldP_o H (by repeat (first | exact Pick.here | apply Pick.there)) (by rfl) ?_ | refine ldS_o H (by repeat (first | exact Pick.here | apply Pick.there)) (by rfl) ?_)
    refine take_o H (by repeat (first | exact Pick.here | apply Pick.there)) fun wx H => ?_
    have e1 : (evs A).length = A.length := by simp [evs]
    have e2 : 3 * A.length = (listL A).length := by rw [listL_len]
    rw [e1, List.take_length, e2] at H
    rw [e1, e2]
    exact ⟨_, ⟨p, c, rfl, rfl⟩, H.drop (by repeat (first | exact Cut.nil | (apply Cut.cons; (repeat (first | exact Pick.here | apply Pick.there)))))⟩
  · rintro d c _ wx hD H
    exact hD.elim
theorem shadowBound_cv {W : World} {q : Option Addr} {c : Nat} {xs : List Act25} (hq : Slots W q 3 (xs.map actC)) (hl : xs.length ≤ 9223372036854775807) {m : Int} (hm : 0 ≤ m ∧ m ≤ 255) (d e : Int) :
    CV P F.crierlaw25_ShadowBound [.int .u8 m, .slice q xs.length c, evV d e] W fun v w' => v = .bool true ∧ Below W.heap.size W w' := by
  refine crierlaw25_ShadowBound_cv ?_
  unfold crierlaw25_ShadowBound
  have H := keep_start W
  refine alc_o H fun b7 wx H => ?_
  refine call_o H (awake_t) (by repeat (first | exact Cut.nil | (apply Cut.cons; (repeat (first | exact Pick.here | apply Pick.there))))) fun vx L' wx hq H => ?_
  obtain ⟨rfl, rfl⟩ := hq
  simp only [List.cons_append, List.nil_append] at H
  refine ⟨_, rfl, cnd_i (fun h => by cases h) fun _ => ?_⟩
  refine call_o H (played_t hq hl hm) (by repeat (first | exact Cut.nil | (apply Cut.cons; (repeat (first | exact Pick.here | apply Pick.there))))) fun vx L' wx hq H => ?_
  obtain ⟨b, n, k, A, B, rfl, hI, rfl⟩ := hq
  simp only [List.cons_append, List.nil_append] at H
  refine ⟨_, rfl, join_o (cnd_i (fun h => by cases h) fun _ => ?_)⟩
  unfold crierlaw25_ShadowBound_j2
  refine cnd_i (fun h => by cases h) fun _ => ?_
  repeat (first | refine ldI_o H (by repeat (first | exact Pick.here | apply Pick.there)) (by rfl) ?_ | refine ldL_o H (by repeat (first | exact Pick.here | apply Pick.there)) (by rfl) ?_ | refine ldB_o H (by repeat (first | exact Pick.here | apply Pick.there)) (by rfl) ?_ | refine ldP_o H (by repeat (first | exact Pick.here | apply Pick.there)) (by rfl) ?_ | refine ldS_o H (by repeat (first | exact Pick.here | apply Pick.there)) (by rfl) ?_)
  refine call_o H (bind_i hI b n k d e) (by repeat (first | exact Cut.nil | (apply Cut.cons; (repeat (first | exact Pick.here | apply Pick.there))))) fun vx L' wx hq H => ?_
  obtain ⟨rfl, rfl⟩ := hq
  simp only [List.cons_append, List.nil_append] at H
  have hI1 := hI.bind d e
  -- binding twice is binding once
  have twice : bindR (m % 41) (bindR (m % 41) A B d e).2.1 (bindR (m % 41) A B d e).2.2 d e = bindR (m % 41) A B d e := by
    by_cases h0 : (bindR (m % 41) A B d e).1.2 = 0
    · obtain ⟨h1, h2⟩ := hI.bind_ok h0
      rw [bind_of h1 h2]
      ext1
      · ext1
        · rfl
        · exact h0.symm
      · rfl
    · have h1 := (bind_err h0).2
      rw [h1]
  refine ⟨_, _, rfl, ?_⟩
  have hcases : (bindR (m % 41) A B d e).1.2 = 0 ∧ mayB d e = true ∧ lk (bindR (m % 41) A B d e).2.1 (keyI d e) = some (bindR (m % 41) A B d e).1.1 ∨
      (bindR (m % 41) A B d e).1.2 = 2 ∧ mayB d e = true ∧ lk (bindR (m % 41) A B d e).2.1 (keyI d e) = none ∨ (bindR (m % 41) A B d e).1.2 = 1 ∧ mayB d e = false := by
    by_cases h0 : (bindR (m % 41) A B d e).1.2 = 0
    · obtain ⟨h1, h2⟩ := hI.bind_ok h0
      exact .inl ⟨h0, h1, h2⟩
    · cases hmay : mayB d e
      · right; right
        refine ⟨?_, rfl⟩
        unfold bindR bindM
        rw [if_pos hmay]
      · right; left
        have h1 := (bind_err h0).2
        rw [h1]
        cases hlk : lk A (keyI d e) with
        | some z => rw [bind_of hmay hlk] at h0; exact absurd rfl h0
        | none =>
          refine ⟨?_, rfl, rfl⟩
          have hb := bind_new (many := m % 41) (B := B) hmay hlk
          split at hb
          · rw [hb]
          · rw [hb] at h0; exact absurd rfl h0
  generalize bindR (m % 41) A B d e = R at *
  obtain ⟨⟨r1, r2⟩, A1, B1⟩ := R
  dsimp only at *
  refine call_o H (list_t hI1 b n k) (by repeat (first | exact Cut.nil | (apply Cut.cons; (repeat (first | exact Pick.here | apply Pick.there))))) fun vx L' wx hq H => ?_
  obtain ⟨p1, c1, rfl, rfl⟩ := hq
  simp only [List.cons_append, List.nil_append] at H
  refine ⟨_, _, _, rfl, ?_⟩
  repeat (first | refine ldI_o H (by repeat (first | exact Pick.here | apply Pick.there)) (by rfl) ?_ | refine ldL_o H (by repeat (first | exact Pick.here | apply Pick.there)) (by rfl) ?_ | refine ldB_o H (by repeat (first | exact Pick.here | apply Pick.there)) (by rfl) ?_ | refine ldP_o H (by repeat (first | exact Pick.here | apply Pick.there)) (by rfl) ?_ | refine ldS_o H (by repeat (first | exact Pick.here | apply Pick.there)) (by rfl) ?_)
  refine call_o H (bind_i hI1 b n k d e) (by repeat (first | exact Cut.nil | (apply Cut.cons; (repeat (first | exact Pick.here | apply Pick.there))))) fun vx L' wx hq H => ?_
  rw [twice] at hq
  obtain ⟨rfl, rfl⟩ := hq
  simp only [List.cons_append, List.nil_append] at H
  refine ⟨_, _, rfl, join_o (cnd_i (fun h => by simp at h) fun _ => cnd_i (fun h => by simp at h) fun _ => ?_)⟩
  refine call_o H (list_t hI1 b n k) (by repeat (first | exact Cut.nil | (apply Cut.cons; (repeat (first | exact Pick.here | apply Pick.there))))) fun vx L' wx hq H => ?_
  obtain ⟨p2, c2, rfl, rfl⟩ := hq
  simp only [List.cons_append, List.nil_append] at H
  refine ⟨_, _, _, rfl, ?_⟩
  have hll : (listL A1).length ≤ 1000000000 := by rw [listL_len]; have := hI1.lenA; omega
  refine call_p H (refSame_t (nums p2 c2 (listL A1)) own_sl (nums p1 c1 (listL A1)) own_sl hll) (by repeat (first | exact Cut.nil | (apply Cut.cons; (repeat (first | exact Pick.here | apply Pick.there))))) fun wx H => ?_
  refine ⟨_, rfl, cnd_i (fun h => by simp at h) fun _ => ?_⟩
  repeat (first | refine ldI_o H (by repeat (first | exact Pick.here | apply Pick.there)) (by rfl) ?_ | refine ldL_o H (by repeat (first | exact Pick.here | apply Pick.there)) (by rfl) ?_ | refine ldB_o H (by repeat (first | exact Pick.here | apply Pick.there)) (by rfl) ?_ | refine ldP_o H (by repeat (first | exact Pick.here | apply Pick.there)) (by rfl) ?_ | refine ldS_o H (by repeat (first | exact Pick.here | apply Pick.there)) (by rfl) ?_)
  refine call_p H (may_t d e) (by repeat (first | exact Cut.nil | (apply Cut.cons; (repeat (first | exact Pick.here | apply Pick.there))))) fun wx H => ?_
  refine ⟨_, rfl, ?_⟩
  unfold crierlaw25_ShadowBound_j1
  rcases hcases with ⟨rfl, hmay, hlk⟩ | ⟨rfl, hmay, hlk⟩ | ⟨rfl, hmay⟩
  · refine cnd_i (fun h => by simp [hmay] at h) fun _ => ?_
    repeat (first | refine ldI_o H (by repeat (first | exact Pick.here | apply Pick.there)) (by rfl) ?_ | refine ldL_o H (by repeat (first | exact Pick.here | apply Pick.there)) (by rfl) ?_ | refine ldB_o H (by repeat (first | exact Pick.here | apply Pick.there)) (by rfl) ?_ | refine ldP_o H (by repeat (first | exact Pick.here | apply Pick.there)) (by rfl) ?_ | refine ldS_o H (by repeat (first | exact Pick.here | apply Pick.there)) (by rfl) ?_)
    refine call_o H (free_t b n k (m % 41) A1 B1 d e) (by repeat (first | exact Cut.nil | (apply Cut.cons; (repeat (first | exact Pick.here | apply Pick.there))))) fun vx L' wx hq H => ?_
    rw [free_of hmay hlk] at hq
    obtain ⟨rfl, rfl⟩ := hq
    simp only [List.cons_append, List.nil_append] at H
    refine ⟨_, _, rfl, ?_⟩
    repeat (first | refine ldI_o H (by repeat (first | exact Pick.here | apply Pick.there)) (by rfl) ?_ | refine ldL_o H (by repeat (first | exact Pick.here | apply Pick.there)) (by rfl) ?_ | refine ldB_o H (by repeat (first | exact Pick.here | apply Pick.there)) (by rfl) ?_ | refine ldP_o H (by repeat (first | exact Pick.here | apply Pick.there)) (by rfl) ?_ | refine ldS_o H (by repeat (first | exact Pick.here | apply Pick.there)) (by rfl) ?_)
    refine call_o H (free_t b n k (m % 41) (takeK A1 (keyI d e)) (takeK B1 r1) d e) (by repeat (first | exact Cut.nil | (apply Cut.cons; (repeat (first | exact Pick.here | apply Pick.there))))) fun vx L' wx hq H => ?_
    have : freeM (takeK A1 (keyI d e)) (takeK B1 r1) d e = ((0, 250), takeK A1 (keyI d e), takeK B1 r1) := by
      unfold freeM
      rw [if_neg (by rw [hmay]; decide), if_pos (by rw [hasK_lk, lk_take hI1.upA, if_pos rfl]; rfl)]
    rw [this] at hq
    obtain ⟨rfl, rfl⟩ := hq
    simp only [List.cons_append, List.nil_append] at H
    refine ⟨_, _, rfl, join_o (cnd_i (fun _ => cnd_i (fun _ => cnd_i (fun _ => ?_) (fun h => by cases h)) (fun h => by cases h)) (fun h => by cases h))⟩
    unfold crierlaw25_ShadowBound_j0
    exact ⟨rfl, keep_done H (by repeat (first | exact Pick.here | apply Pick.there))⟩
  · refine cnd_i (fun h => by simp [hmay] at h) fun _ => ?_
    have hf : freeM A1 B1 d e = ((0, 250), A1, B1) := by
      unfold freeM
      rw [if_neg (by rw [hmay]; decide), if_pos (by rw [hasK_lk, hlk]; rfl)]
    repeat (first | refine ldI_o H (by repeat (first | exact Pick.here | apply Pick.there)) (by rfl) ?_ | refine ldL_o H (by repeat (first | exact Pick.here | apply Pick.there)) (by rfl) ?_ | refine ldB_o H (by repeat (first | exact Pick.here | apply Pick.there)) (by rfl) ?_ | refine ldP_o H (by repeat (first | exact Pick.here | apply Pick.there)) (by rfl) ?_ | refine ldS_o H (by repeat (first | exact Pick.here | apply Pick.there)) (by rfl) ?_)
    refine call_o H (free_t b n k (m % 41) A1 B1 d e) (by repeat (first | exact Cut.nil | (apply Cut.cons; (repeat (first | exact Pick.here | apply Pick.there))))) fun vx L' wx hq H => ?_
    rw [hf] at hq
    obtain ⟨rfl, rfl⟩ := hq
    simp only [List.cons_append, List.nil_append] at H
    refine ⟨_, _, rfl, ?_⟩
    repeat (first | refine ldI_o H (by repeat (first | exact Pick.here | apply Pick.there)) (by rfl) ?_ | refine ldL_o H (by repeat (first | exact Pick.here | apply Pick.there)) (by rfl) ?_ | refine ldB_o H (by repeat (first | exact Pick.here | apply Pick.there)) (by rfl) ?_ | refine ldP_o H (by repeat (first | exact Pick.here | apply Pick.there)) (by rfl) ?_ | refine ldS_o H (by repeat (first | exact Pick.here | apply Pick.there)) (by rfl) ?_)
    refine call_o H (free_t b n k (m % 41) A1 B1 d e) (by repeat (first | exact Cut.nil | (apply Cut.cons; (repeat (first | exact Pick.here | apply Pick.there))))) fun vx L' wx hq H => ?_
    rw [hf] at hq
    obtain ⟨rfl, rfl⟩ := hq
    simp only [List.cons_append, List.nil_append] at H
    refine ⟨_, _, rfl, join_o (cnd_i (fun h => by cases h) fun _ => cnd_i (fun _ => cnd_i (fun _ => cnd_i (fun _ => ?_) fun h => by simp at h) (fun h => by cases h)) (fun h => by cases h))⟩
    unfold crierlaw25_ShadowBound_j0
    exact ⟨rfl, keep_done H (by repeat (first | exact Pick.here | apply Pick.there))⟩
  · refine cnd_i (fun h => by simp [hmay] at h) fun _ => ?_
    have hf : freeM A1 B1 d e = ((0, 1), A1, B1) := by
      unfold freeM
      rw [if_pos hmay]
    repeat (first | refine ldI_o H (by repeat (first | exact Pick.here | apply Pick.there)) (by rfl) ?_ | refine ldL_o H (by repeat (first | exact Pick.here | apply Pick.there)) (by rfl) ?_ | refine ldB_o H (by repeat (first | exact Pick.here | apply Pick.there)) (by rfl) ?_ | refine ldP_o H (by repeat (first | exact Pick.here | apply Pick.there)) (by rfl) ?_ | refine ldS_o H (by repeat (first | exact Pick.here | apply Pick.there)) (by rfl) ?_)
    refine call_o H (free_t b n k (m % 41) A1 B1 d e) (by repeat (first | exact Cut.nil | (apply Cut.cons; (repeat (first | exact Pick.here | apply Pick.there))))) fun vx L' wx hq H => ?_
    rw [hf] at hq
    obtain ⟨rfl, rfl⟩ := hq
    simp only [List.cons_append, List.nil_append] at H
    refine ⟨_, _, rfl, ?_⟩
    repeat (first | refine ldI_o H (by repeat (first | exact Pick.here | apply Pick.there)) (by rfl) ?_ | refine ldL_o H (by repeat (first | exact Pick.here | apply Pick.there)) (by rfl) ?_ | refine ldB_o H (by repeat (first | exact Pick.here | apply Pick.there)) (by rfl) ?_ | refine ldP_o H (by repeat (first | exact Pick.here | apply Pick.there)) (by rfl) ?_ | refine ldS_o H (by repeat (first | exact Pick.here | apply Pick.there)) (by rfl) ?_)
    refine call_o H (free_t b n k (m % 41) A1 B1 d e) (by repeat (first | exact Cut.nil | (apply Cut.cons; (repeat (first | exact Pick.here | apply Pick.there))))) fun vx L' wx hq H => ?_
    rw [hf] at hq
    obtain ⟨rfl, rfl⟩ := hq
    simp only [List.cons_append, List.nil_append] at H
    refine ⟨_, _, rfl, join_o (cnd_i (fun h => by cases h) fun _ => cnd_i (fun h => by cases h) fun _ => cnd_i (fun _ => cnd_i (fun _ => ?_) fun h => by simp at h) fun h => by simp at h)⟩
    unfold crierlaw25_ShadowBound_j0
    exact ⟨rfl, keep_done H (by repeat (first | exact Pick.here | apply Pick.there))⟩
end Go.Proofs.Ytmobpenjbaaicaa
