/-
  shadow: whether both are alike; ShadowDoes.
-/
import Derived.Test.YtmobpenjbaaicaaL17
namespace Go.Proofs.Ytmobpenjbaaicaa
open Go Go.RowKit X
set_option maxRecDepth 100000
set_option linter.unusedVariables false
set_option linter.unusedSimpArgs false
set_option maxHeartbeats 1000000
variable {many : Int} {A B : List (Int × Int)} {d e d' e' n : Int}
def flat2 (l : List (Int × Int)) : List Int := l.flatMap fun u => [u.1, u.2]
theorem flat2_len (l : List (Int × Int)) : (flat2 l).length = 2 * l.length := by
  induction l with
  | nil => rfl
  | cons x r ih => unfold flat2 at *; rw [List.flatMap_cons, List.length_append, ih]; simp; omega
theorem flat2_append (a b : List (Int × Int)) : flat2 (a ++ b) = flat2 a ++ flat2 b := by simp [flat2]
theorem Inv.of16 (h : Inv many A B) (d : Int) : (ofL A d).length ≤ 16 := by
  have h1 := h.of_up d
  have := up_len (lo := 0) (hi := 16) (xs := ks (ofL A d)) (by unfold ks; rw [List.pairwise_map]; exact h1) fun x hx => by
    obtain ⟨u, hu, rfl⟩ := List.mem_map.1 hx
    obtain ⟨v, hv, _, rfl⟩ := of_mem hu
    show 0 ≤ v.1 % 16 ∧ v.1 % 16 < 16
    omega
  rw [ks_len] at this; omega
theorem listL_at {A : List (Int × Int)} : ∀ {k : Nat} {u : Int × Int}, A[k]? = some u → (listL A)[3 * k]? = some (u.1 / 16) ∧ (listL A)[3 * k + 1]? = some (u.1 % 16) ∧ (listL A)[3 * k + 2]? = some u.2 := by
  induction A with
  | nil => intro k u h; cases h
  | cons x r ih =>
    intro k u h
    have e : listL (x :: r) = x.1 / 16 :: x.1 % 16 :: x.2 :: listL r := rfl
    rw [e]
    cases k with
    | zero => cases h; exact ⟨rfl, rfl, rfl⟩
    | succ k =>
      have := ih (k := k) (u := u) (by simpa using h)
      rw [show 3 * (k + 1) = 3 * k + 1 + 1 + 1 by omega, show 3 * k + 1 + 1 + 1 + 1 = 3 * k + 1 + 1 + 1 + 1 by omega, show 3 * k + 1 + 1 + 1 + 2 = 3 * k + 2 + 1 + 1 + 1 by omega]
      simpa using this
theorem ofL_take {u : Int × Int} {k : Nat} (hu : A[k]? = some u) (d : Int) : ofL (A.take (k + 1)) d = ofL (A.take k) d ++ if u.1 / 16 = d then [(u.1 % 16, u.2)] else [] := by
  unfold ofL
  rw [List.take_add_one, hu, List.filter_append, List.map_append]
  by_cases h : u.1 / 16 = d <;> simp [h]
theorem ofL_len_take (k : Nat) (d : Int) : (ofL (A.take k) d).length ≤ A.length := Nat.le_trans (of_le _ _) (by rw [List.length_take]; omega)
theorem alike_t (h : Inv many A B) (b n k br : Nat) (d e : Int) : Tri P F.crierlaw25_alike [bptr b, bptr br, evV d e] (refI br (refOf many B) :: shL b n k many A B)
    fun v L' => v = .bool true ∧ L' = refI br (refOf many B) :: shL b n k many A B := by
  intro w S hS
  refine crierlaw25_alike_cv ?_
  unfold crierlaw25_alike
  have H := Own.start hS
  have hlA := h.lenA
  have hlen := listL_len A
  refine alc_o H fun b5 wx H => ?_
  refine call_o H (ref_all_t h br) (by repeat (first | exact Cut.nil | (apply Cut.cons; (repeat (first | exact Pick.here | apply Pick.there))))) fun vx L' wx hq H => ?_
  obtain ⟨p9, c11, rfl, rfl⟩ := hq
  simp only [List.cons_append, List.nil_append] at H
  refine ⟨_, _, _, rfl, join_o ?_⟩
  refine call_p H (len_sh_t b n k many A B) (by repeat (first | exact Cut.nil | (apply Cut.cons; (repeat (first | exact Pick.here | apply Pick.there))))) fun wx H => ?_
  refine ⟨_, rfl, by omega, ?_⟩
  rw [show Int.tdiv ((listL A).length : Int) 3 = (A.length : Int) by rw [hlen, Int.tdiv_eq_ediv_of_nonneg (by omega)]; omega, W_id (by omega) (by omega)]
  refine cnd_i (fun h => by simp at h) fun _ => ?_
  refine call_o H (list_t h b n k) (by repeat (first | exact Cut.nil | (apply Cut.cons; (repeat (first | exact Pick.here | apply Pick.there))))) fun vx L' wx hq H => ?_
  obtain ⟨p1, c1, rfl, rfl⟩ := hq
  simp only [List.cons_append, List.nil_append] at H
  refine ⟨_, _, _, rfl, ?_⟩
  refine call_p H (refSame_t (nums p1 c1 (listL A)) (p := p1) (q := p9) (c := c1) (d := c11) (xs := listL A) (ys := listL A) own_sl (nums p9 c11 (listL A)) own_sl (by omega)) (by repeat (first | exact Cut.nil | (apply Cut.cons; (repeat (first | exact Pick.here | apply Pick.there))))) fun wx H => ?_
  refine ⟨_, rfl, ?_⟩
  unfold crierlaw25_alike_j5
  refine cnd_i (fun h => by simp at h) fun _ => ?_
  repeat (first | refine ldI_o H (by repeat (first | exact Pick.here | apply Pick.there)) (by rfl) ?_ | refine ldL_o H (by repeat (first | exact Pick.here | apply Pick.there)) (by rfl) ?_ | refine ldB_o H (by repeat (first | exact Pick.here | apply Pick.there)) (by rfl) ?_ | refine ldP_o H (by repeat (first | exact Pick.here | apply Pick.there)) (by rfl) ?_ | refine ldS_o H (by repeat (first | exact Pick.here | apply Pick.there)) (by rfl) ?_)
  refine call_p H (number_t b n k many A B d e) (by repeat (first | exact Cut.nil | (apply Cut.cons; (repeat (first | exact Pick.here | apply Pick.there))))) fun wx H => ?_
  refine ⟨_, _, rfl, ?_⟩
  repeat (first | refine ldI_o H (by repeat (first | exact Pick.here | apply Pick.there)) (by rfl) ?_ | refine ldL_o H (by repeat (first | exact Pick.here | apply Pick.there)) (by rfl) ?_ | refine ldB_o H (by repeat (first | exact Pick.here | apply Pick.there)) (by rfl) ?_ | refine ldP_o H (by repeat (first | exact Pick.here | apply Pick.there)) (by rfl) ?_ | refine ldS_o H (by repeat (first | exact Pick.here | apply Pick.there)) (by rfl) ?_)
  refine call_p H (find_i h br d e) (by repeat (first | exact Cut.nil | (apply Cut.cons; (repeat (first | exact Pick.here | apply Pick.there))))) fun wx H => ?_
  refine ⟨_, rfl, alc_o H fun b26 wx H => ?_⟩
  repeat (first | refine ldI_o H (by repeat (first | exact Pick.here | apply Pick.there)) (by rfl) ?_ | refine ldL_o H (by repeat (first | exact Pick.here | apply Pick.there)) (by rfl) ?_ | refine ldB_o H (by repeat (first | exact Pick.here | apply Pick.there)) (by rfl) ?_ | refine ldP_o H (by repeat (first | exact Pick.here | apply Pick.there)) (by rfl) ?_ | refine ldS_o H (by repeat (first | exact Pick.here | apply Pick.there)) (by rfl) ?_)
  refine call_o H (of_sh_t b n k many A B d) (by repeat (first | exact Cut.nil | (apply Cut.cons; (repeat (first | exact Pick.here | apply Pick.there))))) fun vx L' wx hq H => ?_
  obtain ⟨o, rfl, rfl⟩ := hq
  refine ⟨_, rfl, join_o ?_⟩
  have H := own_nil (e := tInt) (size := 1) H
  let R : List It := [nums p9 c11 (listL A), refI br (refOf many B), row b5 [.int .i64 d, .int .i64 e] T.t24]
  let rows : Nat → Option Addr → Nat → List It := fun k' p c => own tInt 1 (.slice p (2 * k') c) (2 * k') (i64s (flat2 ((ofL A d).take k'))) :: row b26 [.slice p (2 * k') c] T.t37 :: (shL b n k many A B ++ R)
  have H : X.Own w S (rows 0 none 0 ++ ofE o d A) wx := by
    have H := H.drop (L1 := ofE o d A ++ rows 0 none 0) (by dsimp only [rows, R]; unfold ofE allE thrE; simp only [List.cons_append, List.nil_append]; exact (by repeat (first | exact Cut.nil | (apply Cut.cons; (repeat (first | exact Pick.here | apply Pick.there))))))
    exact own_comm H
  have hol := of_le A d
  have h16 := h.of16 d
  refine rf_o (fun k' Li => ∃ p c, Li = rows k' p c) (fun _ _ => False)
    of_enters (of_it o d A (by omega) fun u hu => by have := h.memA u hu; omega) (ofL_len A d) H ⟨none, 0, rfl⟩ ?_ ?_ ?_
  · rintro k' x _ F l r dd wx Q2 hx ⟨p, c, rfl⟩ H hgo hdone
    obtain ⟨u, hu, rfl⟩ := pairs_at hx
    have hk' := (List.getElem?_eq_some_iff.1 hu).1
    unfold crierlaw25_alike_r4
    dsimp only [X.b2]
    dsimp only [rows, R] at H
    simp only [List.cons_append, List.nil_append] at H
    refine ⟨_, rfl, _, rfl, rec_o H .here fun wx H => ?_⟩
    repeat (first | refine ldI_o H (by repeat (first | exact Pick.here | apply Pick.there)) (by rfl) ?_ | refine ldL_o H (by repeat (first | exact Pick.here | apply Pick.there)) (by rfl) ?_ | refine ldB_o H (by repeat (first | exact Pick.here | apply Pick.there)) (by rfl) ?_ | refine ldP_o H (by repeat (first | exact Pick.here | apply Pick.there)) (by rfl) ?_ | refine ldS_o H (by repeat (first | exact Pick.here | apply Pick.there)) (by rfl) ?_)
    refine alc_o H fun b151 wx H => ?_
    refine app_n (m := 2) (b := b151) (ys := [u.1, u.2]) (t := T.t3) H (by repeat (first | exact Pick.here | apply Pick.there)) .here rfl (by omega) fun p2 c2 wx H => ?_
    refine st1_o H (by repeat (first | exact Rep.here | apply Rep.there)) (by simp) fun wx H => ?_
    simp only [List.set_cons_zero, List.set_cons_succ] at H
    repeat (first | refine ldI_o H (by repeat (first | exact Pick.here | apply Pick.there)) (by rfl) ?_ | refine ldL_o H (by repeat (first | exact Pick.here | apply Pick.there)) (by rfl) ?_ | refine ldB_o H (by repeat (first | exact Pick.here | apply Pick.there)) (by rfl) ?_ | refine ldP_o H (by repeat (first | exact Pick.here | apply Pick.there)) (by rfl) ?_ | refine ldS_o H (by repeat (first | exact Pick.here | apply Pick.there)) (by rfl) ?_)
    refine cnd_i (fun hc => absurd (of_decide_eq_true hc) (by omega)) fun _ => ?_
    refine rec_o H (by repeat (first | exact Rep.here | apply Rep.there)) fun wx H => ?_
    have e : flat2 ((ofL A d).take k') ++ [u.1, u.2] = flat2 ((ofL A d).take (k' + 1)) := by
      rw [List.take_add_one, hu, flat2_append]; rfl
    rw [e] at H
    refine hgo (rows (k' + 1) p2 c2) wx ⟨p2, c2, rfl⟩ ?_
    have H := H.rest (L1 := [row b151 (i64s [u.1, u.2]) T.t3]) (by repeat (first | exact Cut.nil | (apply Cut.cons; (repeat (first | exact Pick.here | apply Pick.there)))))
    exact H.perm (L1 := [recI l r .ready none, defI dd, own tInt 1 (.slice p2 (2 * (k' + 1)) c2) (2 * (k' + 1)) (i64s (flat2 ((ofL A d).take (k' + 1)))), row b26 [.slice p2 (2 * (k' + 1)) c2] T.t37]) (by repeat (first | exact Cut.nil | (apply Cut.cons; (repeat (first | exact Pick.here | apply Pick.there)))))
  · rintro dd _ wx ⟨p, c, rfl⟩ H
    dsimp only [jmpX]
    unfold crierlaw25_alike_j3
    rw [pairs_length] at H
    let rows3 : Nat → Option Addr → Nat → List It := fun k' q cq => own tInt 1 (.slice q (2 * (ofL (A.take k') d).length) cq) (2 * (ofL (A.take k') d).length) (i64s (flat2 (ofL (A.take k') d))) :: defI dd :: rows (ofL A d).length p c
    have H := own_nil (e := tInt) (size := 1) H
    have H : X.Own w S (rows3 0 none 0) wx := own_left (B := ofE o d A) H
    refine loop_o (fun (st : (Option Addr × Nat × Nat) × Int) L => ∃ (k' : Nat) (q : Option Addr) (cq : Nat), k' ≤ A.length ∧ st = ((q, 2 * (ofL (A.take k') d).length, cq), ((3 * k' : Nat) : Int)) ∧ L = rows3 k' q cq) (fun (st : (Option Addr × Nat × Nat) × Int) => (((3 * A.length : Nat) : Int) - st.2).toNat) H
      ⟨0, none, 0, by omega, rfl, rfl⟩ ?_
    rintro _ _ wx ⟨k', q, cq, hk', rfl, rfl⟩ H
    have holt := ofL_len_take (A := A) k' d
    dsimp only [rows3, rows, R] at H
    simp only [List.cons_append, List.nil_append] at H
    unfold crierlaw25_alike_l2
    refine cnd_i (fun hc => join_o ?_) fun hc => join_o ?_
    · have hc := of_decide_eq_true hc
      dsimp only at hc
      have hlt : k' < A.length := by omega
      obtain ⟨u, hu⟩ : ∃ u, A[k']? = some u := ⟨_, List.getElem?_eq_getElem hlt⟩
      obtain ⟨g0, g1, g2⟩ := listL_at hu
      have hnext := ofL_take hu d
      dsimp only
      refine drw_o H fun wx H => ?_
      refine rd_n H (by repeat (first | exact Pick.here | apply Pick.there)) (g0) ?_
      repeat (first | refine ldI_o H (by repeat (first | exact Pick.here | apply Pick.there)) (by rfl) ?_ | refine ldL_o H (by repeat (first | exact Pick.here | apply Pick.there)) (by rfl) ?_ | refine ldB_o H (by repeat (first | exact Pick.here | apply Pick.there)) (by rfl) ?_ | refine ldP_o H (by repeat (first | exact Pick.here | apply Pick.there)) (by rfl) ?_ | refine ldS_o H (by repeat (first | exact Pick.here | apply Pick.there)) (by rfl) ?_)
      refine cnd_i (fun he => ?_) fun he => ?_
      · have he : u.1 / 16 = d := by simpa using he
        rw [if_pos he] at hnext
        refine drw_o H fun wx H => ?_
        rw [show (((3 * k' : Nat) : Int) + 1) = ((3 * k' + 1 : Nat) : Int) by push_cast; rfl, show (((3 * k' : Nat) : Int) + 2) = ((3 * k' + 2 : Nat) : Int) by push_cast; rfl, W_id (by omega) (by omega), W_id (by omega) (by omega)]
        refine rd_n H (by repeat (first | exact Pick.here | apply Pick.there)) (g1) ?_
        refine rd_n H (by repeat (first | exact Pick.here | apply Pick.there)) (g2) ?_
        refine alc_o H fun b64 wx H => ?_
        refine app_n (p := q) (n := 2 * (ofL (A.take k') d).length) (c := cq) (m := 2) (b := b64) (ys := [u.1 % 16, u.2]) (t := T.t3) H (.there .here) .here rfl (by omega) fun p2 c2 wx H => ?_
        unfold crierlaw25_alike_j0
        have e1 : flat2 (ofL (A.take k') d) ++ [u.1 % 16, u.2] = flat2 (ofL (A.take (k' + 1)) d) := by rw [hnext, flat2_append]; rfl
        have e2 : 2 * (ofL (A.take k') d).length + 2 = 2 * (ofL (A.take (k' + 1)) d).length := by rw [hnext]; simp; omega
        rw [e1, e2] at H
        rw [W_id (by omega) (by omega), e2]
        exact ⟨⟨_, ⟨k' + 1, p2, c2, by omega, by push_cast; rfl, rfl⟩, H.drop (by dsimp only [rows3, rows, R]; simp only [List.cons_append, List.nil_append]; exact (by repeat (first | exact Cut.nil | (apply Cut.cons; (repeat (first | exact Pick.here | apply Pick.there))))))⟩, by show (((3 * A.length : Nat) : Int) - (((3 * k' : Nat) : Int) + 3)).toNat < (((3 * A.length : Nat) : Int) - ((3 * k' : Nat) : Int)).toNat; omega⟩
      · have he : ¬ u.1 / 16 = d := by simpa using he
        rw [if_neg he, List.append_nil] at hnext
        unfold crierlaw25_alike_j0
        rw [W_id (by omega) (by omega)]
        refine ⟨⟨_, ⟨k' + 1, q, cq, by omega, by rw [hnext]; push_cast; rfl, rfl⟩, ?_⟩, by show (((3 * A.length : Nat) : Int) - (((3 * k' : Nat) : Int) + 3)).toNat < (((3 * A.length : Nat) : Int) - ((3 * k' : Nat) : Int)).toNat; omega⟩
        dsimp only [rows3]
        rw [hnext]
        exact H
    · have hc := of_decide_eq_false hc
      dsimp only at hc
      have hk : k' = A.length := by omega
      subst hk
      rw [List.take_length] at H ⊢
      rw [List.take_length] at H
      dsimp only
      refine drw_o H fun wx H => ?_
      repeat (first | refine ldI_o H (by repeat (first | exact Pick.here | apply Pick.there)) (by rfl) ?_ | refine ldL_o H (by repeat (first | exact Pick.here | apply Pick.there)) (by rfl) ?_ | refine ldB_o H (by repeat (first | exact Pick.here | apply Pick.there)) (by rfl) ?_ | refine ldP_o H (by repeat (first | exact Pick.here | apply Pick.there)) (by rfl) ?_ | refine ldS_o H (by repeat (first | exact Pick.here | apply Pick.there)) (by rfl) ?_)
      have hf2 := flat2_len (ofL A d)
      have hsame := refSame_t (own tInt 1 (.slice p (2 * (ofL A d).length) c) (2 * (ofL A d).length) (i64s (flat2 (ofL A d)))) (p := p) (q := q) (c := c) (d := cq) (xs := flat2 (ofL A d)) (ys := flat2 (ofL A d)) own_sl (own tInt 1 (.slice q (2 * (ofL A d).length) cq) (2 * (ofL A d).length) (i64s (flat2 (ofL A d)))) own_sl (by omega)
      rw [hf2] at hsame
      refine call_p H hsame (.cons (.there (.there .here)) (.cons .here .nil)) fun wx H => ?_
      refine ⟨_, rfl, cnd_i (fun _ => ?_) fun h => by simp at h⟩
      have fin : ∀ wx, X.Own w S (own tInt 1 (.slice q (2 * (ofL A d).length) cq) (2 * (ofL A d).length) (i64s (flat2 (ofL A d))) :: defI dd :: rows (ofL A d).length p c) wx → crierlaw25_alike_j1 (fun v w' => ∃ L', (v = .bool true ∧ L' = refI br (refOf many B) :: shL b n k many A B) ∧ X.Own w S L' w') [{ target := .collected dd, args := #[] }] true wx := by
        intro wx H
        unfold crierlaw25_alike_j1
        refine take1_o H (.there .here) fun wx H => ?_
        dsimp only [rows, R] at H
        simp only [List.cons_append, List.nil_append] at H
        exact ⟨_, ⟨rfl, rfl⟩, H.drop (by repeat (first | exact Cut.nil | (apply Cut.cons; (repeat (first | exact Pick.here | apply Pick.there)))))⟩
      by_cases hcase : mayB d e = true ∧ ∃ z, lk A (keyI d e) = some z
      · obtain ⟨hm, z, hz⟩ := hcase
        have hr := h.rng _ _ hz
        rw [num_of hm hz, show findR A d e = z by unfold findR; rw [if_pos ⟨hm, (lk_has hz).1⟩, (lk_has hz).2]]
        refine cnd_i (fun _ => cnd_i (fun _ => cnd_i (fun _ => ?_) (fun h => by cases h)) fun h => by simp at h) fun h => absurd (of_decide_eq_false h) (by omega)
        repeat (first | refine ldI_o H (by repeat (first | exact Pick.here | apply Pick.there)) (by rfl) ?_ | refine ldL_o H (by repeat (first | exact Pick.here | apply Pick.there)) (by rfl) ?_ | refine ldB_o H (by repeat (first | exact Pick.here | apply Pick.there)) (by rfl) ?_ | refine ldP_o H (by repeat (first | exact Pick.here | apply Pick.there)) (by rfl) ?_ | refine ldS_o H (by repeat (first | exact Pick.here | apply Pick.there)) (by rfl) ?_)
        refine call_p H (may_t d e) (by repeat (first | exact Cut.nil | (apply Cut.cons; (repeat (first | exact Pick.here | apply Pick.there))))) fun wx H => ?_
        refine ⟨_, rfl, ?_, ?_, ?_⟩
        · repeat (first | refine ldI_o H (by repeat (first | exact Pick.here | apply Pick.there)) (by rfl) ?_ | refine ldL_o H (by repeat (first | exact Pick.here | apply Pick.there)) (by rfl) ?_ | refine ldB_o H (by repeat (first | exact Pick.here | apply Pick.there)) (by rfl) ?_ | refine ldP_o H (by repeat (first | exact Pick.here | apply Pick.there)) (by rfl) ?_ | refine ldS_o H (by repeat (first | exact Pick.here | apply Pick.there)) (by rfl) ?_)
          rfl
        · repeat (first | refine ldI_o H (by repeat (first | exact Pick.here | apply Pick.there)) (by rfl) ?_ | refine ldL_o H (by repeat (first | exact Pick.here | apply Pick.there)) (by rfl) ?_ | refine ldB_o H (by repeat (first | exact Pick.here | apply Pick.there)) (by rfl) ?_ | refine ldP_o H (by repeat (first | exact Pick.here | apply Pick.there)) (by rfl) ?_ | refine ldS_o H (by repeat (first | exact Pick.here | apply Pick.there)) (by rfl) ?_)
          rfl
        refine call_p H (may_ref_t d e) (by repeat (first | exact Cut.nil | (apply Cut.cons; (repeat (first | exact Pick.here | apply Pick.there))))) fun wx H => ?_
        refine ⟨_, rfl, ?_⟩
        rw [beq_self_eq_true]
        exact fin _ (by dsimp only [rows, R]; rw [List.take_length]; exact H)
      · have hn : numR A d e = (0, 250) := num_not fun hm => by
          cases hz : lk A (keyI d e) with
          | none => rfl
          | some z => exact absurd ⟨hm, z, hz⟩ hcase
        have hf : findR A d e = -1 := by
          unfold findR
          rw [if_neg]
          rintro ⟨hm, hh⟩
          exact hcase ⟨hm, _, has_lk hh⟩
        rw [hn, hf]
        refine cnd_i (fun h => absurd (of_decide_eq_true h) (by omega)) fun _ => cnd_i (fun _ => cnd_i (fun _ => cnd_i (fun _ => ?_) (fun h => by cases h)) (fun h => by cases h)) fun h => absurd (of_decide_eq_false h) (by omega)
        repeat (first | refine ldI_o H (by repeat (first | exact Pick.here | apply Pick.there)) (by rfl) ?_ | refine ldL_o H (by repeat (first | exact Pick.here | apply Pick.there)) (by rfl) ?_ | refine ldB_o H (by repeat (first | exact Pick.here | apply Pick.there)) (by rfl) ?_ | refine ldP_o H (by repeat (first | exact Pick.here | apply Pick.there)) (by rfl) ?_ | refine ldS_o H (by repeat (first | exact Pick.here | apply Pick.there)) (by rfl) ?_)
        refine call_p H (may_t d e) (by repeat (first | exact Cut.nil | (apply Cut.cons; (repeat (first | exact Pick.here | apply Pick.there))))) fun wx H => ?_
        refine ⟨_, rfl, ?_, ?_, ?_⟩
        · repeat (first | refine ldI_o H (by repeat (first | exact Pick.here | apply Pick.there)) (by rfl) ?_ | refine ldL_o H (by repeat (first | exact Pick.here | apply Pick.there)) (by rfl) ?_ | refine ldB_o H (by repeat (first | exact Pick.here | apply Pick.there)) (by rfl) ?_ | refine ldP_o H (by repeat (first | exact Pick.here | apply Pick.there)) (by rfl) ?_ | refine ldS_o H (by repeat (first | exact Pick.here | apply Pick.there)) (by rfl) ?_)
          rfl
        · repeat (first | refine ldI_o H (by repeat (first | exact Pick.here | apply Pick.there)) (by rfl) ?_ | refine ldL_o H (by repeat (first | exact Pick.here | apply Pick.there)) (by rfl) ?_ | refine ldB_o H (by repeat (first | exact Pick.here | apply Pick.there)) (by rfl) ?_ | refine ldP_o H (by repeat (first | exact Pick.here | apply Pick.there)) (by rfl) ?_ | refine ldS_o H (by repeat (first | exact Pick.here | apply Pick.there)) (by rfl) ?_)
          rfl
        refine call_p H (may_ref_t d e) (by repeat (first | exact Cut.nil | (apply Cut.cons; (repeat (first | exact Pick.here | apply Pick.there))))) fun wx H => ?_
        refine ⟨_, rfl, ?_⟩
        rw [beq_self_eq_true]
        exact fin _ (by dsimp only [rows, R]; rw [List.take_length]; exact H)
  · rintro dd c _ wx hD H
    exact hD.elim
end Go.Proofs.Ytmobpenjbaaicaa
