/-
  queue: the document's queue.
-/
import Derived.Test.YtggchklafbpgpaaQA
import Derived.Test.YtggchklafbpgpaaE11
import Derived.Test.YtggchklafbpgpaaT5
namespace Go.Proofs.Ytggchklafbpgpaa
open Go Go.RowKit X
set_option maxRecDepth 100000
set_option linter.unusedVariables false
set_option linter.unusedSimpArgs false
set_option maxHeartbeats 1000000
theorem right_form {s : Int} (hs : s ≤ 9223372036854775807) (h : rightB s 32 = true) : ∃ N : Nat, s = 32 * (N : Int) ∧ 1 ≤ N ∧ N ≤ 1024 := by
  obtain ⟨h1, h2, h3, h4⟩ := right_pos h
  rw [Int.tmod_eq_emod_of_nonneg (by omega)] at h3
  unfold W at h4
  rw [Int.tdiv_eq_ediv_of_nonneg (by omega), W_id (by omega) (by omega)] at h4
  exact ⟨(s / 32).toNat, by omega, by omega, by omega⟩
theorem may_form {s a : Int} (hs : s ≤ 9223372036854775807) (h : mayB s 32 a = true) : ∃ N i : Nat, s = 32 * (N : Int) ∧ a = 32 * (i : Int) ∧ i < N ∧ N ≤ 1024 := by
  obtain ⟨N, rfl, h1, h2⟩ := right_form hs (may_right h)
  unfold mayB at h
  simp only [Bool.and_eq_true, decide_eq_true_eq, beq_iff_eq] at h
  obtain ⟨-, g1, g2, g3⟩ := h
  rw [Int.tmod_eq_emod_of_nonneg (by omega)] at g3
  exact ⟨N, (a / 32).toNat, rfl, by omega, by omega, h2⟩
theorem refRight_t (s : Int) : Tri P F.crierref02_Right [.int .i64 s, .int .i64 32] [] fun v L' => v = .bool (rightB s 32) ∧ L' = [] := by
  intro w S hS
  refine crierref02_Right_cv ?_
  unfold crierref02_Right
  have H := Own.start hS
  refine join_o (cnd_i (fun h => by cases h) fun _ => ?_)
  unfold crierref02_Right_j1 crierref02_Right_j0
  have fin : ∀ b : Bool, b = rightB s 32 → ∃ L', ((Value.bool b) = .bool (rightB s 32) ∧ L' = []) ∧ X.Own w S L' w := fun b h => ⟨_, ⟨by rw [h], rfl⟩, H⟩
  refine cnd_i (fun h => fin _ ?_) fun h => join_o ⟨by omega, cnd_i (fun h2 => ⟨by omega, fin _ ?_⟩) fun h2 => fin _ ?_⟩
  · have h := of_decide_eq_true h
    unfold rightB; simp [h]
  · have h := of_decide_eq_false h
    have h2 : Int.tmod s 32 = 0 := by simpa using h2
    unfold rightB W
    rw [h2, decide_eq_false h]
    generalize IntKind.i64.wrap (Int.tdiv s 32) = x
    by_cases hx : x ≤ 1024
    · rw [decide_eq_true hx, decide_eq_false (show ¬ (x > 1024) by omega)]; rfl
    · rw [decide_eq_false hx, decide_eq_true (show x > 1024 by omega)]; rfl
  · have h2 : Int.tmod s 32 ≠ 0 := by simpa using h2
    unfold rightB; simp [h2]
theorem refIndex_t (s a : Int) (hs : s ≤ 9223372036854775807) : Tri P F.crierref02_Index [.int .i64 s, .int .i64 32, .int .i64 a] [] fun v L' => v = .int .i64 (if mayB s 32 a then a / 32 else -1) ∧ L' = [] := by
  intro w S hS
  refine crierref02_Index_cv ?_
  unfold crierref02_Index
  have H := Own.start hS
  refine call_p H (refRight_t s) (by repeat (first | exact Cut.nil | (apply Cut.cons; (repeat (first | exact Pick.here | apply Pick.there))))) fun wx H => ?_
  refine ⟨_, rfl, ?_⟩
  cases hr : rightB s 32 with
  | false =>
    have : mayB s 32 a = false := by unfold mayB; rw [hr]; rfl
    refine cnd_i (fun _ => ⟨_, ⟨?_, rfl⟩, H⟩) (fun h => by cases h)
    rw [this]; rfl
  | true =>
    refine cnd_i (fun h => by cases h) fun _ => ?_
    obtain ⟨N, rfl, h1, h2⟩ := right_form hs hr
    have hN : IntKind.i64.wrap (Int.tdiv (32 * (N : Int)) 32) = N := by
      rw [Int.tdiv_eq_ediv_of_nonneg (by omega), show 32 * (N : Int) / 32 = N by omega, W_id (by omega) (by omega)]
    refine loop_o (fun (st : Int) L => ∃ k : Nat, k ≤ N ∧ (∀ j : Nat, j < k → (j : Int) * 32 ≠ a) ∧ st = k ∧ L = []) (fun (st : Int) => ((N : Int) - st).toNat) H ⟨0, by omega, fun _ h => absurd h (by omega), rfl, rfl⟩ ?_
    rintro _ _ wx ⟨k, hk, hg, rfl, rfl⟩ H
    unfold crierref02_Index_l0
    rw [hN]
    refine ⟨by omega, cnd_i (fun hc => ?_) fun hc => ?_⟩
    · have hc := of_decide_eq_true hc
      rw [W_id (n := (k : Int) * 32) (by omega) (by omega), W_id (n := (k : Int) + 1) (by omega) (by omega)]
      refine cnd_i (fun h => ?_) fun h => ?_
      · have h : (k : Int) * 32 = a := by simpa using h
        have e : a = 32 * (k : Int) := by omega
        refine ⟨_, ⟨?_, rfl⟩, H⟩
        rw [e, may_n h2 (by omega), if_pos rfl]
        congr 1
        omega
      · have h : (k : Int) * 32 ≠ a := by simpa using h
        refine ⟨⟨_, ⟨k + 1, by omega, ?_, by push_cast; rfl, rfl⟩, H⟩, by omega⟩
        intro j hj
        by_cases e : j = k
        · rw [e]; exact h
        · exact hg j (by omega)
    · have hc := of_decide_eq_false hc
      refine ⟨_, ⟨?_, rfl⟩, H⟩
      cases hm : mayB (32 * (N : Int)) 32 a with
      | false => rfl
      | true =>
        obtain ⟨N', i, e1, e2, e3, e4⟩ := may_form hs hm
        exact absurd (by omega) (hg i (by omega))
def waitL (q : Qu) : List Int := (List.range q.cnt).map (nth q.s q.r)
theorem waitL_len (q : Qu) : (waitL q).length = q.cnt := by simp [waitL]
/-- both ends of the row stand at entries -/
theorem both_form {q : Qu} (hs : q.s ≤ 9223372036854775807) (h : q.both = true) : ∃ N i n : Nat, q.s = 32 * (N : Int) ∧ q.r = 32 * (i : Int) ∧ q.w = 32 * (((i + n) % N : Nat) : Int) ∧ i < N ∧ n < N ∧ N ≤ 1024 ∧ q.left = n ∧ q.cnt = n ∧ leftV q.s 32 q.r q.w = n := by
  have hb := h
  unfold Qu.both at h
  simp only [Bool.and_eq_true] at h
  obtain ⟨N, i, e1, e2, e3, e4⟩ := may_form hs h.1
  obtain ⟨N', j, g1, g2, g3, g4⟩ := may_form hs h.2
  have : N' = N := by omega
  subst this
  obtain ⟨n, hn, hj⟩ : ∃ n : Nat, n < N' ∧ j = (i + n) % N' := by
    by_cases e : i ≤ j
    · exact ⟨j - i, by omega, by rw [show i + (j - i) = j by omega, Nat.mod_eq_of_lt g3]⟩
    · exact ⟨j + N' - i, by omega, by rw [show i + (j + N' - i) = j + N' by omega, Nat.add_mod_right, Nat.mod_eq_of_lt g3]⟩
  have hl : leftV q.s 32 q.r q.w = n := by
    rw [e1, e2, g2]
    exact left_n e4 e3 hn hj
  have hl2 : q.left = n := by unfold Qu.left; rw [hb, if_pos rfl, hl]
  exact ⟨N', i, n, e1, e2, by rw [g2, hj], e3, hn, e4, hl2, by unfold Qu.cnt; rw [hl2]; rfl, hl⟩
theorem refWaits_t (q : Qu) (hs : q.s ≤ 9223372036854775807) : Tri P F.crierref02_Waits [.int .i64 q.s, .int .i64 32, .int .i64 q.r, .int .i64 q.w] [] fun v L' => ∃ p c, v = .slice p q.cnt c ∧ L' = [own tInt 1 (.slice p q.cnt c) q.cnt (i64s (waitL q))] := by
  intro w S hS
  refine crierref02_Waits_cv ?_
  unfold crierref02_Waits
  have H := Own.start hS
  refine call_p H (refIndex_t q.s q.r hs) (by repeat (first | exact Cut.nil | (apply Cut.cons; (repeat (first | exact Pick.here | apply Pick.there))))) fun wx H => ?_
  refine ⟨_, rfl, ?_⟩
  refine call_p H (refIndex_t q.s q.w hs) (by repeat (first | exact Cut.nil | (apply Cut.cons; (repeat (first | exact Pick.here | apply Pick.there))))) fun wx H => ?_
  refine ⟨_, rfl, join_o ?_⟩
  have no : q.both = false → crierref02_Waits_j2 q.s 32 (fun v w' => ∃ L', (∃ p c, v = .slice p q.cnt c ∧ L' = [own tInt 1 (.slice p q.cnt c) q.cnt (i64s (waitL q))]) ∧ X.Own w S L' w') (if mayB q.s 32 q.r then q.r / 32 else -1) (if mayB q.s 32 q.w then q.w / 32 else -1) true wx := by
    intro hb
    have hc : q.cnt = 0 := by unfold Qu.cnt Qu.left; rw [hb]; rfl
    have hw : waitL q = [] := by unfold waitL; rw [hc]; rfl
    unfold crierref02_Waits_j2
    refine cnd_i (fun _ => ⟨_, ⟨none, 0, ?_, rfl⟩, ?_⟩) (fun h => by cases h)
    · rw [hc]
    · rw [hc, hw]
      exact own_nil H
  cases hb : q.both with
  | false =>
    have hb2 := hb
    unfold Qu.both at hb
    cases hr : mayB q.s 32 q.r with
    | false =>
      have := no hb2
      rw [hr] at this
      exact cnd_i (fun _ => this) (fun h => by cases h)
    | true =>
      have hw : mayB q.s 32 q.w = false := by rw [hr] at hb; simpa using hb
      obtain ⟨N, i, e1, e2, e3, e4⟩ := may_form hs hr
      have := no hb2
      rw [hr, hw] at this
      rw [hw]
      exact cnd_i (fun h => by have := of_decide_eq_true h; rw [if_pos rfl, e2] at this; omega) fun _ => this
  | true =>
    obtain ⟨N, i, n, e1, e2, e3, hi, hn, hN, g1, g2, g3⟩ := both_form hs hb
    unfold Qu.both at hb
    simp only [Bool.and_eq_true] at hb
    have hwl : waitL q = (List.range n).map (nth q.s q.r) := by unfold waitL; rw [g2]
    rw [hb.1, hb.2, g2, hwl, e1, e2, e3]
    have hj : (i + n) % N < N := Nat.mod_lt _ (by omega)
    rw [if_pos rfl, if_pos rfl, show 32 * (i : Int) / 32 = i by omega, show 32 * (((i + n) % N : Nat) : Int) / 32 = (((i + n) % N : Nat) : Int) by omega]
    refine cnd_i (fun h => by have := of_decide_eq_true h; omega) fun _ => ?_
    rw [decide_eq_false (show ¬ ((((i + n) % N : Nat) : Int) < 0) by omega)]
    unfold crierref02_Waits_j2
    refine cnd_i (fun h => by cases h) fun _ => ?_
    have H := own_nil (e := tInt) (size := 1) H
    refine loop_o (fun (st : Int × Option Addr × Nat × Nat) L => ∃ (t : Nat) (p : Option Addr) (c : Nat), t ≤ n ∧ st = ((((i + t) % N : Nat) : Int), p, t, c) ∧ L = [own tInt 1 (.slice p t c) t (i64s ((List.range t).map (nth (32 * (N : Int)) (32 * (i : Int)))))])
      (fun (st : Int × Option Addr × Nat × Nat) => n - st.2.2.1) H ⟨0, none, 0, by omega, by rw [Nat.add_zero, Nat.mod_eq_of_lt hi], rfl⟩ ?_
    rintro _ _ wx ⟨t, p, c, ht, rfl, rfl⟩ H
    unfold crierref02_Waits_l1
    dsimp only
    have hit : (i + t) % N < N := Nat.mod_lt _ (by omega)
    have cs : ∀ t : Nat, t < N → (i + t) % N = i + t ∧ i + t < N ∨ (i + t) % N = i + t - N ∧ N ≤ i + t := by
      intro t ht
      by_cases e : i + t < N
      · exact .inl ⟨Nat.mod_eq_of_lt e, e⟩
      · exact .inr ⟨by rw [Nat.mod_eq_sub_mod (by omega), Nat.mod_eq_of_lt (by omega)], by omega⟩
    refine cnd_i (fun hc => join_o ?_) fun hc => ?_
    · have hc : ((((i + t) % N : Nat) : Int)) ≠ (((i + n) % N : Nat) : Int) := by simpa using hc
      have htn : t < n := by
        rcases Nat.lt_or_ge t n with h | h
        · exact h
        · have : t = n := by omega
          subst this; exact absurd rfl hc
      refine alc_o H fun b34 wx H => ?_
      rw [W_id (n := ((((i + t) % N : Nat) : Int)) * 32) (by omega) (by omega)] at H
      have hrow := H.row (b := b34) (by repeat (first | exact Pick.here | apply Pick.there))
      have hlen : (i64s ((List.range t).map (nth (32 * (N : Int)) (32 * (i : Int))))).length = t := by rw [i64s_length]; simp
      refine app_o appPl (by omega) H (e := tInt) (size := 1) (p := p) (n := t) (c := c) (xs := i64s ((List.range t).map (nth (32 * (N : Int)) (32 * (i : Int))))) (by repeat (first | exact Pick.here | apply Pick.there)) (q := some ⟨b34, 0, none⟩) (m := 1) (news := [.int .i64 (((((i + t) % N : Nat) : Int)) * 32)]) (fun j u hj => ⟨_, rfl, ?_⟩) rfl (fun u hu => by simp at hu; subst hu; rfl) (by unfold maxLen; omega) (by omega) fun p' c' wx H => ?_
      · rw [add_lit, Nat.zero_add, hrow.cell]; exact hj
      have hnew : i64s ((List.range t).map (nth (32 * (N : Int)) (32 * (i : Int)))) ++ [.int .i64 (((((i + t) % N : Nat) : Int)) * 32)] = i64s ((List.range (t + 1)).map (nth (32 * (N : Int)) (32 * (i : Int)))) := by
        rw [List.range_succ, List.map_append, i64s_append]
        congr 1
        simp only [List.map_cons, List.map_nil, i64s]
        rw [nth_n hN hi, Int.mul_comm]
      rw [hnew] at H
      have hdiv : IntKind.i64.wrap (Int.tdiv (32 * (N : Int)) 32) = N := by
        rw [Int.tdiv_eq_ediv_of_nonneg (by omega), show 32 * (N : Int) / 32 = N by omega, W_id (by omega) (by omega)]
      rw [hdiv, W_id (n := _ + 1) (by omega) (by omega)]
      unfold crierref02_Waits_j0
      have hnext : ((i + (t + 1)) % N : Nat) = if (i + t) % N + 1 = N then 0 else (i + t) % N + 1 := by
        rw [show i + (t + 1) = i + t + 1 by omega, ← Nat.mod_add_mod]
        split
        · rename_i e; rw [e, Nat.mod_self]
        · exact Nat.mod_eq_of_lt (by omega)
      refine ⟨by omega, cnd_i (fun h => ?_) fun h => ?_⟩
      · have h : ((((i + t) % N : Nat) : Int)) + 1 = (N : Int) := by simpa using h
        refine ⟨⟨_, ⟨t + 1, p', c', by omega, ?_, rfl⟩, H.drop (by repeat (first | exact Cut.nil | (apply Cut.cons; (repeat (first | exact Pick.here | apply Pick.there)))))⟩, by show n - (t + 1) < n - t; omega⟩
        rw [hnext, if_pos (by omega)]; rfl
      · have h : ¬ (((((i + t) % N : Nat) : Int)) + 1 = (N : Int)) := by simpa using h
        refine ⟨⟨_, ⟨t + 1, p', c', by omega, ?_, rfl⟩, H.drop (by repeat (first | exact Cut.nil | (apply Cut.cons; (repeat (first | exact Pick.here | apply Pick.there)))))⟩, by show n - (t + 1) < n - t; omega⟩
        rw [hnext, if_neg (by omega)]; push_cast; rfl
    · have hc : ((((i + t) % N : Nat) : Int)) = (((i + n) % N : Nat) : Int) := by simpa using hc
      have htn : t = n := by
        have := cs t (by omega)
        have := cs n hn
        omega
      subst htn
      exact ⟨_, ⟨p, c, rfl, rfl⟩, H⟩
end Go.Proofs.Ytggchklafbpgpaa
