/-
  queue: the document's queue: its functions.
-/
import Derived.Test.YtggchklafbpgpaaQ6
namespace Go.Proofs.Ytggchklafbpgpaa
open Go Go.RowKit X
set_option maxRecDepth 100000
set_option linter.unusedVariables false
set_option linter.unusedSimpArgs false
set_option maxHeartbeats 1000000
abbrev SmallS (q : Qu) : Prop := q.s ≤ 9223372036854775807
theorem rWaits_t (q : Qu) (hs : SmallS q) : Tri P F.crierref17_Queue_Waits [quV q] [] fun v L' => ∃ p c, v = .slice p q.cnt c ∧ L' = [own tInt 1 (.slice p q.cnt c) q.cnt (i64s (waitL q))] := by
  intro w S hS
  refine crierref17_Queue_Waits_cv ?_
  unfold crierref17_Queue_Waits
  have H := Own.start hS
  refine alc_o H fun b5 wx H => ?_
  repeat (first | refine ldI_o H (by repeat (first | exact Pick.here | apply Pick.there)) (by rfl) ?_ | refine ldL_o H (by repeat (first | exact Pick.here | apply Pick.there)) (by rfl) ?_ | refine ldB_o H (by repeat (first | exact Pick.here | apply Pick.there)) (by rfl) ?_ | refine ldP_o H (by repeat (first | exact Pick.here | apply Pick.there)) (by rfl) ?_ | refine ldS_o H (by repeat (first | exact Pick.here | apply Pick.there)) (by rfl) ?_)
  refine call_o H (refWaits_t q hs) (by repeat (first | exact Cut.nil | (apply Cut.cons; (repeat (first | exact Pick.here | apply Pick.there))))) fun vx L' wx hq H => ?_
  obtain ⟨p, c, rfl, rfl⟩ := hq
  simp only [List.cons_append, List.nil_append] at H
  exact ⟨_, _, _, rfl, _, ⟨p, c, rfl, rfl⟩, H.drop (by repeat (first | exact Cut.nil | (apply Cut.cons; (repeat (first | exact Pick.here | apply Pick.there)))))⟩
theorem rMay_t (q : Qu) (hs : SmallS q) (a : Int) : Tri P F.crierref17_Queue_may [quV q, .int .i64 a] [] fun v L' => v = .bool (mayB q.s 32 a) ∧ L' = [] := by
  intro w S hS
  refine crierref17_Queue_may_cv ?_
  unfold crierref17_Queue_may
  have H := Own.start hS
  refine alc_o H fun b5 wx H => ?_
  repeat (first | refine ldI_o H (by repeat (first | exact Pick.here | apply Pick.there)) (by rfl) ?_ | refine ldL_o H (by repeat (first | exact Pick.here | apply Pick.there)) (by rfl) ?_ | refine ldB_o H (by repeat (first | exact Pick.here | apply Pick.there)) (by rfl) ?_ | refine ldP_o H (by repeat (first | exact Pick.here | apply Pick.there)) (by rfl) ?_ | refine ldS_o H (by repeat (first | exact Pick.here | apply Pick.there)) (by rfl) ?_)
  refine call_p H (refIndex_t q.s a hs) (by repeat (first | exact Cut.nil | (apply Cut.cons; (repeat (first | exact Pick.here | apply Pick.there))))) fun wx H => ?_
  refine ⟨_, rfl, _, ⟨?_, rfl⟩, H.drop (by repeat (first | exact Cut.nil | (apply Cut.cons; (repeat (first | exact Pick.here | apply Pick.there)))))⟩
  cases hm : mayB q.s 32 a with
  | false => rfl
  | true =>
    obtain ⟨N, i, e1, e2, e3, e4⟩ := may_form hs hm
    rw [if_pos rfl, decide_eq_true (by omega)]
theorem rRoom_t (q : Qu) (hs : SmallS q) : Tri P F.crierref17_Queue_Room [quV q] [] fun v L' => v = .int .i64 q.room ∧ L' = [] := by
  intro w S hS
  refine crierref17_Queue_Room_cv ?_
  unfold crierref17_Queue_Room
  have H := Own.start hS
  refine alc_o H fun b5 wx H => join_o ?_
  unfold crierref17_Queue_Room_j0
  repeat (first | refine ldI_o H (by repeat (first | exact Pick.here | apply Pick.there)) (by rfl) ?_ | refine ldL_o H (by repeat (first | exact Pick.here | apply Pick.there)) (by rfl) ?_ | refine ldB_o H (by repeat (first | exact Pick.here | apply Pick.there)) (by rfl) ?_ | refine ldP_o H (by repeat (first | exact Pick.here | apply Pick.there)) (by rfl) ?_ | refine ldS_o H (by repeat (first | exact Pick.here | apply Pick.there)) (by rfl) ?_)
  refine call_p H (rMay_t q hs q.r) (by repeat (first | exact Cut.nil | (apply Cut.cons; (repeat (first | exact Pick.here | apply Pick.there))))) fun wx H => ?_
  refine ⟨_, rfl, ?_⟩
  cases hr : mayB q.s 32 q.r with
  | false =>
    have : q.room = 0 := by unfold Qu.room Qu.both; rw [hr]; rfl
    rw [this]
    exact cnd_i (fun _ => cnd_i (fun _ => ⟨_, ⟨rfl, rfl⟩, H.drop (by repeat (first | exact Cut.nil | (apply Cut.cons; (repeat (first | exact Pick.here | apply Pick.there)))))⟩) (fun h => by cases h)) (fun h => by cases h)
  | true =>
    refine cnd_i (fun h => by cases h) fun _ => ?_
    repeat (first | refine ldI_o H (by repeat (first | exact Pick.here | apply Pick.there)) (by rfl) ?_ | refine ldL_o H (by repeat (first | exact Pick.here | apply Pick.there)) (by rfl) ?_ | refine ldB_o H (by repeat (first | exact Pick.here | apply Pick.there)) (by rfl) ?_ | refine ldP_o H (by repeat (first | exact Pick.here | apply Pick.there)) (by rfl) ?_ | refine ldS_o H (by repeat (first | exact Pick.here | apply Pick.there)) (by rfl) ?_)
    refine call_p H (rMay_t q hs q.w) (by repeat (first | exact Cut.nil | (apply Cut.cons; (repeat (first | exact Pick.here | apply Pick.there))))) fun wx H => ?_
    refine ⟨_, rfl, ?_⟩
    cases hw : mayB q.s 32 q.w with
    | false =>
      have : q.room = 0 := by unfold Qu.room Qu.both; rw [hr, hw]; rfl
      rw [this]
      exact cnd_i (fun _ => ⟨_, ⟨rfl, rfl⟩, H.drop (by repeat (first | exact Cut.nil | (apply Cut.cons; (repeat (first | exact Pick.here | apply Pick.there)))))⟩) (fun h => by cases h)
    | true =>
      have hb : q.both = true := by unfold Qu.both; rw [hr, hw]; rfl
      obtain ⟨N, i, n, e1, e2, e3, hi, hn, hN, g1, g2, g3⟩ := both_form hs hb
      refine cnd_i (fun h => by cases h) fun _ => ?_
      refine drw_o H fun wx H => ?_
      repeat (first | refine ldI_o H (by repeat (first | exact Pick.here | apply Pick.there)) (by rfl) ?_ | refine ldL_o H (by repeat (first | exact Pick.here | apply Pick.there)) (by rfl) ?_ | refine ldB_o H (by repeat (first | exact Pick.here | apply Pick.there)) (by rfl) ?_ | refine ldP_o H (by repeat (first | exact Pick.here | apply Pick.there)) (by rfl) ?_ | refine ldS_o H (by repeat (first | exact Pick.here | apply Pick.there)) (by rfl) ?_)
      refine ⟨by omega, ?_⟩
      repeat (first | refine ldI_o H (by repeat (first | exact Pick.here | apply Pick.there)) (by rfl) ?_ | refine ldL_o H (by repeat (first | exact Pick.here | apply Pick.there)) (by rfl) ?_ | refine ldB_o H (by repeat (first | exact Pick.here | apply Pick.there)) (by rfl) ?_ | refine ldP_o H (by repeat (first | exact Pick.here | apply Pick.there)) (by rfl) ?_ | refine ldS_o H (by repeat (first | exact Pick.here | apply Pick.there)) (by rfl) ?_)
      refine call_o H (rWaits_t q hs) (by repeat (first | exact Cut.nil | (apply Cut.cons; (repeat (first | exact Pick.here | apply Pick.there))))) fun vx L' wx hq H => ?_
      obtain ⟨p, c, rfl, rfl⟩ := hq
      simp only [List.cons_append, List.nil_append] at H
      refine ⟨_, _, _, rfl, ldI_o H (by repeat (first | exact Pick.here | apply Pick.there)) rfl rfl, _, ⟨?_, rfl⟩, H.drop (by repeat (first | exact Cut.nil | (apply Cut.cons; (repeat (first | exact Pick.here | apply Pick.there)))))⟩
      unfold Qu.room roomV
      rw [hb, if_pos rfl, g3, g2]
      rfl
theorem rNext_t (q : Qu) (hs : SmallS q) (a : Int) (hm : mayB q.s 32 a = true) : Tri P F.crierref17_Queue_next [quV q, .int .i64 a] [] fun v L' => v = .int .i64 (nextQ q.s a) ∧ L' = [] := by
  intro w S hS
  refine crierref17_Queue_next_cv ?_
  unfold crierref17_Queue_next
  have H := Own.start hS
  refine alc_o H fun b5 wx H => ?_
  repeat (first | refine ldI_o H (by repeat (first | exact Pick.here | apply Pick.there)) (by rfl) ?_ | refine ldL_o H (by repeat (first | exact Pick.here | apply Pick.there)) (by rfl) ?_ | refine ldB_o H (by repeat (first | exact Pick.here | apply Pick.there)) (by rfl) ?_ | refine ldP_o H (by repeat (first | exact Pick.here | apply Pick.there)) (by rfl) ?_ | refine ldS_o H (by repeat (first | exact Pick.here | apply Pick.there)) (by rfl) ?_)
  obtain ⟨N, i, e1, e2, e3, e4⟩ := may_form hs hm
  rw [e1, e2, nextQ_n e4 e3, W_id (by omega) (by omega)]
  refine cnd_i (fun h => ⟨_, ⟨?_, rfl⟩, H.drop (by repeat (first | exact Cut.nil | (apply Cut.cons; (repeat (first | exact Pick.here | apply Pick.there)))))⟩) fun h => ⟨_, ⟨?_, rfl⟩, H.drop (by repeat (first | exact Cut.nil | (apply Cut.cons; (repeat (first | exact Pick.here | apply Pick.there)))))⟩
  · have h : 32 * (i : Int) + 32 = 32 * (N : Int) := by simpa using h
    rw [show i + 1 = N by omega, Nat.mod_self]; rfl
  · have h : ¬ (32 * (i : Int) + 32 = 32 * (N : Int)) := by simpa using h
    rw [Nat.mod_eq_of_lt (by omega)]
    exact congrArg _ (by push_cast; omega)
theorem room_both {q : Qu} (h : ¬ (q.room < 1)) : q.both = true := by
  cases hb : q.both with
  | true => rfl
  | false =>
    exfalso
    apply h
    unfold Qu.room
    rw [hb, if_neg (by decide)]
    omega
theorem rPut_t (b m : Nat) (q : Qu) (hs : SmallS q) (bs : List Int) (c : Cm) (hI : -9223372036854775808 ≤ c.addr ∧ c.addr ≤ 9223372036854775807) : Tri P F.crierref17_Queue_Put [ptr b, ptr m, cmV c] [row b q.cells tRq, memI m bs] fun v L' => v = .int .i64 (putQ q bs c).2.2 ∧ L' = [row b (putQ q bs c).1.cells tRq, memI m (putQ q bs c).2.1] := by
  intro w S hS
  refine crierref17_Queue_Put_cv ?_
  unfold crierref17_Queue_Put
  have H := Own.start hS
  unfold Qu.cells at H
  refine alc_o H fun b12 wx H => ?_
  dsimp only [nn]
  simp only [add_lit]
  repeat (first | refine ldI_o H (by repeat (first | exact Pick.here | apply Pick.there)) (by rfl) ?_ | refine ldL_o H (by repeat (first | exact Pick.here | apply Pick.there)) (by rfl) ?_ | refine ldB_o H (by repeat (first | exact Pick.here | apply Pick.there)) (by rfl) ?_ | refine ldP_o H (by repeat (first | exact Pick.here | apply Pick.there)) (by rfl) ?_ | refine ldS_o H (by repeat (first | exact Pick.here | apply Pick.there)) (by rfl) ?_)
  refine call_p H (rRoom_t q hs) (by repeat (first | exact Cut.nil | (apply Cut.cons; (repeat (first | exact Pick.here | apply Pick.there))))) fun wx H => ?_
  refine ⟨_, rfl, cnd_i (fun h => ?_) fun h => ?_⟩
  · have e : putQ q bs c = (q, bs, 2) := by unfold putQ; rw [if_pos (of_decide_eq_true h)]
    rw [e]
    exact ⟨_, ⟨rfl, rfl⟩, H.drop (by repeat (first | exact Cut.nil | (apply Cut.cons; (repeat (first | exact Pick.here | apply Pick.there)))))⟩
  have h := of_decide_eq_false h
  have hb := room_both h
  unfold Qu.both at hb
  simp only [Bool.and_eq_true] at hb
  refine drw_o H fun wx H => ?_
  repeat (first | refine ldI_o H (by repeat (first | exact Pick.here | apply Pick.there)) (by rfl) ?_ | refine ldL_o H (by repeat (first | exact Pick.here | apply Pick.there)) (by rfl) ?_ | refine ldB_o H (by repeat (first | exact Pick.here | apply Pick.there)) (by rfl) ?_ | refine ldP_o H (by repeat (first | exact Pick.here | apply Pick.there)) (by rfl) ?_ | refine ldS_o H (by repeat (first | exact Pick.here | apply Pick.there)) (by rfl) ?_)
  refine call_o H (refStore_t m bs q.a q.s q.w c hI) (by repeat (first | exact Cut.nil | (apply Cut.cons; (repeat (first | exact Pick.here | apply Pick.there))))) fun vx L' wx hq H => ?_
  obtain ⟨rfl, rfl⟩ := hq
  simp only [List.cons_append, List.nil_append] at H
  refine ⟨_, rfl, join_o ?_⟩
  unfold crierref17_Queue_Put_j0
  refine cnd_i (fun h2 => ?_) fun h2 => ?_
  · have h2 : storeE bs.length q.a q.s q.w c = 0 := by simpa using h2
    have e : putQ q bs c = ({ q with w := nextQ q.s q.w }, storeM bs q.a q.s q.w c, 0) := by unfold putQ; rw [if_neg h, if_neg (by rw [h2]; simp)]
    rw [e, h2]
    refine drw_o H fun wx H => ?_
    repeat (first | refine ldI_o H (by repeat (first | exact Pick.here | apply Pick.there)) (by rfl) ?_ | refine ldL_o H (by repeat (first | exact Pick.here | apply Pick.there)) (by rfl) ?_ | refine ldB_o H (by repeat (first | exact Pick.here | apply Pick.there)) (by rfl) ?_ | refine ldP_o H (by repeat (first | exact Pick.here | apply Pick.there)) (by rfl) ?_ | refine ldS_o H (by repeat (first | exact Pick.here | apply Pick.there)) (by rfl) ?_)
    refine call_p H (rNext_t q hs q.w hb.2) (by repeat (first | exact Cut.nil | (apply Cut.cons; (repeat (first | exact Pick.here | apply Pick.there))))) fun wx H => ?_
    refine ⟨_, rfl, ?_⟩
    refine st1_o H (by repeat (first | exact Rep.here | apply Rep.there)) (by simp) fun wx H => ?_
    exact ⟨_, ⟨rfl, rfl⟩, H.drop (by unfold Qu.cells; exact (by repeat (first | exact Cut.nil | (apply Cut.cons; (repeat (first | exact Pick.here | apply Pick.there))))))⟩
  · have h2 : storeE bs.length q.a q.s q.w c ≠ 0 := by simpa using h2
    have e : putQ q bs c = (q, storeM bs q.a q.s q.w c, storeE bs.length q.a q.s q.w c) := by unfold putQ; rw [if_neg h, if_pos h2]
    rw [e]
    exact ⟨_, ⟨rfl, rfl⟩, H.drop (by unfold Qu.cells; exact (by repeat (first | exact Cut.nil | (apply Cut.cons; (repeat (first | exact Pick.here | apply Pick.there))))))⟩
/-- how many wait is never less than none -/
theorem left_cnt {q : Qu} (hs : SmallS q) : q.left = (q.cnt : Int) := by
  cases hb : q.both with
  | true =>
    obtain ⟨N, i, n, e1, e2, e3, hi, hn, hN, g1, g2, g3⟩ := both_form hs hb
    rw [g1, g2]
  | false =>
    unfold Qu.cnt Qu.left
    rw [hb]; rfl
theorem cnt_both {q : Qu} (h : q.cnt ≠ 0) : q.both = true := by
  cases hb : q.both with
  | true => rfl
  | false =>
    exfalso
    apply h
    unfold Qu.cnt Qu.left
    rw [hb]; rfl
theorem rHead_t (m : Nat) (q : Qu) (hs : SmallS q) (bs : List Int) : Tri P F.crierref17_Queue_Head [quV q, ptr m] [memI m bs] fun v L' => v = .tuple [cmV (headQ q bs).1, .int .i64 (headQ q bs).2].toArray ∧ L' = [memI m bs] := by
  intro w S hS
  refine crierref17_Queue_Head_cv ?_
  unfold crierref17_Queue_Head
  have H := Own.start hS
  refine alc_o H fun b6 wx H => alc_o H fun b8 wx H => ?_
  repeat (first | refine ldI_o H (by repeat (first | exact Pick.here | apply Pick.there)) (by rfl) ?_ | refine ldL_o H (by repeat (first | exact Pick.here | apply Pick.there)) (by rfl) ?_ | refine ldB_o H (by repeat (first | exact Pick.here | apply Pick.there)) (by rfl) ?_ | refine ldP_o H (by repeat (first | exact Pick.here | apply Pick.there)) (by rfl) ?_ | refine ldS_o H (by repeat (first | exact Pick.here | apply Pick.there)) (by rfl) ?_)
  refine call_o H (rWaits_t q hs) (by repeat (first | exact Cut.nil | (apply Cut.cons; (repeat (first | exact Pick.here | apply Pick.there))))) fun vx L' wx hq H => ?_
  obtain ⟨p, c, rfl, rfl⟩ := hq
  simp only [List.cons_append, List.nil_append] at H
  have hlc := left_cnt hs
  refine ⟨_, _, _, rfl, cnd_i (fun h => ?_) fun h => ?_⟩
  · have h : (q.cnt : Int) = 0 := by simpa using h
    have e : headQ q bs = (cm0, 170) := by unfold headQ; rw [if_pos (by omega)]
    rw [e]
    refine st1_o H (by repeat (first | exact Rep.here | apply Rep.there)) (by simp) fun wx H => ?_
    refine st1_o H (by repeat (first | exact Rep.here | apply Rep.there)) (by simp) fun wx H => ?_
    refine st1_o H (by repeat (first | exact Rep.here | apply Rep.there)) (by simp) fun wx H => ?_
    refine st1_o H (by repeat (first | exact Rep.here | apply Rep.there)) (by simp) fun wx H => ?_
    refine st1_o H (by repeat (first | exact Rep.here | apply Rep.there)) (by simp) fun wx H => ?_
    refine st1_o H (by repeat (first | exact Rep.here | apply Rep.there)) (by simp) fun wx H => ?_
    refine st1_o H (by repeat (first | exact Rep.here | apply Rep.there)) (by simp) fun wx H => ?_
    refine st1_o H (by repeat (first | exact Rep.here | apply Rep.there)) (by simp) fun wx H => ?_
    refine st1_o H (by repeat (first | exact Rep.here | apply Rep.there)) (by simp) fun wx H => ?_
    repeat (first | refine ldI_o H (by repeat (first | exact Pick.here | apply Pick.there)) (by rfl) ?_ | refine ldL_o H (by repeat (first | exact Pick.here | apply Pick.there)) (by rfl) ?_ | refine ldB_o H (by repeat (first | exact Pick.here | apply Pick.there)) (by rfl) ?_ | refine ldP_o H (by repeat (first | exact Pick.here | apply Pick.there)) (by rfl) ?_ | refine ldS_o H (by repeat (first | exact Pick.here | apply Pick.there)) (by rfl) ?_)
    exact ⟨_, ⟨rfl, rfl⟩, H.drop (by repeat (first | exact Cut.nil | (apply Cut.cons; (repeat (first | exact Pick.here | apply Pick.there)))))⟩
  have h : ¬ ((q.cnt : Int) = 0) := by simpa using h
  have e : headQ q bs = loadM bs q.a q.s q.r := by unfold headQ; rw [if_neg (by omega)]
  rw [e]
  repeat (first | refine ldI_o H (by repeat (first | exact Pick.here | apply Pick.there)) (by rfl) ?_ | refine ldL_o H (by repeat (first | exact Pick.here | apply Pick.there)) (by rfl) ?_ | refine ldB_o H (by repeat (first | exact Pick.here | apply Pick.there)) (by rfl) ?_ | refine ldP_o H (by repeat (first | exact Pick.here | apply Pick.there)) (by rfl) ?_ | refine ldS_o H (by repeat (first | exact Pick.here | apply Pick.there)) (by rfl) ?_)
  refine call_p H (refLoad_t m bs q.a q.s q.r) (by repeat (first | exact Cut.nil | (apply Cut.cons; (repeat (first | exact Pick.here | apply Pick.there))))) fun wx H => ?_
  unfold loadV
  generalize loadM bs q.a q.s q.r = z
  refine ⟨_, _, _, _, _, _, _, _, _, _, rfl, ?_⟩
  refine st1_o H (by repeat (first | exact Rep.here | apply Rep.there)) (by simp) fun wx H => ?_
  refine st1_o H (by repeat (first | exact Rep.here | apply Rep.there)) (by simp) fun wx H => ?_
  refine st1_o H (by repeat (first | exact Rep.here | apply Rep.there)) (by simp) fun wx H => ?_
  refine st1_o H (by repeat (first | exact Rep.here | apply Rep.there)) (by simp) fun wx H => ?_
  refine st1_o H (by repeat (first | exact Rep.here | apply Rep.there)) (by simp) fun wx H => ?_
  refine st1_o H (by repeat (first | exact Rep.here | apply Rep.there)) (by simp) fun wx H => ?_
  refine st1_o H (by repeat (first | exact Rep.here | apply Rep.there)) (by simp) fun wx H => ?_
  refine st1_o H (by repeat (first | exact Rep.here | apply Rep.there)) (by simp) fun wx H => ?_
  refine st1_o H (by repeat (first | exact Rep.here | apply Rep.there)) (by simp) fun wx H => ?_
  repeat (first | refine ldI_o H (by repeat (first | exact Pick.here | apply Pick.there)) (by rfl) ?_ | refine ldL_o H (by repeat (first | exact Pick.here | apply Pick.there)) (by rfl) ?_ | refine ldB_o H (by repeat (first | exact Pick.here | apply Pick.there)) (by rfl) ?_ | refine ldP_o H (by repeat (first | exact Pick.here | apply Pick.there)) (by rfl) ?_ | refine ldS_o H (by repeat (first | exact Pick.here | apply Pick.there)) (by rfl) ?_)
  exact ⟨_, ⟨rfl, rfl⟩, H.drop (by repeat (first | exact Cut.nil | (apply Cut.cons; (repeat (first | exact Pick.here | apply Pick.there)))))⟩
theorem rPass_t (b : Nat) (q : Qu) (hs : SmallS q) : Tri P F.crierref17_Queue_Pass [ptr b] [row b q.cells tRq] fun v L' => v = .int .i64 (passQ q).2 ∧ L' = [row b (passQ q).1.cells tRq] := by
  intro w S hS
  refine crierref17_Queue_Pass_cv ?_
  unfold crierref17_Queue_Pass
  have H := Own.start hS
  unfold Qu.cells at H
  dsimp only [nn]
  simp only [add_lit]
  repeat (first | refine ldI_o H (by repeat (first | exact Pick.here | apply Pick.there)) (by rfl) ?_ | refine ldL_o H (by repeat (first | exact Pick.here | apply Pick.there)) (by rfl) ?_ | refine ldB_o H (by repeat (first | exact Pick.here | apply Pick.there)) (by rfl) ?_ | refine ldP_o H (by repeat (first | exact Pick.here | apply Pick.there)) (by rfl) ?_ | refine ldS_o H (by repeat (first | exact Pick.here | apply Pick.there)) (by rfl) ?_)
  refine call_o H (rWaits_t q hs) (by repeat (first | exact Cut.nil | (apply Cut.cons; (repeat (first | exact Pick.here | apply Pick.there))))) fun vx L' wx hq H => ?_
  obtain ⟨p, c, rfl, rfl⟩ := hq
  simp only [List.cons_append, List.nil_append] at H
  have hlc := left_cnt hs
  refine ⟨_, _, _, rfl, cnd_i (fun h => ?_) fun h => ?_⟩
  · have h : (q.cnt : Int) = 0 := by simpa using h
    have e : passQ q = (q, 170) := by unfold passQ; rw [if_pos (by omega)]
    rw [e]
    exact ⟨_, ⟨rfl, rfl⟩, H.drop (by unfold Qu.cells; exact (by repeat (first | exact Cut.nil | (apply Cut.cons; (repeat (first | exact Pick.here | apply Pick.there))))))⟩
  have h : ¬ ((q.cnt : Int) = 0) := by simpa using h
  have hb := cnt_both (q := q) (by omega)
  unfold Qu.both at hb
  simp only [Bool.and_eq_true] at hb
  have e : passQ q = ({ q with r := nextQ q.s q.r }, 0) := by unfold passQ; rw [if_neg (by omega)]
  rw [e]
  refine drw_o H fun wx H => ?_
  repeat (first | refine ldI_o H (by repeat (first | exact Pick.here | apply Pick.there)) (by rfl) ?_ | refine ldL_o H (by repeat (first | exact Pick.here | apply Pick.there)) (by rfl) ?_ | refine ldB_o H (by repeat (first | exact Pick.here | apply Pick.there)) (by rfl) ?_ | refine ldP_o H (by repeat (first | exact Pick.here | apply Pick.there)) (by rfl) ?_ | refine ldS_o H (by repeat (first | exact Pick.here | apply Pick.there)) (by rfl) ?_)
  refine call_p H (rNext_t q hs q.r hb.1) (by repeat (first | exact Cut.nil | (apply Cut.cons; (repeat (first | exact Pick.here | apply Pick.there))))) fun wx H => ?_
  refine ⟨_, rfl, ?_⟩
  refine st1_o H (by repeat (first | exact Rep.here | apply Rep.there)) (by simp) fun wx H => ?_
  exact ⟨_, ⟨rfl, rfl⟩, H.drop (by unfold Qu.cells; exact (by repeat (first | exact Cut.nil | (apply Cut.cons; (repeat (first | exact Pick.here | apply Pick.there))))))⟩
theorem rSetWrite_t (b : Nat) (q : Qu) (hs : SmallS q) (at' : Int) : Tri P F.crierref17_Queue_SetWrite [ptr b, .int .i64 at'] [row b q.cells tRq] fun v L' => v = .int .i64 (setQ q at').2 ∧ L' = [row b (setQ q at').1.cells tRq] := by
  intro w S hS
  refine crierref17_Queue_SetWrite_cv ?_
  unfold crierref17_Queue_SetWrite
  have H := Own.start hS
  unfold Qu.cells at H
  dsimp only [nn]
  simp only [add_lit]
  repeat (first | refine ldI_o H (by repeat (first | exact Pick.here | apply Pick.there)) (by rfl) ?_ | refine ldL_o H (by repeat (first | exact Pick.here | apply Pick.there)) (by rfl) ?_ | refine ldB_o H (by repeat (first | exact Pick.here | apply Pick.there)) (by rfl) ?_ | refine ldP_o H (by repeat (first | exact Pick.here | apply Pick.there)) (by rfl) ?_ | refine ldS_o H (by repeat (first | exact Pick.here | apply Pick.there)) (by rfl) ?_)
  refine call_p H (rMay_t q hs at') (by repeat (first | exact Cut.nil | (apply Cut.cons; (repeat (first | exact Pick.here | apply Pick.there))))) fun wx H => ?_
  refine ⟨_, rfl, ?_⟩
  unfold setQ
  cases mayB q.s 32 at'
  · exact cnd_i (fun _ => ⟨_, ⟨rfl, rfl⟩, H⟩) (fun h => by cases h)
  · refine cnd_i (fun h => by cases h) fun _ => ?_
    refine st1_o H (by repeat (first | exact Rep.here | apply Rep.there)) (by simp) fun wx H => ?_
    exact ⟨_, ⟨rfl, rfl⟩, H⟩
end Go.Proofs.Ytggchklafbpgpaa
