/-
  queue: the plain law: what a new queue's commands are, as they are put and taken.
-/
import Derived.Test.YtggchklafbpgpaaQ4
import Derived.Test.YtggchklafbpgpaaE5
namespace Go.Proofs.Ytggchklafbpgpaa
open Go Go.RowKit X
set_option maxRecDepth 100000
set_option linter.unusedVariables false
set_option linter.unusedSimpArgs false
theorem right_n {N : Nat} (h : 1 ≤ N) (h2 : N ≤ 1024) : rightB (32 * (N : Int)) 32 = true := by
  unfold rightB
  have e1 : Int.tmod (32 * (N : Int)) 32 = 0 := by rw [Int.tmod_eq_emod_of_nonneg (by omega)]; omega
  have e2 : W (Int.tdiv (32 * (N : Int)) 32) = N := by
    rw [Int.tdiv_eq_ediv_of_nonneg (by omega), show 32 * (N : Int) / 32 = N by omega]
    exact W_id (by omega) (by omega)
  rw [e1, e2]
  simp
  omega
theorem may_n {N i : Nat} (h2 : N ≤ 1024) (hi : i < N) : mayB (32 * (N : Int)) 32 (32 * (i : Int)) = true := by
  unfold mayB
  rw [right_n (by omega) h2]
  have e1 : Int.tmod (32 * (i : Int)) 32 = 0 := by rw [Int.tmod_eq_emod_of_nonneg (by omega)]; omega
  rw [e1]
  simp
  omega
theorem left_n {N i j n : Nat} (h2 : N ≤ 1024) (hi : i < N) (hn : n < N) (hj : j = (i + n) % N) : leftV (32 * (N : Int)) 32 (32 * (i : Int)) (32 * (j : Int)) = n := by
  have hjN : j < N := by rw [hj]; exact Nat.mod_lt _ (by omega)
  have hc : (i + n < N ∧ j = i + n) ∨ (N ≤ i + n ∧ j = i + n - N) := by
    by_cases e : i + n < N
    · exact .inl ⟨e, by rw [hj, Nat.mod_eq_of_lt e]⟩
    · exact .inr ⟨by omega, by rw [hj, Nat.mod_eq_sub_mod (by omega), Nat.mod_eq_of_lt (by omega)]⟩
  unfold leftV W
  rw [W_id (n := 32 * (j : Int) - 32 * (i : Int)) (by omega) (by omega), W_id (n := _ + 32 * (N : Int)) (by omega) (by omega), Int.tmod_eq_emod_of_nonneg (by omega)]
  have e : (32 * (j : Int) - 32 * (i : Int) + 32 * (N : Int)) % (32 * (N : Int)) = 32 * (n : Int) := by
    rcases hc with ⟨h, e⟩ | ⟨h, e⟩
    · rw [show 32 * (j : Int) - 32 * (i : Int) + 32 * (N : Int) = 32 * (n : Int) + 32 * (N : Int) by omega, Int.add_emod_right, Int.emod_eq_of_lt (by omega) (by omega)]
    · rw [show 32 * (j : Int) - 32 * (i : Int) + 32 * (N : Int) = 32 * (n : Int) by omega, Int.emod_eq_of_lt (by omega) (by omega)]
  rw [e, Int.tdiv_eq_ediv_of_nonneg (by omega), show 32 * (n : Int) / 32 = n by omega, W_id (by omega) (by omega)]
theorem next_n {N i : Nat} (h2 : N ≤ 1024) (hi : i < N) : Int.tmod (W (32 * (i : Int) + 32)) (32 * (N : Int)) = 32 * (((i + 1) % N : Nat) : Int) := by
  unfold W
  rw [W_id (by omega) (by omega), Int.tmod_eq_emod_of_nonneg (by omega)]
  by_cases e : i + 1 < N
  · rw [Nat.mod_eq_of_lt e, Int.emod_eq_of_lt (by omega) (by omega)]; omega
  · have : i + 1 = N := by omega
    rw [this, Nat.mod_self, show 32 * (i : Int) + 32 = 32 * (N : Int) by omega, Int.emod_self]; rfl
theorem nextQ_n {N i : Nat} (h2 : N ≤ 1024) (hi : i < N) : nextQ (32 * (N : Int)) (32 * (i : Int)) = 32 * (((i + 1) % N : Nat) : Int) := by
  unfold nextQ
  rw [may_n h2 hi, if_pos rfl, next_n h2 hi]
theorem nth_n {N i : Nat} (h2 : N ≤ 1024) (hi : i < N) : ∀ k : Nat, nth (32 * (N : Int)) (32 * (i : Int)) k = 32 * (((i + k) % N : Nat) : Int)
  | 0 => by rw [nth, Nat.add_zero, Nat.mod_eq_of_lt hi]
  | k + 1 => by
    rw [nth, nth_n h2 hi k, next_n h2 (Nat.mod_lt _ (by omega)), Nat.mod_add_mod]; rfl
/-- a queue of N entries at A of a memory of T bytes, of which some commands wait, from entry i on -/
structure FQ (A : Int) (T : Nat) (N i : Nat) (q : Qu) (bs : List Int) (cs : List Cm) : Prop where
  n1 : N ≤ 1024
  ra : 0 ≤ A ∧ A + 32 * (N : Int) ≤ T ∧ T ≤ 131072
  hi : i < N
  hn : cs.length < N
  qe : q = ⟨A, 32 * (N : Int), 32 * (i : Int), 32 * (((i + cs.length) % N : Nat) : Int)⟩
  len : bs.length = T
  at_ : ∀ k c, cs[k]? = some c → loadM bs A (32 * (N : Int)) (32 * (((i + k) % N : Nat) : Int)) = (c, 0)
theorem FQ.both {A : Int} {T N i : Nat} {q : Qu} {bs : List Int} {cs : List Cm} (h : FQ A T N i q bs cs) : q.both = true := by
  have := h.n1
  unfold Qu.both
  rw [h.qe]
  dsimp only
  rw [may_n (by omega) h.hi, may_n (by omega) (Nat.mod_lt _ (by have := h.hi; omega))]
  rfl
theorem FQ.left {A : Int} {T N i : Nat} {q : Qu} {bs : List Int} {cs : List Cm} (h : FQ A T N i q bs cs) : q.left = cs.length := by
  have := h.n1
  unfold Qu.left
  rw [h.both, if_pos rfl, h.qe]
  exact left_n (by omega) h.hi h.hn rfl
theorem FQ.room {A : Int} {T N i : Nat} {q : Qu} {bs : List Int} {cs : List Cm} (h : FQ A T N i q bs cs) : q.room = (N : Int) - 1 - cs.length := by
  have := h.n1
  have := h.hn
  unfold Qu.room
  rw [h.both, if_pos rfl, h.qe]
  unfold roomV
  dsimp only
  rw [left_n (by omega) h.hi h.hn rfl, Int.tdiv_eq_ediv_of_nonneg (by omega), show 32 * (N : Int) / 32 = N by omega]
  unfold W
  rw [W_id (n := (N : Int)) (by omega) (by omega), W_id (n := (N : Int) - 1) (by omega) (by omega), W_id (by omega) (by omega)]
theorem FQ.cnt {A : Int} {T N i : Nat} {q : Qu} {bs : List Int} {cs : List Cm} (h : FQ A T N i q bs cs) : q.cnt = cs.length := by
  unfold Qu.cnt
  rw [h.left]; rfl
theorem FQ.good {A : Int} {T N i : Nat} {q : Qu} {bs : List Int} {cs : List Cm} (h : FQ A T N i q bs cs) {j : Nat} (hj : j < N) : GoodP bs.length A (32 * (N : Int)) (32 * (j : Int)) := by
  have := h.n1
  have := h.ra
  rw [h.len]
  refine ⟨by omega, by omega, by omega, by omega, by omega, by omega⟩
theorem FQ.load {A : Int} {T N i : Nat} {q : Qu} {bs : List Int} {cs : List Cm} (h : FQ A T N i q bs cs) {k : Nat} {c : Cm} (hk : cs[k]? = some c) : loadM bs q.a q.s (nth q.s q.r k) = (c, 0) := by
  have := h.n1
  rw [h.qe]
  dsimp only
  rw [nth_n (by omega) h.hi]
  exact h.at_ k c hk
theorem FQ.head {A : Int} {T N i : Nat} {q : Qu} {bs : List Int} {c : Cm} {cs : List Cm} (h : FQ A T N i q bs (c :: cs)) : headQ q bs = (c, 0) := by
  unfold headQ
  rw [h.left, if_neg (by simp only [List.length_cons]; omega)]
  exact h.load (k := 0) rfl
theorem FQ.full {A : Int} {T N i : Nat} {q : Qu} {bs : List Int} {cs : List Cm} (h : FQ A T N i q bs cs) (hf : cs.length + 1 = N) (c : Cm) : putQ q bs c = (q, bs, 2) := by
  unfold putQ
  rw [h.room, if_pos (by omega)]
theorem FQ.refuse {A : Int} {T N i : Nat} {q : Qu} {bs : List Int} {cs : List Cm} (h : FQ A T N i q bs cs) (hf : cs.length + 1 < N) {c : Cm} (hc : encM c = none) : putQ q bs c = (q, bs, 160) := by
  unfold putQ
  have hg : GoodP bs.length q.a q.s q.w := by
    rw [h.qe]
    exact h.good (Nat.mod_lt _ (by have := h.hi; omega))
  rw [h.room, if_neg (by omega), storeE_good hg, storeM_none hc, hc]
  rfl
theorem FQ.put_eq {A : Int} {T N i : Nat} {q : Qu} {bs : List Int} {cs : List Cm} (h : FQ A T N i q bs cs) (hf : cs.length + 1 < N) {c : Cm} {ws : List Int} (hc : encM c = some ws) : putQ q bs c = ({ q with w := nextQ q.s q.w }, storeM bs q.a q.s q.w c, 0) := by
  have hi := h.hi
  have hg : GoodP bs.length q.a q.s q.w := by rw [h.qe]; exact h.good (Nat.mod_lt _ (by omega))
  unfold putQ
  rw [h.room, if_neg (by omega), storeE_good hg, hc]
  rfl
theorem FQ.put {A : Int} {T N i : Nat} {q : Qu} {bs : List Int} {cs : List Cm} (h : FQ A T N i q bs cs) (hf : cs.length + 1 < N) {c : Cm} {ws : List Int} (hc : encM c = some ws) : (putQ q bs c).2.2 = 0 ∧ FQ A T N i (putQ q bs c).1 (putQ q bs c).2.1 (cs ++ [c]) := by
  have hn1 := h.n1
  have hi := h.hi
  have hj : (i + cs.length) % N < N := Nat.mod_lt _ (by omega)
  have hg0 := h.good hj
  have e := h.put_eq hf hc
  rw [e]
  refine ⟨rfl, ?_⟩
  rw [h.qe]
  dsimp only
  refine ⟨hn1, h.ra, hi, by simp; omega, ?_, by rw [storeM_length]; exact h.len, ?_⟩
  · rw [nextQ_n (by omega) hj, List.length_append, List.length_singleton, Nat.mod_add_mod]; rfl
  · intro k c' hk
    by_cases hlt : k < cs.length
    · rw [List.getElem?_append_left hlt] at hk
      have hk2 : (i + k) % N < N := Nat.mod_lt _ (by omega)
      rw [load_store_ne c hg0 (h.good hk2) ?_]
      · exact h.at_ k c' hk
      · have hne : (i + k) % N ≠ (i + cs.length) % N := by
          intro he
          have := h.hn
          have c1 : (i + k) % N = i + k ∧ i + k < N ∨ (i + k) % N = i + k - N ∧ N ≤ i + k := by
            by_cases e : i + k < N
            · exact .inl ⟨Nat.mod_eq_of_lt e, e⟩
            · exact .inr ⟨by rw [Nat.mod_eq_sub_mod (by omega), Nat.mod_eq_of_lt (by omega)], by omega⟩
          have c2 : (i + cs.length) % N = i + cs.length ∧ i + cs.length < N ∨ (i + cs.length) % N = i + cs.length - N ∧ N ≤ i + cs.length := by
            by_cases e : i + cs.length < N
            · exact .inl ⟨Nat.mod_eq_of_lt e, e⟩
            · exact .inr ⟨by rw [Nat.mod_eq_sub_mod (by omega), Nat.mod_eq_of_lt (by omega)], by omega⟩
          omega
        omega
    · have hk3 : k < (cs ++ [c]).length := (List.getElem?_eq_some_iff.1 hk).1
      simp only [List.length_append, List.length_singleton] at hk3
      have hk4 : k = cs.length := by omega
      subst hk4
      rw [List.getElem?_append_right (by omega), Nat.sub_self] at hk
      cases hk
      exact load_store hg0 hc
theorem FQ.pass {A : Int} {T N i : Nat} {q : Qu} {bs : List Int} {c : Cm} {cs : List Cm} (h : FQ A T N i q bs (c :: cs)) : (passQ q).2 = 0 ∧ FQ A T N ((i + 1) % N) (passQ q).1 bs cs := by
  have hn1 := h.n1
  have hi := h.hi
  have e : passQ q = ({ q with r := nextQ q.s q.r }, 0) := by
    unfold passQ
    rw [h.left, if_neg (by simp only [List.length_cons]; omega)]
  rw [e]
  refine ⟨rfl, ?_⟩
  rw [h.qe]
  dsimp only
  refine ⟨hn1, h.ra, Nat.mod_lt _ (by omega), by have := h.hn; simp only [List.length_cons] at this; omega, ?_, h.len, ?_⟩
  · rw [nextQ_n (by omega) hi, List.length_cons, Nat.mod_add_mod, show i + (cs.length + 1) = i + 1 + cs.length by omega]
  · intro k c' hk
    have := h.at_ (k + 1) c' hk
    rw [Nat.mod_add_mod, show i + 1 + k = i + (k + 1) by omega]
    exact this
theorem FQ.new {A : Int} {T N : Nat} (h1 : 1 ≤ N) (h2 : N ≤ 1024) (h3 : 0 ≤ A ∧ A + 32 * (N : Int) ≤ T ∧ T ≤ 131072) {bs : List Int} (hl : bs.length = T) : FQ A T N 0 ⟨A, 32 * (N : Int), 0, 0⟩ bs [] :=
  ⟨h2, h3, by omega, by simp; omega, by simp, hl, fun k c h => by simp at h⟩
/-- commands put, as long as it goes -/
theorem FQ.fill {A : Int} {T N i : Nat} : ∀ {ds : List Cm} {q : Qu} {bs : List Int} {cs : List Cm}, FQ A T N i q bs cs → ∃ n, n ≤ ds.length ∧ (fillQ ds q bs).2.2.1 = n ∧ FQ A T N i (fillQ ds q bs).1 (fillQ ds q bs).2.1 (cs ++ ds.take n) ∧
    ((fillQ ds q bs).2.2.2 = 0 ∧ n = ds.length ∨ (fillQ ds q bs).2.2.2 = 2 ∧ n < ds.length ∧ cs.length + n + 1 = N ∨ (fillQ ds q bs).2.2.2 = 160 ∧ ∃ c, ds[n]? = some c ∧ encM c = none)
  | [], q, bs, cs, h => ⟨0, by simp, rfl, by simpa [fillQ] using h, .inl ⟨rfl, rfl⟩⟩
  | d :: ds, q, bs, cs, h => by
    by_cases hf : cs.length + 1 = N
    · have e := h.full hf d
      have e2 : fillQ (d :: ds) q bs = (q, bs, 0, 2) := by unfold fillQ; rw [e]; rfl
      rw [e2]
      exact ⟨0, by omega, rfl, by simpa using h, .inr (.inl ⟨rfl, by simp, hf⟩)⟩
    · have hlt : cs.length + 1 < N := by have := h.hn; omega
      cases hc : encM d with
      | none =>
        have e := h.refuse hlt hc
        have e2 : fillQ (d :: ds) q bs = (q, bs, 0, 160) := by unfold fillQ; rw [e]; rfl
        rw [e2]
        exact ⟨0, by omega, rfl, by simpa using h, .inr (.inr ⟨rfl, d, rfl, hc⟩)⟩
      | some ws =>
        obtain ⟨e0, h'⟩ := h.put hlt hc
        obtain ⟨n, k1, k2, k3, k4⟩ := FQ.fill (ds := ds) h'
        have e2 : fillQ (d :: ds) q bs = ((fillQ ds (putQ q bs d).1 (putQ q bs d).2.1).1, (fillQ ds (putQ q bs d).1 (putQ q bs d).2.1).2.1, (fillQ ds (putQ q bs d).1 (putQ q bs d).2.1).2.2.1 + 1, (fillQ ds (putQ q bs d).1 (putQ q bs d).2.1).2.2.2) := by
          conv => lhs; unfold fillQ
          rw [if_neg (by rw [Classical.not_not]; exact e0)]
        rw [e2]
        refine ⟨n + 1, by simp; omega, by dsimp only; rw [k2], by simpa using k3, ?_⟩
        rcases k4 with ⟨k4, k5⟩ | ⟨k4, k5, k6⟩ | ⟨k4, c, k5, k6⟩
        · exact .inl ⟨k4, by simp [k5]⟩
        · exact .inr (.inl ⟨k4, by simp; omega, by simp at k6; omega⟩)
        · exact .inr (.inr ⟨k4, c, by simpa using k5, k6⟩)
end Go.Proofs.Ytggchklafbpgpaa
