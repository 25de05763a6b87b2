/-
  lpi: what waits behind moves.
-/
import Derived.Test.YtgjddhpblpfneaaDoorL16
namespace Go.Proofs.YtgjddhpblpfneaaDoor
open Go Go.RowKit X
set_option maxRecDepth 100000
set_option linter.unusedVariables false
set_option linter.unusedSimpArgs false
set_option maxHeartbeats 2000000
theorem waitL_up (s : Lp) (bs : List Int) : Up (waitL s bs) := List.Pairwise.filter _ List.pairwise_lt_range
theorem mem_wait {s : Lp} {bs : List Int} (h : s.Ok) {k : Nat} : k ∈ waitL s bs ↔ hasM s bs (8192 + (k : Int)) = true := by
  unfold waitL
  rw [List.mem_filter, List.mem_range]
  constructor
  · exact fun h => h.2
  · intro hh
    refine ⟨?_, hh⟩
    unfold hasM at hh
    simp only [Bool.and_eq_true] at hh
    have := inB_iff.1 hh.1
    have := h.man
    omega
theorem up_sub {a b : List Nat} (ha : Up a) (hb : Up b) (h : ∀ x ∈ a, x ∈ b) : a.length ≤ b.length := by
  have : a = b.filter fun x => a.contains x := by
    refine sext ha (List.Pairwise.filter _ hb) fun x => ?_
    rw [List.mem_filter]
    constructor
    · exact fun hx => ⟨h x hx, by simpa using hx⟩
    · exact fun hx => by simpa using hx.2
  rw [this]
  exact List.length_filter_le _ _
theorem filter_or {α : Type} (A B : α → Bool) (l : List α) : (l.filter fun k => A k || B k).length ≤ (l.filter A).length + (l.filter B).length := by
  induction l with
  | nil => simp
  | cons x r ih =>
    simp only [List.filter_cons]
    cases A x <;> cases B x <;> simp <;> omega
theorem filter_split {α : Type} (A : α → Bool) (l : List α) : (l.filter fun k => !A k).length + (l.filter A).length = l.length := by
  induction l with
  | nil => simp
  | cons x r ih =>
    simp only [List.filter_cons]
    cases A x <;> simp <;> omega
/-- behind moves of some that wait -/
theorem mvAll_spec {S : LS} (h : LsOk S) (l : List Nat) (hn : l.Nodup) (hw : ∀ k ∈ l, hasM S.1 S.2.2 (8192 + (k : Int)) = true) :
    (∀ k : Nat, hasM (mvAll S l).1.1 (mvAll S l).1.2.2 (8192 + (k : Int)) = (hasM S.1 S.2.2 (8192 + (k : Int)) && !(l.contains k && decide ((k : Int) < S.2.1.many)))) ∧
    (∀ k : Nat, hasM (mvAll S l).1.2.1 (mvAll S l).1.2.2 (8192 + (k : Int)) = (hasM S.2.1 S.2.2 (8192 + (k : Int)) || (l.contains k && decide ((k : Int) < S.2.1.many)))) ∧
    (mvAll S l).2 = (l.filter fun k : Nat => decide ((k : Int) < S.2.1.many)).length := by
  induction l using snoc_ind with
  | h0 => exact ⟨fun k => by simp [mvAll], fun k => by simp [mvAll], rfl⟩
  | h1 l u ih =>
    obtain ⟨hn1, hn2, hn3⟩ := List.nodup_append.1 hn
    obtain ⟨i1, i2, i3⟩ := ih hn1 fun k hk => hw k (List.mem_append_left _ hk)
    have hok := mvAll_ok h l
    have hu : u ∉ l := fun hh => hn3 u hh u (by simp) rfl
    have huc : l.contains u = false := by simpa using hu
    rw [mvAll_snoc]
    unfold mvA
    have hb : mvB (mvAll S l).1 (8192 + (u : Int)) = decide ((u : Int) < S.2.1.many) := by
      unfold mvB
      rw [i1 u, hw u (by simp), huc, hok.2.2.1]
      have : inB S.2.1.many (8192 + (u : Int)) = decide ((u : Int) < S.2.1.many) := by
        rw [Bool.eq_iff_iff, inB_iff, decide_eq_true_eq]; omega
      rw [this]; simp
    refine ⟨fun k => ?_, fun k => ?_, ?_⟩
    · dsimp only
      rw [has_mv1 hok.1, hb, i1 k]
      by_cases e : (8192 : Int) + (k : Int) = 8192 + (u : Int)
      · have e : k = u := by omega
        subst e
        rw [hw k (by simp), huc]
        cases hd : decide ((k : Int) < S.2.1.many) <;> simp [hd]
      · have e' : k ≠ u := by omega
        rw [if_neg fun hh => e hh.2]
        simp [e']
    · dsimp only
      rw [has_mv2 hok.1, hb, i2 k]
      by_cases e : (8192 : Int) + (k : Int) = 8192 + (u : Int)
      · have e : k = u := by omega
        subst e
        rw [huc]
        cases hd : decide ((k : Int) < S.2.1.many) <;> simp [hd]
      · have e' : k ≠ u := by omega
        rw [if_neg fun hh => e hh.2]
        simp [e']
    · dsimp only
      rw [hb, i3, List.filter_append, List.length_append]
      cases hd : decide ((u : Int) < S.2.1.many) <;> simp [hd]
def mvSel (all : Bool) (id : Int) (x : List Nat) : List Nat := x.filter fun k => all || (8192 + (k : Int) == id)
theorem mvSel_all (id : Int) (x : List Nat) : mvSel true id x = x := by unfold mvSel; simp
theorem mvSel_one {S : LS} (h : LsOk S) (id : Int) : mvAll S (mvSel false id (waitL S.1 S.2.2)) = (mvS S id, if mvB S id then 1 else 0) := by
  unfold mvSel
  by_cases hh : ∃ k ∈ waitL S.1 S.2.2, 8192 + (k : Int) = id
  · obtain ⟨k, hk, rfl⟩ := hh
    have : ((waitL S.1 S.2.2).filter fun k' : Nat => false || (8192 + (k' : Int) == 8192 + (k : Int))) = [k] := by
      refine sext (List.Pairwise.filter _ (waitL_up _ _)) (by simp) fun x => ?_
      rw [List.mem_filter, List.mem_singleton]
      constructor
      · rintro ⟨_, hx⟩; simp at hx; omega
      · rintro rfl; exact ⟨hk, by simp⟩
    rw [this]; rfl
  · have : ((waitL S.1 S.2.2).filter fun k' : Nat => false || (8192 + (k' : Int) == id)) = [] := by
      rw [List.filter_eq_nil_iff]
      intro k hk hc
      exact hh ⟨k, hk, by simpa using hc⟩
    have hb : mvB S id = false := by
      unfold mvB
      cases hm : hasM S.1 S.2.2 id
      · rfl
      · exfalso
        have hm' := hm
        unfold hasM at hm'
        simp only [Bool.and_eq_true] at hm'
        have := inB_iff.1 hm'.1
        have e : 8192 + (((id - 8192).toNat : Nat) : Int) = id := by omega
        exact hh ⟨(id - 8192).toNat, (mem_wait h.ok1).2 (by rw [e]; exact hm), e⟩
    rw [this, hb]
    unfold mvS
    rw [if_neg (by rw [hb]; decide)]; rfl
def mvdB (all : Bool) (id many : Int) (k : Nat) : Bool := (all || (8192 + (k : Int) == id)) && decide ((k : Int) < many)
/-- the law, of numbers and lists -/
theorem moves_law {S : LS} (h : LsOk S) (all : Bool) (id : Int) : let S' := (mvAll S (mvSel all id (waitL S.1 S.2.2))).1
    (∀ k ∈ waitL S.1 S.2.2, (k ∈ waitL S'.1 S'.2.2 ↔ mvdB all id S.2.1.many k = false) ∧ (mvdB all id S.2.1.many k = true → k ∈ waitL S'.2.1 S'.2.2)) ∧
    (∀ k ∈ waitL S.2.1 S.2.2, k ∈ waitL S'.2.1 S'.2.2) ∧ (waitL S'.1 S'.2.2).length + (mvAll S (mvSel all id (waitL S.1 S.2.2))).2 = (waitL S.1 S.2.2).length ∧
    (waitL S'.2.1 S'.2.2).length ≤ (waitL S.2.1 S.2.2).length + (mvAll S (mvSel all id (waitL S.1 S.2.2))).2 := by
  intro S'
  have hup := waitL_up S.1 S.2.2
  have hsub : ∀ k ∈ mvSel all id (waitL S.1 S.2.2), k ∈ waitL S.1 S.2.2 := fun k hk => (List.mem_filter.1 hk).1
  have hnd : (mvSel all id (waitL S.1 S.2.2)).Nodup := by
    have : Up (mvSel all id (waitL S.1 S.2.2)) := List.Pairwise.filter _ hup
    exact this.imp fun h e => by rw [e] at h; omega
  obtain ⟨s1, s2, s3⟩ := mvAll_spec h (mvSel all id (waitL S.1 S.2.2)) hnd fun k hk => (mem_wait h.ok1).1 (hsub k hk)
  have hok := (mvAll_ok h (mvSel all id (waitL S.1 S.2.2))).1
  have hsel : ∀ k ∈ waitL S.1 S.2.2, (mvSel all id (waitL S.1 S.2.2)).contains k = (all || (8192 + (k : Int) == id)) := by
    intro k hk
    rw [Bool.eq_iff_iff, List.contains_iff_mem]
    unfold mvSel
    rw [List.mem_filter]
    exact ⟨fun hh => hh.2, fun hh => ⟨hk, hh⟩⟩
  have a1 : ∀ k, k ∈ waitL S'.1 S'.2.2 ↔ k ∈ waitL S.1 S.2.2 ∧ mvdB all id S.2.1.many k = false := by
    intro k
    rw [mem_wait hok.ok1, s1 k, Bool.and_eq_true, ← mem_wait h.ok1]
    constructor
    · rintro ⟨h1, h2⟩
      rw [hsel k h1] at h2
      exact ⟨h1, by unfold mvdB; rw [Bool.not_eq_true'] at h2; exact h2⟩
    · rintro ⟨h1, h2⟩
      rw [hsel k h1]
      exact ⟨h1, by unfold mvdB at h2; rw [Bool.not_eq_true']; exact h2⟩
  have a2 : ∀ k, k ∈ waitL S'.2.1 S'.2.2 ↔ k ∈ waitL S.2.1 S.2.2 ∨ k ∈ mvSel all id (waitL S.1 S.2.2) ∧ (k : Int) < S.2.1.many := by
    intro k
    rw [mem_wait hok.ok2, s2 k, Bool.or_eq_true, ← mem_wait h.ok2, Bool.and_eq_true, List.contains_iff_mem, decide_eq_true_eq]
  refine ⟨fun k hk => ⟨?_, fun hm => ?_⟩, fun k hk => (a2 k).2 (.inl hk), ?_, ?_⟩
  · rw [a1 k]; exact ⟨fun hh => hh.2, fun hh => ⟨hk, hh⟩⟩
  · unfold mvdB at hm
    simp only [Bool.and_eq_true, decide_eq_true_eq] at hm
    refine (a2 k).2 (.inr ⟨List.mem_filter.2 ⟨hk, hm.1⟩, hm.2⟩)
  · have e1 : waitL S'.1 S'.2.2 = (waitL S.1 S.2.2).filter fun k => !mvdB all id S.2.1.many k := by
      refine sext (waitL_up _ _) (List.Pairwise.filter _ hup) fun k => ?_
      rw [a1 k, List.mem_filter]; simp
    have e2 : (mvSel all id (waitL S.1 S.2.2)).filter (fun k : Nat => decide ((k : Int) < S.2.1.many)) = (waitL S.1 S.2.2).filter (mvdB all id S.2.1.many) := by
      unfold mvSel
      rw [List.filter_filter]
      congr 1
      funext k
      unfold mvdB
      rw [Bool.and_comm]
    rw [e1, s3, e2]
    exact filter_split _ _
  · rw [s3]
    have hsp := filter_split (fun k => (waitL S.2.1 S.2.2).contains k) (waitL S'.2.1 S'.2.2)
    have l1 : ((waitL S'.2.1 S'.2.2).filter fun k => (waitL S.2.1 S.2.2).contains k).length ≤ (waitL S.2.1 S.2.2).length :=
      up_sub (List.Pairwise.filter _ (waitL_up _ _)) (waitL_up _ _) fun x hx => by simpa using (List.mem_filter.1 hx).2
    have l2 : ((waitL S'.2.1 S'.2.2).filter fun k => !(waitL S.2.1 S.2.2).contains k).length ≤ ((mvSel all id (waitL S.1 S.2.2)).filter fun k : Nat => decide ((k : Int) < S.2.1.many)).length := by
      refine up_sub (List.Pairwise.filter _ (waitL_up _ _)) (List.Pairwise.filter _ (List.Pairwise.filter _ hup)) fun x hx => ?_
      obtain ⟨h1, h2⟩ := List.mem_filter.1 hx
      rcases (a2 x).1 h1 with h3 | h3
      · simp [h3] at h2
      · exact List.mem_filter.2 ⟨h3.1, by simpa using h3.2⟩
    omega
end Go.Proofs.YtgjddhpblpfneaaDoor
