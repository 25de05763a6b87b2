/-
  mem: two windows share a byte just if there is one that both hold: MemMeets.
-/
import Derived.Test.YtbincfjaahjbiaaL1
namespace Go.Proofs.Ytbincfjaahjbiaa
open Go Go.RowKit X
set_option maxRecDepth 100000
set_option linter.unusedVariables false
def sharedB (a b t : Int) (n : Nat) : Bool := (List.range n).any fun j => decide (b ≤ a + j) && decide (a + j < b + t)
theorem sharedB_succ (a b t : Int) (n : Nat) : sharedB a b t (n + 1) = (sharedB a b t n || (decide (b ≤ a + n) && decide (a + n < b + t))) := by
  simp [sharedB, List.range_succ, List.any_append]
theorem meet_shared {a s b t : Int} (h : 0 ≤ a ∧ 0 ≤ b ∧ a ≤ 549755813888 ∧ b ≤ 549755813888 ∧ 0 ≤ s ∧ 0 ≤ t ∧ s ≤ 300 ∧ t ≤ 300) : meetB a s b t = sharedB a b t s.toNat := by
  have f1 : fairB a s = true := fairB_iff.2 (by omega)
  have f2 : fairB b t = true := fairB_iff.2 (by omega)
  rw [Bool.eq_iff_iff]
  simp only [meetB, f1, f2, sharedB, Bool.true_and, Bool.and_eq_true, decide_eq_true_eq, List.any_eq_true, List.mem_range]
  constructor
  · rintro ⟨h1, h2, h3⟩
    split at h3
    · have h3 := of_decide_eq_true h3
      exact ⟨(b - a).toNat, by omega, by omega, by omega⟩
    · have h3 := of_decide_eq_true h3
      exact ⟨0, by omega, by omega, by omega⟩
  · rintro ⟨j, h1, h2, h3⟩
    refine ⟨by omega, by omega, ?_⟩
    split
    · exact decide_eq_true (by omega)
    · exact decide_eq_true (by omega)
theorem memMeets_plain (a s b t : Int) : Plain F.crierlaw04_MemMeets [winV a s, winV b t] (.bool true) := by
  intro w
  refine crierlaw04_MemMeets_cv ?_
  refine alc_i fun w1 hB1 h1 hs1 => alc_i fun w2 hB2 h2 hs2 => ?_
  have h1 := h1.below (hB2 w1.heap.size (Nat.le_refl _)) (by omega)
  have hb2 := (hB1 _ (Nat.le_refl _)).trans (hB2 w.heap.size (by omega))
  refine (awake_plain w2).mono ?_
  rintro _ w3 ⟨rfl, hB3⟩
  have h1 := h1.ext hB3
  have h2 := h2.ext hB3
  have hb3 := hb2.trans (hB3.mono hb2.size)
  refine ⟨true, rfl, cnd_i (fun h => by cases h) fun _ => ?_⟩
  unfold JoinT
  have out : crierlaw04_MemMeets_j3 (fun v' w' => v' = .bool true ∧ Below w.heap.size w w') w.heap.size w1.heap.size true true w3 := by
    unfold crierlaw04_MemMeets_j3
    exact cnd_i (fun _ => ⟨rfl, hb3⟩) fun h => by cases h
  refine ldI_i h1 rfl (cnd_i (fun _ => out) fun e1 => ldI_i h2 rfl (cnd_i (fun _ => out) fun e2 => ldI_i h1 rfl (cnd_i (fun _ => out) fun e3 => ldI_i h2 rfl (cnd_i (fun _ => out) fun e4 =>
    ldI_i h1 rfl (cnd_i (fun _ => out) fun e5 => ldI_i h2 rfl (cnd_i (fun _ => out) fun e6 => ldI_i h1 rfl (cnd_i (fun _ => out) fun e7 => ldI_i h2 rfl ?_)))))))
  have e1 := of_decide_eq_false e1
  have e2 := of_decide_eq_false e2
  have e3 := of_decide_eq_false e3
  have e4 := of_decide_eq_false e4
  have e5 := of_decide_eq_false e5
  have e6 := of_decide_eq_false e6
  have e7 := of_decide_eq_false e7
  cases e8 : decide (t > 300)
  case true => exact out
  have e8 := of_decide_eq_false e8
  unfold crierlaw04_MemMeets_j3
  refine cnd_i (fun h => by cases h) fun _ => ?_
  refine ⟨fun (st : Bool × Int) w' => ∃ k : Nat, (k : Int) ≤ s ∧ st.2 = k ∧ st.1 = sharedB a b t k ∧ w' = w3, fun (st : Bool × Int) _ => (s - st.2).toNat, ⟨0, by omega, rfl, rfl, rfl⟩, ?_⟩
  rintro ⟨sh, i⟩ w' ⟨k, hk, hi, hsh, hw⟩
  simp only at hi hsh
  subst hi hsh
  obtain rfl : w3 = w' := hw.symm
  dsimp only
  unfold crierlaw04_MemMeets_l2
  refine ldI_i h1 rfl (cnd_i (fun h => ?_) fun h => ?_)
  · have h := of_decide_eq_true h
    unfold JoinT
    have step : ∀ x, x = sharedB a b t (k + 1) → crierlaw04_MemMeets_j0 (k : Int) (fun (s' : Bool × Int) w' => (∃ k : Nat, (k : Int) ≤ s ∧ s'.2 = k ∧ s'.1 = sharedB a b t k ∧ w' = w3) ∧ (s - s'.2).toNat < (s - (k : Int)).toNat) x w3 := by
      rintro _ rfl
      unfold crierlaw04_MemMeets_j0
      rw [W_id (by omega) (by omega)]
      exact ⟨⟨k + 1, by omega, rfl, rfl, rfl⟩, by show (s - ((k : Int) + 1)).toNat < _; omega⟩
    refine cnd_i (fun hx => step _ (by rw [sharedB_succ, hx, Bool.true_or])) fun hx => ?_
    refine ldI_i h1 rfl (ldI_i h2 rfl ?_)
    rw [W_id (n := a + k) (by omega) (by omega)]
    refine cnd_i (fun hy => ?_) fun hy => step _ ?_
    · refine ldI_i h1 rfl (ldI_i h2 rfl (ldI_i h2 rfl (step _ ?_)))
      rw [W_id (n := a + k) (by omega) (by omega), W_id (n := b + t) (by omega) (by omega)]
      have hy := of_decide_eq_true hy
      rw [sharedB_succ, hx, show decide (b ≤ a + k) = true from decide_eq_true (by omega)]
      simp
    · have hy := of_decide_eq_false hy
      rw [sharedB_succ, hx, show decide (b ≤ a + k) = false from decide_eq_false (by omega)]
      simp
  · have h := of_decide_eq_false h
    have : k = s.toNat := by omega
    subst this
    unfold JoinT
    refine cnd_i (fun _ => ldI_i h1 rfl (ldI_i h1 rfl (ldI_i h2 rfl (ldI_i h2 rfl ?_)))) fun h => by cases h
    refine (meet_plain a s b t w3).mono ?_
    rintro _ w4 ⟨rfl, hB4⟩
    refine ⟨_, rfl, ?_, hb3.trans (hB4.mono hb3.size)⟩
    rw [meet_shared (by omega)]; simp
end Go.Proofs.Ytbincfjaahjbiaa
