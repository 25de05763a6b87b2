/-
  mem: the document's examples; windows that meet: MemMeets.
-/
import Derived.Test.YtbincfjaahjbiaaM3
namespace Go.Proofs.Ytbincfjaahjbiaa
open Go Go.RowKit X
set_option maxRecDepth 100000
set_option linter.unusedVariables false
theorem awake_plain : Plain F.crierlaw04_awake [] (.bool true) := by
  intro w
  refine crierlaw04_awake_cv ?_
  refine (new_cv (w := w) 16).mono ?_
  rintro _ w1 ⟨hB1, h⟩
  rw [if_pos (by omega)] at h
  obtain ⟨b, d, rfl, hm, hb0, hd0⟩ := h
  refine ⟨some ⟨b, 0, none⟩, 0, rfl, ?_⟩
  unfold JoinT
  refine cnd_i (fun h => by cases h) fun _ => ?_
  unfold crierlaw04_awake_j1
  refine cnd_i (fun h => by cases h) fun _ => ?_
  have hl := hm.lt
  have hs1 := hB1.size
  refine alc_i fun w2 hB2 h2 hs2 => st1_i h2 (by simp) fun w3 hB3 _ hs3 h3 => st1_i h3 (by simp) fun w4 hB4 _ hs4 h4 => ?_
  have h4 : Row w4 w1.heap.size [.int .i64 4, .int .i64 8] T.t23 := h4
  have hb4 := ((hB1.trans (hB2 _ hs1)).trans (hB3 w.heap.size (by omega))).trans (hB4 w.heap.size (by omega))
  have hm4 := hm.ext (((hB2 _ (Nat.le_refl _)).trans (hB3 _ (Nat.le_refl _))).trans (hB4 _ (Nat.le_refl _)))
  refine ldI_i h4 rfl (ldI_i h4 rfl ?_)
  refine (write_cv hm4 4 8 0 4 258).mono ?_
  rintro _ w5 ⟨rfl, hO5, hm5⟩
  have h5 := h4.out hO5 (by omega)
  have hb5 := hb4.trans (hO5.below (B := w.heap.size) (by omega) (by omega))
  have hs5 := hO5.size
  refine ⟨0, by kernel_rfl, ldI_i h5 rfl (ldI_i h5 rfl ?_)⟩
  refine (read_cv hm5 4 8 0 8).mono ?_
  rintro _ w6 ⟨rfl, hB6⟩
  have h6 := h5.ext hB6
  have hm6 := hm5.ext hB6
  have hb6 := hb5.trans (hB6.mono (by omega))
  refine ⟨258, 0, by kernel_rfl, ldI_i h6 rfl (ldI_i h6 rfl ?_)⟩
  refine (read_cv hm6 4 8 4 8).mono ?_
  rintro _ w7 ⟨rfl, hB7⟩
  have hm7 := hm6.ext hB7
  have hb7 := hb6.trans (hB7.mono hb6.size)
  refine ⟨0, 41, by kernel_rfl, ?_⟩
  refine (read_cv hm7 10 8 0 8).mono ?_
  rintro _ w8 ⟨rfl, hB8⟩
  have hb8 := hb7.trans (hB8.mono hb7.size)
  refine ⟨0, 42, by kernel_rfl, ?_⟩
  unfold JoinT
  exact ⟨rfl, hb8⟩
def fairB (a s : Int) : Bool := decide (a ≥ 0) && (decide (a ≤ 1099511627776) && (decide (s ≥ 0) && decide (s ≤ 1099511627776)))
theorem fair_plain (a s : Int) : Plain F.mem_fair [winV a s] (.bool (fairB a s)) := by
  intro w
  refine mem_fair_cv ?_
  refine alc_i fun w1 hB1 h1 hs1 => ?_
  have hb1 := hB1 _ (Nat.le_refl _)
  unfold JoinT
  have no : ∀ x, x = false → fairB a s = x → mem_fair_j0 (fun v' w' => v' = .bool (fairB a s) ∧ Below w.heap.size w w') x w1 := fun x hx h => ⟨by rw [h], hb1⟩
  refine ldI_i h1 rfl (cnd_i (fun ha => ?_) fun ha => no _ rfl (by simp only [fairB, ha, Bool.false_and]))
  refine ldI_i h1 rfl (cnd_i (fun ha' => ?_) fun ha' => no _ rfl (by simp only [fairB, ha', Bool.false_and, Bool.and_false]))
  refine ldI_i h1 rfl (cnd_i (fun hs => ?_) fun hs => no _ rfl (by simp only [fairB, hs, Bool.false_and, Bool.and_false]))
  exact ldI_i h1 rfl ⟨by simp only [fairB, ha, ha', hs, Bool.true_and], hb1⟩
theorem fairB_iff {a s : Int} : fairB a s = true ↔ 0 ≤ a ∧ a ≤ 1099511627776 ∧ 0 ≤ s ∧ s ≤ 1099511627776 := by simp [fairB]
def meetB (a s b t : Int) : Bool := fairB a s && (fairB b t && (decide (1 ≤ s) && (decide (1 ≤ t) && (if a < b then decide (b - a < s) else decide (a - b < t)))))
theorem meet_plain (a s b t : Int) : Plain F.mem_Meet [winV a s, winV b t] (.bool (meetB a s b t)) := by
  intro w
  refine mem_Meet_cv ?_
  refine alc_i fun w1 hB1 h1 hs1 => alc_i fun w2 hB2 h2 hs2 => ?_
  have h1 := h1.below (hB2 w1.heap.size (Nat.le_refl _)) (by omega)
  have hb2 := (hB1 _ (Nat.le_refl _)).trans (hB2 w.heap.size (by omega))
  unfold JoinT
  have no : ∀ w', Below w.heap.size w w' → meetB a s b t = false → mem_Meet_j0 (fun v' w' => v' = .bool (meetB a s b t) ∧ Below w.heap.size w w') w.heap.size w1.heap.size true w' := by
    intro w' hb h
    unfold mem_Meet_j0
    exact cnd_i (fun _ => ⟨by rw [h], hb⟩) fun h => by cases h
  refine ldI_i h1 rfl (ldI_i h1 rfl ?_)
  refine (fair_plain a s w2).mono ?_
  rintro _ w3 ⟨rfl, hB3⟩
  have h1 := h1.ext hB3
  have h2 := h2.ext hB3
  have hb3 := hb2.trans (hB3.mono hb2.size)
  refine ⟨_, rfl, cnd_i (fun h => no _ hb3 (by simp only [Bool.not_eq_true'] at h; simp only [meetB, h, Bool.false_and])) fun hfa => ?_⟩
  refine ldI_i h2 rfl (ldI_i h2 rfl ?_)
  refine (fair_plain b t w3).mono ?_
  rintro _ w4 ⟨rfl, hB4⟩
  have h1 := h1.ext hB4
  have h2 := h2.ext hB4
  have hb4 := hb3.trans (hB4.mono hb3.size)
  refine ⟨_, rfl, cnd_i (fun h => no _ hb4 (by simp only [Bool.not_eq_true'] at h; simp only [meetB, h, Bool.false_and, Bool.and_false])) fun hfb => ?_⟩
  refine ldI_i h1 rfl (cnd_i (fun h => no _ hb4 (by have h := of_decide_eq_true h; simp only [meetB, show decide (1 ≤ s) = false from decide_eq_false (by omega), Bool.false_and, Bool.and_false])) fun hs => ?_)
  have hs := of_decide_eq_false hs
  simp only [Bool.not_eq_false'] at hfa hfb
  have ha' := fairB_iff.1 hfa
  have hb' := fairB_iff.1 hfb
  refine ldI_i h2 rfl ?_
  cases ht : decide (t < 1)
  · have ht := of_decide_eq_false ht
    unfold mem_Meet_j0
    have e1 : decide (1 ≤ s) = true := decide_eq_true (by omega)
    have e2 : decide (1 ≤ t) = true := decide_eq_true (by omega)
    refine cnd_i (fun h => by cases h) fun _ => ldI_i h1 rfl (ldI_i h2 rfl (cnd_i (fun h => ?_) fun h => ?_))
    · have h := of_decide_eq_true h
      refine ldI_i h2 rfl (ldI_i h1 rfl (ldI_i h1 rfl ⟨?_, hb4⟩))
      rw [W_id (by omega) (by omega)]
      simp only [meetB, hfa, hfb, e1, e2, Bool.true_and, if_pos h]
    · have h := of_decide_eq_false h
      refine ldI_i h1 rfl (ldI_i h2 rfl (ldI_i h2 rfl ⟨?_, hb4⟩))
      rw [W_id (by omega) (by omega)]
      simp only [meetB, hfa, hfb, e1, e2, Bool.true_and, if_neg h]
  · have ht := of_decide_eq_true ht
    exact no _ hb4 (by simp only [meetB, show decide (1 ≤ t) = false from decide_eq_false (by omega), Bool.false_and, Bool.and_false])
end Go.Proofs.Ytbincfjaahjbiaa
