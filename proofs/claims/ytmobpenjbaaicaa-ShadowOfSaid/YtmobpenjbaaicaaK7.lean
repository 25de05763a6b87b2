/-
  book: a key put, a key taken.
-/
import Derived.Test.YtmobpenjbaaicaaK6
namespace Go.Proofs.Ytmobpenjbaaicaa
open Go Go.RowKit X
set_option maxRecDepth 100000
set_option linter.unusedVariables false
theorem lb_cons (y : Int) (r : List Int) (k : Int) : lb (y :: r) k = if y < k then lb r k + 1 else 0 := by
  unfold lb
  rw [List.takeWhile_cons]
  by_cases h : y < k <;> simp [h]
theorem lb_le {k : Int} : ∀ (xs : List Int), lb xs k ≤ xs.length
  | [] => Nat.le_refl _
  | y :: r => by rw [lb_cons]; have := lb_le (k := k) r; split <;> simp only [List.length_cons] <;> omega
theorem lb_lt {k x : Int} : ∀ {xs : List Int} {t : Nat}, t < lb xs k → xs[t]? = some x → x < k
  | [], t, h, hx => by cases hx
  | y :: r, t, h, hx => by
    rw [lb_cons] at h
    split at h
    · rename_i hy
      cases t with
      | zero => cases hx; exact hy
      | succ t => exact lb_lt (xs := r) (t := t) (by omega) (by simpa using hx)
    · omega
theorem lb_ge {k x : Int} : ∀ {xs : List Int} {t : Nat}, xs.Pairwise (· < ·) → lb xs k ≤ t → xs[t]? = some x → ¬ x < k
  | [], t, _, h, hx => by cases hx
  | y :: r, t, hs, h, hx => by
    obtain ⟨h1, h2⟩ := List.pairwise_cons.1 hs
    rw [lb_cons] at h
    split at h
    · cases t with
      | zero => omega
      | succ t => exact lb_ge (xs := r) (t := t) h2 (by omega) (by simpa using hx)
    · rename_i hy
      cases t with
      | zero => cases hx; exact hy
      | succ t =>
        have := h1 x (List.mem_of_getElem? (by simpa using hx))
        omega
theorem lb_gt {k x : Int} {xs : List Int} (hs : xs.Pairwise (· < ·)) (hn : xs[lb xs k]? ≠ some k) (hx : x ∈ xs.drop (lb xs k)) : k < x := by
  obtain ⟨j, hj⟩ := List.mem_iff_getElem?.1 hx
  rw [List.getElem?_drop] at hj
  have h1 := lb_ge (k := k) hs (show lb xs k ≤ lb xs k + j by omega) hj
  have hlt := (List.getElem?_eq_some_iff.1 hj).1
  by_cases e : x = k
  · exfalso
    subst e
    by_cases h0 : j = 0
    · subst h0; exact hn hj
    · have hl : lb xs x < xs.length := by omega
      have h2 := lb_ge hs (Nat.le_refl _) (List.getElem?_eq_getElem hl)
      have h3 := List.pairwise_iff_getElem.1 hs (lb xs x) (lb xs x + j) hl hlt (by omega)
      rw [(List.getElem?_eq_some_iff.1 hj).2] at h3
      exact h2 h3
  · omega
theorem ins_up {k : Int} {xs : List Int} (hs : xs.Pairwise (· < ·)) (hn : xs[lb xs k]? ≠ some k) : (ins xs (lb xs k) k).Pairwise (· < ·) := by
  have ha : ∀ a ∈ xs.take (lb xs k), a < k := by
    intro a h
    obtain ⟨t, ht⟩ := List.mem_iff_getElem?.1 h
    rw [List.getElem?_take] at ht
    split at ht
    · exact lb_lt (by assumption) ht
    · cases ht
  unfold ins
  refine List.pairwise_append.2 ⟨hs.sublist (List.take_sublist _ _), List.pairwise_cons.2 ⟨fun x hx => lb_gt hs hn hx, hs.sublist (List.drop_sublist _ _)⟩, fun a h b hb => ?_⟩
  rcases List.mem_cons.1 hb with rfl | hb
  · exact ha a h
  · have := ha a h
    have := lb_gt hs hn hb
    omega
end Go.Proofs.Ytmobpenjbaaicaa
