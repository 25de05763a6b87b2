/-
  E: things in another order; lists of what is found.
-/
import Derived.Test.YtbnadobjnmboiaaDoorA2
namespace Go.Proofs.YtbnadobjnmboiaaDoor.X
open Go Go.RowKit
set_option linter.unusedVariables false
variable {w w0 : World} {S0 : Nat → Prop}
theorem own_comm {A B : List It} (H : Own w0 S0 (A ++ B) w) : Own w0 S0 (B ++ A) w := by
  obtain ⟨S, h1, h2⟩ := H
  obtain ⟨S1, S2, g1, g2, g3, g4⟩ := Sep.append.1 h1
  exact ⟨S, Sep.append.2 ⟨S2, S1, g2, g1, fun k h h' => g3 k h' h, fun k => by rw [g4]; exact Or.comm⟩, h2⟩
theorem own_left {A B : List It} (H : Own w0 S0 (A ++ B) w) : Own w0 S0 A w := by
  obtain ⟨S, h1, h2, h3⟩ := H
  obtain ⟨S1, S2, g1, g2, g3, g4⟩ := Sep.append.1 h1
  exact ⟨S1, g1, h2, fun k hk => h3 k ((g4 k).2 (.inl hk))⟩
theorem fm_get {α : Type} {f : Nat → Option α} {x : α} : ∀ {M k : Nat}, k < M → f k = some x → ((List.range M).filterMap f)[((List.range k).filterMap f).length]? = some x
  | 0, k, h, _ => by omega
  | M + 1, k, h, hx => by
    rw [List.range_succ, List.filterMap_append]
    by_cases hk : k < M
    · have ih := fm_get hk hx
      have hl := (List.getElem?_eq_some_iff.1 ih).1
      rw [List.getElem?_append_left hl]; exact ih
    · have : k = M := by omega
      subst this
      rw [List.getElem?_append_right (Nat.le_refl _)]; simp [hx]
end Go.Proofs.YtbnadobjnmboiaaDoor.X
