/-
  shadow: which events there may be, and their keys.
-/
import Derived.Test.YtmobpenjbaaicaaKA
namespace Go.Proofs.Ytmobpenjbaaicaa
open Go Go.RowKit X
set_option maxRecDepth 100000
set_option linter.unusedVariables false
def evV (d e : Int) : Value := .agg [.int .i64 d, .int .i64 e].toArray
def mayB (d e : Int) : Bool := decide (d ≥ 0) && (decide (d < 32) && (decide (e ≥ 0) && decide (e < 16)))
def keyI (d e : Int) : Int := IntKind.i64.wrap (IntKind.i64.wrap (d * 16) + e)
theorem mayB_iff {d e : Int} : mayB d e = true ↔ 0 ≤ d ∧ d < 32 ∧ 0 ≤ e ∧ e < 16 := by simp [mayB]
theorem keyI_may {d e : Int} (h : mayB d e = true) : keyI d e = d * 16 + e := by
  have := mayB_iff.1 h
  unfold keyI
  rw [W_id (n := d * 16) (by omega) (by omega), W_id (by omega) (by omega)]
theorem may_t (d e : Int) : Tri P F.shadow_May [evV d e] [] fun v L' => v = .bool (mayB d e) ∧ L' = [] := by
  intro w S hS
  refine shadow_May_cv ?_
  unfold shadow_May
  have H := Own.start hS
  refine alc_o H fun b3 wx H => join_o ?_
  have fin : ∀ x, x = mayB d e → shadow_May_j0 (fun v w' => ∃ L', (v = .bool (mayB d e) ∧ L' = []) ∧ X.Own w S L' w') x wx := by
    rintro _ rfl
    unfold shadow_May_j0
    exact ⟨_, ⟨rfl, rfl⟩, H.drop (by repeat (first | exact Cut.nil | (apply Cut.cons; (repeat (first | exact Pick.here | apply Pick.there)))))⟩
  refine ldI_o H .here (by rfl) (cnd_i (fun h1 => ldI_o H .here (by rfl) (cnd_i (fun h2 => ldI_o H .here (by rfl) (cnd_i (fun h3 => ldI_o H .here (by rfl) (fin _ ?_)) fun h3 => fin _ ?_)) fun h2 => fin _ ?_)) fun h1 => fin _ ?_)
  · simp only [mayB, h1, h2, h3, Bool.true_and]
  · simp only [mayB, h1, h2, h3, Bool.true_and, Bool.false_and]
  · simp only [mayB, h1, h2, Bool.true_and, Bool.false_and]
  · simp only [mayB, h1, Bool.false_and]
theorem keyed_t (d e : Int) : Tri P F.shadow_keyed [evV d e] [] fun v L' => v = .int .i64 (keyI d e) ∧ L' = [] := by
  intro w S hS
  refine shadow_keyed_cv ?_
  unfold shadow_keyed
  have H := Own.start hS
  refine alc_o H fun b3 wx H => ?_
  repeat (first | refine ldI_o H (by repeat (first | exact Pick.here | apply Pick.there)) (by rfl) ?_ | refine ldL_o H (by repeat (first | exact Pick.here | apply Pick.there)) (by rfl) ?_ | refine ldB_o H (by repeat (first | exact Pick.here | apply Pick.there)) (by rfl) ?_ | refine ldP_o H (by repeat (first | exact Pick.here | apply Pick.there)) (by rfl) ?_ | refine ldS_o H (by repeat (first | exact Pick.here | apply Pick.there)) (by rfl) ?_)
  exact ⟨_, ⟨rfl, rfl⟩, H.drop (by repeat (first | exact Cut.nil | (apply Cut.cons; (repeat (first | exact Pick.here | apply Pick.there)))))⟩
theorem unkeyed_t (k : Int) (h : 0 ≤ k ∧ k < 9223372036854775808) : Tri P F.shadow_unkeyed [.int .i64 k] [] fun v L' => v = evV (k / 16) (k % 16) ∧ L' = [] := by
  intro w S hS
  refine shadow_unkeyed_cv ?_
  unfold shadow_unkeyed
  have H := Own.start hS
  refine alc_o H fun b2 wx H => ⟨by omega, by omega, ?_⟩
  refine st1_o H (by repeat (first | exact Rep.here | apply Rep.there)) (by simp) fun wx H => ?_
  refine st1_o H (by repeat (first | exact Rep.here | apply Rep.there)) (by simp) fun wx H => ?_
  simp only [List.set_cons_zero, List.set_cons_succ] at H
  repeat (first | refine ldI_o H (by repeat (first | exact Pick.here | apply Pick.there)) (by rfl) ?_ | refine ldL_o H (by repeat (first | exact Pick.here | apply Pick.there)) (by rfl) ?_ | refine ldB_o H (by repeat (first | exact Pick.here | apply Pick.there)) (by rfl) ?_ | refine ldP_o H (by repeat (first | exact Pick.here | apply Pick.there)) (by rfl) ?_ | refine ldS_o H (by repeat (first | exact Pick.here | apply Pick.there)) (by rfl) ?_)
  refine ⟨_, ⟨?_, rfl⟩, H.drop (by repeat (first | exact Cut.nil | (apply Cut.cons; (repeat (first | exact Pick.here | apply Pick.there)))))⟩
  rw [Int.tdiv_eq_ediv_of_nonneg h.1, Int.tmod_eq_emod_of_nonneg h.1, W_id (by omega) (by omega)]; rfl
end Go.Proofs.Ytmobpenjbaaicaa
