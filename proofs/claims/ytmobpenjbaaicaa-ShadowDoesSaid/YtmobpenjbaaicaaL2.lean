/-
  shadow: what is told of an event, of a number.
-/
import Derived.Test.YtmobpenjbaaicaaL1
namespace Go.Proofs.Ytmobpenjbaaicaa
open Go Go.RowKit X
set_option maxRecDepth 100000
set_option linter.unusedVariables false
set_option maxHeartbeats 1000000
/-- a shadow: its record, and its two books -/
abbrev shL (b n k : Nat) (many : Int) (A B : List (Int × Int)) : List It := [row b [.int .i64 many, bptr n, bptr k] T.t66, bookI n A, bookI k B]
theorem len_sh_t (b n k : Nat) (many : Int) (A B : List (Int × Int)) : Tri P F.shadow_Shadow_Len [bptr b] (shL b n k many A B) fun v L' => v = .int .i64 A.length ∧ L' = shL b n k many A B := by
  intro w S hS
  refine shadow_Shadow_Len_cv ?_
  unfold shadow_Shadow_Len
  have H := Own.start hS
  dsimp only [nn]
  refine ldP_o H .here (by rfl) ?_
  refine call_p H (len_book_t n A) (by repeat (first | exact Cut.nil | (apply Cut.cons; (repeat (first | exact Pick.here | apply Pick.there))))) fun wx H => ?_
  exact ⟨_, rfl, _, ⟨rfl, rfl⟩, H⟩
def numR (A : List (Int × Int)) (d e : Int) : Int × Int := if mayB d e && hasK A (keyI d e) then (getK A (keyI d e), 0) else (0, 250)
theorem number_t (b n k : Nat) (many : Int) (A B : List (Int × Int)) (d e : Int) : Tri P F.shadow_Shadow_Number [bptr b, evV d e] (shL b n k many A B) fun v L' => v = .tuple [.int .i64 (numR A d e).1, .int .i64 (numR A d e).2].toArray ∧ L' = shL b n k many A B := by
  intro w S hS
  refine shadow_Shadow_Number_cv ?_
  unfold shadow_Shadow_Number
  have H := Own.start hS
  refine alc_o H fun b4 wx H => ?_
  refine drw_o H fun wx H => ?_
  dsimp only [nn]
  repeat (first | refine ldI_o H (by repeat (first | exact Pick.here | apply Pick.there)) (by rfl) ?_ | refine ldL_o H (by repeat (first | exact Pick.here | apply Pick.there)) (by rfl) ?_ | refine ldB_o H (by repeat (first | exact Pick.here | apply Pick.there)) (by rfl) ?_ | refine ldP_o H (by repeat (first | exact Pick.here | apply Pick.there)) (by rfl) ?_ | refine ldS_o H (by repeat (first | exact Pick.here | apply Pick.there)) (by rfl) ?_)
  refine call_p H (keyed_t d e) (by repeat (first | exact Cut.nil | (apply Cut.cons; (repeat (first | exact Pick.here | apply Pick.there))))) fun wx H => ?_
  refine ⟨_, rfl, ?_, ?_⟩
  · repeat (first | refine ldI_o H (by repeat (first | exact Pick.here | apply Pick.there)) (by rfl) ?_ | refine ldL_o H (by repeat (first | exact Pick.here | apply Pick.there)) (by rfl) ?_ | refine ldB_o H (by repeat (first | exact Pick.here | apply Pick.there)) (by rfl) ?_ | refine ldP_o H (by repeat (first | exact Pick.here | apply Pick.there)) (by rfl) ?_ | refine ldS_o H (by repeat (first | exact Pick.here | apply Pick.there)) (by rfl) ?_)
    rfl
  refine call_p H (get_book_t n A (keyI d e)) (by repeat (first | exact Cut.nil | (apply Cut.cons; (repeat (first | exact Pick.here | apply Pick.there))))) fun wx H => ?_
  refine ⟨_, _, rfl, join_o ?_⟩
  repeat (first | refine ldI_o H (by repeat (first | exact Pick.here | apply Pick.there)) (by rfl) ?_ | refine ldL_o H (by repeat (first | exact Pick.here | apply Pick.there)) (by rfl) ?_ | refine ldB_o H (by repeat (first | exact Pick.here | apply Pick.there)) (by rfl) ?_ | refine ldP_o H (by repeat (first | exact Pick.here | apply Pick.there)) (by rfl) ?_ | refine ldS_o H (by repeat (first | exact Pick.here | apply Pick.there)) (by rfl) ?_)
  refine call_p H (may_t d e) (by repeat (first | exact Cut.nil | (apply Cut.cons; (repeat (first | exact Pick.here | apply Pick.there))))) fun wx H => ?_
  refine ⟨_, rfl, ?_⟩
  have fin : ∀ x, x = !(mayB d e && hasK A (keyI d e)) → shadow_Shadow_Number_j0 (fun v w' => ∃ L', (v = .tuple [.int .i64 (numR A d e).1, .int .i64 (numR A d e).2].toArray ∧ L' = shL b n k many A B) ∧ X.Own w S L' w') (getK A (keyI d e)) x wx := by
    rintro _ rfl
    unfold shadow_Shadow_Number_j0 numR
    cases mayB d e && hasK A (keyI d e)
    · exact cnd_i (fun _ => ⟨_, ⟨rfl, rfl⟩, H.drop (by repeat (first | exact Cut.nil | (apply Cut.cons; (repeat (first | exact Pick.here | apply Pick.there)))))⟩) (fun h => by cases h)
    · exact cnd_i (fun h => by cases h) fun _ => ⟨_, ⟨rfl, rfl⟩, H.drop (by repeat (first | exact Cut.nil | (apply Cut.cons; (repeat (first | exact Pick.here | apply Pick.there)))))⟩
  refine cnd_i (fun h => fin _ ?_) fun h => fin _ ?_
  · rw [Bool.not_eq_true'] at h; rw [h]; rfl
  · rw [Bool.not_eq_false'] at h; rw [h, Bool.true_and]
end Go.Proofs.Ytmobpenjbaaicaa
