/-
  shadow: a new one; a copy; the event of a number.
-/
import Derived.Test.YtmobpenjbaaicaaL2
namespace Go.Proofs.Ytmobpenjbaaicaa
open Go Go.RowKit X
set_option maxRecDepth 100000
set_option linter.unusedVariables false
set_option maxHeartbeats 1000000
theorem new_sh_t (many : Int) : Tri P F.shadow_New [.int .i64 many] [] fun v L' => if 0 ≤ many ∧ many ≤ 512 then ∃ b n k, v = .tuple [bptr b, .int .i64 0].toArray ∧ L' = shL b n k many [] [] else v = .tuple [.pointer none, .int .i64 1].toArray ∧ L' = [] := by
  intro w S hS
  refine shadow_New_cv ?_
  unfold shadow_New
  have H := Own.start hS
  refine join_o ?_
  have out : ∀ x, x = decide (¬ (0 ≤ many ∧ many ≤ 512)) → shadow_New_j0 many (fun v w' => ∃ L', (if 0 ≤ many ∧ many ≤ 512 then ∃ b n k, v = .tuple [bptr b, .int .i64 0].toArray ∧ L' = shL b n k many [] [] else v = .tuple [.pointer none, .int .i64 1].toArray ∧ L' = []) ∧ X.Own w S L' w') x w := by
    rintro _ rfl
    unfold shadow_New_j0
    refine cnd_i (fun h => ?_) fun h => ?_
    · have h := of_decide_eq_true h
      refine ⟨[], ?_, H.drop (by repeat (first | exact Cut.nil | (apply Cut.cons; (repeat (first | exact Pick.here | apply Pick.there)))))⟩
      rw [if_neg h]; exact ⟨rfl, rfl⟩
    · have h := of_decide_eq_false h
      have h : 0 ≤ many ∧ many ≤ 512 := by omega
      refine call_o H (new_book_t) (by repeat (first | exact Cut.nil | (apply Cut.cons; (repeat (first | exact Pick.here | apply Pick.there))))) fun vx L' wx hq H => ?_
      obtain ⟨n, rfl, rfl⟩ := hq
      simp only [List.cons_append, List.nil_append] at H
      refine ⟨_, rfl, ?_⟩
      refine call_o H (new_book_t) (by repeat (first | exact Cut.nil | (apply Cut.cons; (repeat (first | exact Pick.here | apply Pick.there))))) fun vx L' wx hq H => ?_
      obtain ⟨k, rfl, rfl⟩ := hq
      simp only [List.cons_append, List.nil_append] at H
      refine ⟨_, rfl, alc_o H fun b wx H => ?_⟩
      refine ⟨shL b n k many [] [], ?_, H.drop (by repeat (first | exact Cut.nil | (apply Cut.cons; (repeat (first | exact Pick.here | apply Pick.there)))))⟩
      rw [if_pos h]
      exact ⟨b, n, k, rfl, rfl⟩
  refine cnd_i (fun h => out _ ?_) fun h => out _ ?_
  · have h := of_decide_eq_true h; exact (decide_eq_true (by omega)).symm
  · have h := of_decide_eq_false h
    rw [Bool.eq_iff_iff, decide_eq_true_eq, decide_eq_true_eq]; omega
theorem copy_sh_t (b n k : Nat) (many : Int) (A B : List (Int × Int)) : Tri P F.shadow_Shadow_Copy [bptr b] (shL b n k many A B) fun v L' => ∃ b' n' k', v = bptr b' ∧ L' = shL b' n' k' many A B ++ shL b n k many A B := by
  intro w S hS
  refine shadow_Shadow_Copy_cv ?_
  unfold shadow_Shadow_Copy
  have H := Own.start hS
  refine drw_o H fun wx H => ?_
  dsimp only [nn]
  repeat (first | refine ldI_o H (by repeat (first | exact Pick.here | apply Pick.there)) (by rfl) ?_ | refine ldL_o H (by repeat (first | exact Pick.here | apply Pick.there)) (by rfl) ?_ | refine ldB_o H (by repeat (first | exact Pick.here | apply Pick.there)) (by rfl) ?_ | refine ldP_o H (by repeat (first | exact Pick.here | apply Pick.there)) (by rfl) ?_ | refine ldS_o H (by repeat (first | exact Pick.here | apply Pick.there)) (by rfl) ?_)
  refine call_o H (copy_book_t n A) (by repeat (first | exact Cut.nil | (apply Cut.cons; (repeat (first | exact Pick.here | apply Pick.there))))) fun vx L' wx hq H => ?_
  obtain ⟨n', rfl, rfl⟩ := hq
  simp only [List.cons_append, List.nil_append] at H
  refine ⟨_, rfl, ?_, ?_, ?_⟩
  · repeat (first | refine ldI_o H (by repeat (first | exact Pick.here | apply Pick.there)) (by rfl) ?_ | refine ldL_o H (by repeat (first | exact Pick.here | apply Pick.there)) (by rfl) ?_ | refine ldB_o H (by repeat (first | exact Pick.here | apply Pick.there)) (by rfl) ?_ | refine ldP_o H (by repeat (first | exact Pick.here | apply Pick.there)) (by rfl) ?_ | refine ldS_o H (by repeat (first | exact Pick.here | apply Pick.there)) (by rfl) ?_)
    rfl
  · repeat (first | refine ldI_o H (by repeat (first | exact Pick.here | apply Pick.there)) (by rfl) ?_ | refine ldL_o H (by repeat (first | exact Pick.here | apply Pick.there)) (by rfl) ?_ | refine ldB_o H (by repeat (first | exact Pick.here | apply Pick.there)) (by rfl) ?_ | refine ldP_o H (by repeat (first | exact Pick.here | apply Pick.there)) (by rfl) ?_ | refine ldS_o H (by repeat (first | exact Pick.here | apply Pick.there)) (by rfl) ?_)
    rfl
  refine call_o H (copy_book_t k B) (by repeat (first | exact Cut.nil | (apply Cut.cons; (repeat (first | exact Pick.here | apply Pick.there))))) fun vx L' wx hq H => ?_
  obtain ⟨k', rfl, rfl⟩ := hq
  simp only [List.cons_append, List.nil_append] at H
  refine ⟨_, rfl, ?_, alc_o H fun b' wx H => ?_⟩
  · repeat (first | refine ldI_o H (by repeat (first | exact Pick.here | apply Pick.there)) (by rfl) ?_ | refine ldL_o H (by repeat (first | exact Pick.here | apply Pick.there)) (by rfl) ?_ | refine ldB_o H (by repeat (first | exact Pick.here | apply Pick.there)) (by rfl) ?_ | refine ldP_o H (by repeat (first | exact Pick.here | apply Pick.there)) (by rfl) ?_ | refine ldS_o H (by repeat (first | exact Pick.here | apply Pick.there)) (by rfl) ?_)
    rfl
  exact ⟨_, ⟨b', n', k', rfl, rfl⟩, H.drop (by repeat (first | exact Cut.nil | (apply Cut.cons; (repeat (first | exact Pick.here | apply Pick.there)))))⟩
def evR (B : List (Int × Int)) (m : Int) : (Int × Int) × Int := if hasK B m then ((getK B m / 16, getK B m % 16), 0) else ((0, 0), 250)
theorem event_sh_t (b n k : Nat) (many : Int) (A B : List (Int × Int)) (m : Int) (hB : hasK B m = true → 0 ≤ getK B m ∧ getK B m < 9223372036854775808) : Tri P F.shadow_Shadow_Event [bptr b, .int .i64 m] (shL b n k many A B) fun v L' => v = .tuple [evV (evR B m).1.1 (evR B m).1.2, .int .i64 (evR B m).2].toArray ∧ L' = shL b n k many A B := by
  intro w S hS
  refine shadow_Shadow_Event_cv ?_
  unfold shadow_Shadow_Event evR
  have H := Own.start hS
  refine alc_o H fun b3 wx H => ?_
  dsimp only [nn]
  repeat (first | refine ldI_o H (by repeat (first | exact Pick.here | apply Pick.there)) (by rfl) ?_ | refine ldL_o H (by repeat (first | exact Pick.here | apply Pick.there)) (by rfl) ?_ | refine ldB_o H (by repeat (first | exact Pick.here | apply Pick.there)) (by rfl) ?_ | refine ldP_o H (by repeat (first | exact Pick.here | apply Pick.there)) (by rfl) ?_ | refine ldS_o H (by repeat (first | exact Pick.here | apply Pick.there)) (by rfl) ?_)
  refine call_p H (get_book_t k B m) (by repeat (first | exact Cut.nil | (apply Cut.cons; (repeat (first | exact Pick.here | apply Pick.there))))) fun wx H => ?_
  refine ⟨_, _, rfl, ?_⟩
  cases hh : hasK B m
  · refine cnd_i (fun _ => ?_) (fun h => by cases h)
    refine st1_o H (by repeat (first | exact Rep.here | apply Rep.there)) (by simp) fun wx H => ?_
    refine st1_o H (by repeat (first | exact Rep.here | apply Rep.there)) (by simp) fun wx H => ?_
    repeat (first | refine ldI_o H (by repeat (first | exact Pick.here | apply Pick.there)) (by rfl) ?_ | refine ldL_o H (by repeat (first | exact Pick.here | apply Pick.there)) (by rfl) ?_ | refine ldB_o H (by repeat (first | exact Pick.here | apply Pick.there)) (by rfl) ?_ | refine ldP_o H (by repeat (first | exact Pick.here | apply Pick.there)) (by rfl) ?_ | refine ldS_o H (by repeat (first | exact Pick.here | apply Pick.there)) (by rfl) ?_)
    exact ⟨_, ⟨rfl, rfl⟩, H.drop (by repeat (first | exact Cut.nil | (apply Cut.cons; (repeat (first | exact Pick.here | apply Pick.there)))))⟩
  · refine cnd_i (fun h => by cases h) fun _ => ?_
    refine call_p H (unkeyed_t (getK B m) (hB hh)) (by repeat (first | exact Cut.nil | (apply Cut.cons; (repeat (first | exact Pick.here | apply Pick.there))))) fun wx H => ?_
    refine ⟨_, _, rfl, ?_⟩
    refine st1_o H (by repeat (first | exact Rep.here | apply Rep.there)) (by simp) fun wx H => ?_
    refine st1_o H (by repeat (first | exact Rep.here | apply Rep.there)) (by simp) fun wx H => ?_
    repeat (first | refine ldI_o H (by repeat (first | exact Pick.here | apply Pick.there)) (by rfl) ?_ | refine ldL_o H (by repeat (first | exact Pick.here | apply Pick.there)) (by rfl) ?_ | refine ldB_o H (by repeat (first | exact Pick.here | apply Pick.there)) (by rfl) ?_ | refine ldP_o H (by repeat (first | exact Pick.here | apply Pick.there)) (by rfl) ?_ | refine ldS_o H (by repeat (first | exact Pick.here | apply Pick.there)) (by rfl) ?_)
    exact ⟨_, ⟨rfl, rfl⟩, H.drop (by repeat (first | exact Cut.nil | (apply Cut.cons; (repeat (first | exact Pick.here | apply Pick.there)))))⟩
end Go.Proofs.Ytmobpenjbaaicaa
