/-
  shadow: what binding and freeing leave; ShadowKeeps, ShadowFull.
-/
import Derived.Test.YtmobpenjbaaicaaL9
namespace Go.Proofs.Ytmobpenjbaaicaa
open Go Go.RowKit X
set_option maxRecDepth 100000
set_option linter.unusedVariables false
set_option linter.unusedSimpArgs false
set_option maxHeartbeats 1000000
variable {many : Int} {A B : List (Int × Int)} {d e d' e' n : Int}
theorem lk_has {kv : List (Int × Int)} {k n : Int} (h : lk kv k = some n) : hasK kv k = true ∧ getK kv k = n := ⟨by rw [hasK_lk, h]; rfl, by rw [getK_lk, h]; rfl⟩
theorem has_lk {kv : List (Int × Int)} {k : Int} (h : hasK kv k = true) : lk kv k = some (getK kv k) := by rw [lk, h, if_pos rfl]
theorem keyI_inj (h : mayB d e = true) (h' : mayB d' e' = true) (hk : keyI d e = keyI d' e') : d = d' ∧ e = e' := by
  rw [keyI_may h, keyI_may h'] at hk
  have := mayB_iff.1 h
  have := mayB_iff.1 h'
  omega
theorem bind_err (h : (bindR many A B d e).1.2 ≠ 0) : (bindR many A B d e).1.1 = 0 ∧ (bindR many A B d e).2 = (A, B) := by
  unfold bindR bindM at h ⊢
  split
  · exact ⟨rfl, rfl⟩
  · rename_i h1
    rw [if_neg h1] at h
    split
    · rename_i h2; rw [if_pos h2] at h; exact absurd rfl h
    · rename_i h2
      rw [if_neg h2] at h
      split
      · exact ⟨rfl, rfl⟩
      · rename_i h3; rw [if_neg h3] at h; exact absurd rfl h
theorem Inv.bind_ok (hI : Inv many A B) (h : (bindR many A B d e).1.2 = 0) : mayB d e = true ∧ lk (bindR many A B d e).2.1 (keyI d e) = some (bindR many A B d e).1.1 := by
  unfold bindR bindM at h ⊢
  by_cases h1 : mayB d e = false
  · rw [if_pos h1] at h; cases h
  · rw [if_neg h1] at h ⊢
    refine ⟨by simpa using h1, ?_⟩
    by_cases h2 : hasK A (keyI d e) = true
    · rw [if_pos h2]; exact has_lk h2
    · rw [if_neg h2] at h ⊢
      by_cases h3 : many ≤ (least B : Int)
      · rw [if_pos h3] at h; cases h
      · rw [if_neg h3]
        show lk (putK A _ _) _ = _
        rw [lk_put hI.upA (by simpa using h2), if_pos rfl]
theorem Inv.bind_keeps (hI : Inv many A B) {k : Int} (h : lk A k = some n) : lk (bindR many A B d e).2.1 k = some n := by
  unfold bindR bindM
  split
  · exact h
  · split
    · exact h
    · rename_i h2
      split
      · exact h
      · show lk (putK A _ _) _ = _
        rw [lk_put hI.upA (by simpa using h2)]
        split
        · rename_i e1
          subst e1
          rw [(lk_has h).1] at h2; exact absurd rfl h2
        · exact h
theorem Inv.free_keeps (hI : Inv many A B) (hm : mayB d e = true) (h : lk A (keyI d e) = some n) (hne : ¬ (d' = d ∧ e' = e)) : lk (freeM A B d' e').2.1 (keyI d e) = some n := by
  unfold freeM
  split
  · exact h
  · rename_i h1
    split
    · exact h
    · show lk (takeK A _) _ = _
      rw [lk_take hI.upA, if_neg fun e1 => hne (by have := keyI_inj hm (by simpa using h1) e1; omega)]
      exact h
theorem num_of (hm : mayB d e = true) (h : lk A (keyI d e) = some n) : numR A d e = (n, 0) := by
  unfold numR
  rw [hm, (lk_has h).1, (lk_has h).2]; rfl
theorem num_not (h : mayB d e = true → lk A (keyI d e) = none) : numR A d e = (0, 250) := by
  unfold numR
  cases hm : mayB d e
  · rfl
  · rw [hasK_lk, h hm]; rfl
theorem free_of (hm : mayB d e = true) (h : lk A (keyI d e) = some n) : freeM A B d e = ((n, 0), takeK A (keyI d e), takeK B n) := by
  unfold freeM
  rw [hm, (lk_has h).1, (lk_has h).2, if_neg (by decide), if_neg (by decide)]
theorem bind_of (hm : mayB d e = true) (h : lk A (keyI d e) = some n) : bindR many A B d e = ((n, 0), A, B) := by
  unfold bindR bindM
  rw [hm, (lk_has h).1, (lk_has h).2, if_neg (by decide), if_pos rfl]
theorem bind_new (hm : mayB d e = true) (h : lk A (keyI d e) = none) : bindR many A B d e = if many ≤ (least B : Int) then ((0, 2), A, B) else (((least B : Int), 0), putK A (keyI d e) (least B), putK B (least B) (keyI d e)) := by
  have : hasK A (keyI d e) = false := by rw [hasK_lk, h]; rfl
  unfold bindR bindM
  rw [hm, this, if_neg (by decide), if_neg (by decide)]
theorem ev_fields (b b' c c' : Int) (w : World) : (Op.eqFields 9999 [.int .i64 b, .int .i64 c].toArray [.int .i64 b', .int .i64 c'].toArray (P.fieldsOf T.t24).toList).run P w = .ok (b == b' && c == c') w := by
  simp only [Program.fieldsOf, Try.underlying24]
  have u3 := Try.underlying3
  have a3 := Try.isAgg3
  have z3 := Try.sizeOf3
  go_simp
  by_cases h1 : b = b' <;> by_cases h2 : c = c' <;> simp [h1, h2]
theorem ev_ne {w : World} {K : Bool → Prop} (h : K (!(d == d' && e == e'))) : eqA P .neq T.t24 (.agg [.int .i64 d, .int .i64 e].toArray) (.agg [.int .i64 d', .int .i64 e'].toArray) w K :=
  eqA_neq (by kernel_rfl) (by kernel_rfl) (by kernel_rfl) (ev_fields d d' e e' w) h
theorem ev_eq {w : World} {K : Bool → Prop} (h : K (d == d' && e == e')) : eqA P .eql T.t24 (.agg [.int .i64 d, .int .i64 e].toArray) (.agg [.int .i64 d', .int .i64 e'].toArray) w K :=
  eqA_eql (by kernel_rfl) (by kernel_rfl) (by kernel_rfl) (ev_fields d d' e e' w) h
end Go.Proofs.Ytmobpenjbaaicaa
