/-
  slices: copies of rows of numbers; an owned row, seen as its block.
-/
import Derived.Test.YtmobpenjbaaicaaK1
import Derived.Test.YtmobpenjbaaicaaTy
namespace Go.Proofs.Ytmobpenjbaaicaa
open Go Go.RowKit X
set_option maxRecDepth 100000
set_option linter.unusedVariables false
variable {w w0 : World} {S0 : Nat → Prop}
/-- an owned row of numbers -/
abbrev nums (p : Option Addr) (c : Nat) (xs : List Int) : It := own tInt 1 (.slice p xs.length c) xs.length (i64s xs)
theorem clone_t (i : It) {p : Option Addr} {c : Nat} {xs : List Int} (hi : ∀ w S, i.h w S → Sl w p (i64s xs)) (hl : xs.length ≤ 1000000) :
    Tri P F.slices_Clone__int_int [.slice p xs.length c] [i] fun v L' => ∃ p' c', v = .slice p' xs.length c' ∧ L' = [nums p' c' xs, i] := by
  intro w S hS
  refine slices_Clone__int_int_cv ?_
  unfold slices_Clone__int_int
  have H := Own.start hS
  refine cnd_i (fun h => ?_) fun h => ?_
  · have : p = none := by cases p <;> simp_all
    subst this
    have := sl_nil (hi w S (sep_one.1 hS))
    have : xs = [] := by cases xs <;> simp_all [i64s]
    subst this
    exact ⟨_, ⟨none, 0, rfl, rfl⟩, own_nil H⟩
  · refine alc_i fun w1 hB1 h1 hs1 => ?_
    have hown : w1.ownsRow w.heap.size tInt 1 (.slice (some ⟨w.heap.size, 0, none⟩) 0 0) 0 [] :=
      ⟨by simp, .inr ⟨w.heap.size, 0, #[], rfl, Nat.le_refl _, h1, Nat.le_refl _, by simp [maxLen], by simp, by simp⟩⟩
    have H1 := own_add H (hB1 _ (Nat.le_refl _)) hown (Nat.le_refl _)
    refine app_o appInts (by omega) H1 .here (H1.rd (i := i) (.there .here) hi) (by rw [i64s_length]; simp) (i64s_one xs) (by unfold maxLen; omega) (by omega) fun p' c' wx H => ?_
    simp only [Nat.zero_add, List.nil_append] at H ⊢
    exact ⟨_, ⟨p', c', rfl, rfl⟩, H⟩
/-- an owned row that has a block: the block -/
theorem nums_open {L F : List It} {p : Option Addr} {c : Nat} {xs : List Int} (H : X.Own w0 S0 L w) (hp : Pick L (nums p c xs) F) (hne : xs ≠ []) :
    ∃ d rest, p = some ⟨d, 0, none⟩ ∧ (i64s xs ++ rest).length = c ∧ xs.length ≤ c ∧ c ≤ maxLen ∧ X.Own w0 S0 (row d (i64s xs ++ rest) tInt :: F) w := by
  obtain ⟨S, h1, h2⟩ := H
  obtain ⟨S1, S2, ⟨g1, g2⟩, h3, h4, h5⟩ := hp.iff.1 h1
  rcases g1.2 with ⟨_, h0⟩ | ⟨d, cap, cur, e1, _, e3, e4, e5, e6, e7⟩
  · exact absurd (List.length_eq_zero_iff.1 h0) hne
  · cases e1
    rw [Nat.mul_one] at e6 e7
    have e8 : cur.toList = i64s xs ++ cur.toList.drop xs.length := by
      rw [← e7, List.take_append_drop]
    refine ⟨d, cur.toList.drop xs.length, rfl, by rw [← e8]; simpa using e6, e4, e5, S, ⟨S1, S2, ⟨?_, fun k => ?_⟩, h3, h4, h5⟩, h2⟩
    · rw [← e8]; exact e3
    · rw [g2 k]; simp [Value.ownBlock]; exact eq_comm
/-- .. and back -/
theorem nums_shut {F : List It} {d n c : Nat} {xs : List Int} {cur : List Value} (H : X.Own w0 S0 (row d cur tInt :: F) w) (hn : n = xs.length) (hx : cur.take xs.length = i64s xs) (h1 : n ≤ c) (h2 : c ≤ maxLen) (h3 : cur.length = c) : X.Own w0 S0 (nums (some ⟨d, 0, none⟩) c xs :: F) w := by
  subst hn
  obtain ⟨S, ⟨S1, S2, ⟨g1, g2⟩, h4, h5, h6⟩, h7⟩ := H
  refine ⟨S, ⟨S1, S2, ⟨⟨by simp [i64s], .inr ⟨d, c, cur.toArray, rfl, Nat.zero_le _, g1, h1, h2, by simpa using h3, ?_⟩⟩, fun k => ?_⟩, h4, h5, h6⟩, h7⟩
  · simpa using hx
  · rw [g2 k]; simp [Value.ownBlock]; exact eq_comm
end Go.Proofs.Ytmobpenjbaaicaa
