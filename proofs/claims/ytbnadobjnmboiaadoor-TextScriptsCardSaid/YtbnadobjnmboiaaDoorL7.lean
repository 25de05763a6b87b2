/-
  text: the lines of a script's text, plainly.
-/
import Derived.Test.YtbnadobjnmboiaaDoorWB
namespace Go.Proofs.YtbnadobjnmboiaaDoor
open Go Go.RowKit X
set_option maxRecDepth 100000
set_option linter.unusedVariables false
set_option linter.unusedSimpArgs false
set_option maxHeartbeats 1000000
theorem ite_no10 {p : Prop} [Decidable p] {x y : List UInt8} (h1 : (10 : UInt8) ∉ x) (h2 : (10 : UInt8) ∉ y) : (10 : UInt8) ∉ (if p then x else y) := by
  by_cases h : p
  · rw [if_pos h]; exact h1
  · rw [if_neg h]; exact h2
theorem txt_no10 (s : St) (f : Int) : (10 : UInt8) ∉ s.txt f := by
  unfold St.txt
  have hi : ∀ n, (10 : UInt8) ∉ Lib.itoa n := fun n h => by
    have := itoa_char h
    have e : (10 : UInt8).toNat = 10 := rfl
    omega
  have hd : ∀ u, (10 : UInt8) ∉ Lib.decDigits u := fun u h => by
    have := dec_digit h
    have e : (10 : UInt8).toNat = 10 := rfl
    omega
  exact ite_no10 (hi _) (ite_no10 (hi _) (ite_no10 (hi _) (ite_no10 (hi _) (ite_no10 (hi _) (ite_no10 (hi _) (ite_no10 (hi _) (ite_no10 (hi _) (ite_no10 (hi _) (ite_no10 (hi _) (ite_no10 (hd _) (ite_no10 (by decide) (by decide))))))))))))
theorem nameW_ok (k : Nat) : (10 : UInt8) ∉ (nameW k).data.toList ∧ says (nameW k).data.toList = true := by
  unfold nameW
  split <;> decide
theorem says_app {x y : List UInt8} (h : says x = true) : says (x ++ y) = true := by
  cases x with
  | nil => cases h
  | cons a x => exact h
theorem joinJ_ok (s : St) (k : Nat) : ∀ j, j ≤ (fldW k).data.toList.length → (10 : UInt8) ∉ joinJ s k j ∧ says (joinJ s k j) = true
  | 0, _ => by rw [joinJ_zero]; exact nameW_ok k
  | j + 1, h => by
    obtain ⟨h1, h2⟩ := joinJ_ok s k j (by omega)
    rw [joinJ_next s k j (List.getElem?_eq_getElem (show j < _ by omega)), List.append_assoc]
    refine ⟨fun hm => ?_, says_app h2⟩
    rcases List.mem_append.1 hm with hm | hm
    · exact h1 hm
    · rcases List.mem_append.1 hm with hm | hm
      · simp at hm
      · exact txt_no10 _ _ hm
theorem line_ok {s : St} {l : List UInt8} (h : lineM s = some l) : (10 : UInt8) ∉ l ∧ says l = true := by
  unfold lineM at h
  obtain ⟨k, -, rfl⟩ := Option.map_eq_some_iff.1 h
  exact joinJ_ok s k _ (Nat.le_refl _)
theorem raw_text : ∀ {xs : List St}, (∀ x ∈ xs, lineM x ≠ none) → rawL (textL xs) = xs.map fun s => (lineM s).getD []
  | [], _ => rfl
  | x :: xs, h => by
    have ih := raw_text (xs := xs) fun y hy => h y (by simp [hy])
    obtain ⟨l, hl⟩ := Option.ne_none_iff_exists'.1 (h x (by simp))
    have e : textL (x :: xs) = l ++ 10 :: textL xs := by
      unfold textL
      rw [List.map_cons, List.flatten_cons, hl]; simp
    rw [e, rawL_app (line_ok hl).1, ih, List.map_cons, hl]; rfl
theorem sayF_all : ∀ {ls : List (List UInt8)} (k : Nat), (∀ l ∈ ls, says l = true) → (sayF k ls).length = ls.length ∧ ∀ j : Nat, (sayF k ls)[j]? = (ls[j]?).map fun l => (k + 1 + j, l)
  | [], k, _ => ⟨rfl, fun j => by simp [sayF]⟩
  | l :: ls, k, h => by
    obtain ⟨h1, h2⟩ := sayF_all (ls := ls) (k + 1) fun y hy => h y (by simp [hy])
    rw [sayF_cons, if_pos (h l (by simp))]
    refine ⟨by rw [List.length_cons, List.length_cons, h1], fun j => ?_⟩
    cases j with
    | zero => rfl
    | succ j =>
      rw [List.getElem?_cons_succ, List.getElem?_cons_succ, h2 j]
      rw [show k + 1 + 1 + j = k + 1 + (j + 1) by omega]
theorem say_text {xs : List St} (h : ∀ x ∈ xs, lineM x ≠ none) : (sayL (textL xs)).length = xs.length ∧ ∀ (j : Nat) (x : St), xs[j]? = some x → ∃ l, lineM x = some l ∧ (sayL (textL xs))[j]? = some (j + 1, l) := by
  unfold sayL
  rw [raw_text h]
  obtain ⟨h1, h2⟩ := sayF_all (ls := xs.map fun s => (lineM s).getD []) 0 (by
    intro l hl
    obtain ⟨x, hx, rfl⟩ := List.mem_map.1 hl
    obtain ⟨l, hl⟩ := Option.ne_none_iff_exists'.1 (h x hx)
    rw [hl]
    exact (line_ok hl).2)
  refine ⟨by rw [h1, List.length_map], fun j x hx => ?_⟩
  obtain ⟨l, hl⟩ := Option.ne_none_iff_exists'.1 (h x (List.mem_of_getElem? hx))
  refine ⟨l, hl, ?_⟩
  rw [h2, List.getElem?_map, hx]
  show some (0 + 1 + j, (lineM x).getD []) = _
  rw [hl, show 0 + 1 + j = j + 1 by omega]; rfl
end Go.Proofs.YtbnadobjnmboiaaDoor
