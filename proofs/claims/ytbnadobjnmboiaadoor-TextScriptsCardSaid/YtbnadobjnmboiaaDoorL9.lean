/-
  text: a script of plain steps is read of its text as itself, plainly.
-/
import Derived.Test.YtbnadobjnmboiaaDoorL7
namespace Go.Proofs.YtbnadobjnmboiaaDoor
open Go Go.RowKit X
set_option maxRecDepth 100000
set_option linter.unusedVariables false
set_option linter.unusedSimpArgs false
set_option maxHeartbeats 1000000
def plainM (s : St) : Option St := (findM ⟨#[]⟩ s.kind).map (plainS s)
def plains (xs : List St) : List St := xs.filterMap plainM
theorem plains_next (xs : List St) (j : Nat) (hj : j < xs.length) : plains (xs.take (j + 1)) = plains (xs.take j) ++ (plainM xs[j]).toList := by
  unfold plains
  rw [List.take_succ_eq_append_getElem hj, List.filterMap_append]
  cases h : plainM xs[j] <;> simp [h]
theorem plains_len (xs : List St) : (plains xs).length ≤ xs.length := List.length_filterMap_le _ _
/-- a step that its line is read as -/
def Good (p : St) : Prop := p.Fit ∧ ∃ l, lineM p = some l ∧ IsL ⟨l.toArray⟩ p
theorem plains_good {xs : List St} (hf : ∀ x ∈ xs, x.Fit) : ∀ p ∈ plains xs, Good p := by
  intro p hp
  obtain ⟨x, hx, hm⟩ := List.mem_filterMap.1 hp
  unfold plainM at hm
  obtain ⟨k, hk, rfl⟩ := Option.map_eq_some_iff.1 hm
  obtain ⟨p1, p2, p3, p4⟩ := plain_is (hf x hx) hk
  refine ⟨p1, _, lineM_some p2, ?_⟩
  exact ⟨k, p2, p4, rfl⟩
theorem good_lines {ps : List St} (h : ∀ p ∈ ps, Good p) : ∀ p ∈ ps, lineM p ≠ none := by
  intro p hp
  obtain ⟨-, l, hl, -⟩ := h p hp
  rw [hl]; simp
abbrev linesL (ps : List St) : List (List UInt8) := ps.map fun s => (lineM s).getD []
theorem linesL_ok {ps : List St} (h : ∀ p ∈ ps, Good p) : ∀ l ∈ linesL ps, (10 : UInt8) ∉ l ∧ says l = true := by
  intro l hl
  obtain ⟨p, hp, rfl⟩ := List.mem_map.1 hl
  obtain ⟨-, l, hl, -⟩ := h p hp
  rw [hl]
  exact line_ok hl
theorem sayF_snd : ∀ (ls : List (List UInt8)) (k : Nat), (sayF k ls).map (·.2) = ls.filter says
  | [], _ => rfl
  | l :: ls, k => by
    rw [sayF_cons, List.filter_cons]
    by_cases h : says l = true
    · rw [if_pos h, if_pos h, List.map_cons, sayF_snd ls (k + 1)]
    · rw [if_neg h, if_neg h, sayF_snd ls (k + 1)]
theorem filter_all {ls : List (List UInt8)} (h : ∀ l ∈ ls, says l = true) : ls.filter says = ls := List.filter_eq_self.2 h
/-- the text with lines between that say nothing -/
def oddB : List UInt8 := [35, 32, 111, 100, 100, 10, 10]
def moreF (odd : List Bool) : Nat → List (List UInt8) → List UInt8
  | _, [] => []
  | k, l :: r => (if odd[k]? = some true then oddB else []) ++ (l ++ 10 :: moreF odd (k + 1) r)
theorem moreF_app (odd : List Bool) : ∀ (a b : List (List UInt8)) (k : Nat), moreF odd k (a ++ b) = moreF odd k a ++ moreF odd (k + a.length) b
  | [], b, k => rfl
  | l :: a, b, k => by
    have ih := moreF_app odd a b (k + 1)
    rw [List.cons_append]
    show (if odd[k]? = some true then oddB else []) ++ (l ++ 10 :: moreF odd (k + 1) (a ++ b)) = ((if odd[k]? = some true then oddB else []) ++ (l ++ 10 :: moreF odd (k + 1) a)) ++ _
    rw [ih, List.length_cons, show k + (a.length + 1) = k + 1 + a.length by omega]
    simp
theorem moreF_next (odd : List Bool) (ls : List (List UInt8)) (m : Nat) (hm : m < ls.length) : moreF odd 0 (ls.take (m + 1)) = moreF odd 0 (ls.take m) ++ (if odd[m]? = some true then oddB else []) ++ ls[m] ++ [10] := by
  rw [List.take_succ_eq_append_getElem hm, moreF_app, List.length_take, Nat.min_eq_left (by omega), Nat.zero_add]
  show _ ++ ((if odd[m]? = some true then oddB else []) ++ (ls[m] ++ 10 :: [])) = _
  simp
theorem moreF_len (odd : List Bool) : ∀ (ls : List (List UInt8)) (k : Nat), (∀ l ∈ ls, l.length ≤ 117) → (moreF odd k ls).length ≤ ls.length * 125
  | [], _, _ => Nat.zero_le _
  | l :: r, k, h => by
    have ih := moreF_len odd r (k + 1) fun y hy => h y (by simp [hy])
    have h1 := h l (by simp)
    show ((if odd[k]? = some true then oddB else []) ++ (l ++ 10 :: moreF odd (k + 1) r)).length ≤ _
    have h2 : (if odd[k]? = some true then oddB else []).length ≤ 7 := by
      by_cases hh : odd[k]? = some true
      · rw [if_pos hh]; decide
      · rw [if_neg hh]; decide
    rw [List.length_append, List.length_append, List.length_cons, List.length_cons]
    omega
theorem raw_more (odd : List Bool) : ∀ (ls : List (List UInt8)) (k : Nat), (∀ l ∈ ls, (10 : UInt8) ∉ l ∧ says l = true) → (rawL (moreF odd k ls)).filter says = ls
  | [], _, _ => rfl
  | l :: r, k, h => by
    have ih := raw_more odd r (k + 1) fun y hy => h y (by simp [hy])
    obtain ⟨h1, h2⟩ := h l (by simp)
    show (rawL ((if odd[k]? = some true then oddB else []) ++ (l ++ 10 :: moreF odd (k + 1) r))).filter says = _
    have base : (rawL (l ++ 10 :: moreF odd (k + 1) r)).filter says = l :: r := by
      rw [rawL_app h1, List.filter_cons, if_pos h2, ih]
    by_cases hh : odd[k]? = some true
    · rw [if_pos hh]
      have e : oddB ++ (l ++ 10 :: moreF odd (k + 1) r) = [35, 32, 111, 100, 100] ++ 10 :: ([] ++ 10 :: (l ++ 10 :: moreF odd (k + 1) r)) := rfl
      rw [e, rawL_app (by decide), rawL_app (by decide), List.filter_cons, if_neg (by decide), List.filter_cons, if_neg (by decide)]
      exact base
    · rw [if_neg hh]; exact base
theorem script_is {t : List UInt8} {ps xs : List St} {n e : Int} (hp : ∀ p ∈ ps, Good p) (ht : (sayL t).map (·.2) = linesL ps) (h : ScriptEnd t xs n e) : xs = ps ∧ n = 0 ∧ e = 0 := by
  have hlen : (sayL t).length = ps.length := by
    have := congrArg List.length ht
    simpa using this
  have hat : ∀ (j : Nat) (x : Nat × List UInt8), (sayL t)[j]? = some x → ∃ p, ps[j]? = some p ∧ p.Fit ∧ IsL ⟨x.2.toArray⟩ p := by
    intro j x hx
    have hj := (List.getElem?_eq_some_iff.1 hx).1
    have h1 : ps[j]? = some (ps[j]'(by omega)) := List.getElem?_eq_getElem _
    obtain ⟨hf, l, hl, hi⟩ := hp _ (List.mem_of_getElem? h1)
    refine ⟨_, h1, hf, ?_⟩
    have h2 : (linesL ps)[j]? = some l := by
      rw [List.getElem?_map, h1]
      show some ((lineM _).getD []) = _
      rw [hl]; rfl
    rw [← ht, List.getElem?_map, hx] at h2
    have h3 : x.2 = l := Option.some.inj h2
    rw [h3]; exact hi
  rcases h with ⟨rfl, rfl, hl, hR⟩ | ⟨rfl, rfl, ys, x, hR, hx, rfl, hno⟩
  · refine ⟨List.ext_getElem? fun j => ?_, rfl, rfl⟩
    by_cases hj : j < xs.length
    · have h1 : xs[j]? = some (xs[j]'hj) := List.getElem?_eq_getElem _
      obtain ⟨x, hx, hf, hi⟩ := hR _ _ h1
      obtain ⟨p, hp1, hp2, hp3⟩ := hat j x hx
      rw [h1, hp1, line_inj hf hp2 hi hp3]
    · rw [List.getElem?_eq_none (by omega), List.getElem?_eq_none (by omega)]
  · obtain ⟨p, hp1, hp2, hp3⟩ := hat _ x hx
    exact absurd hp3 (hno _ hp2)
theorem text_say {ps : List St} (hp : ∀ p ∈ ps, Good p) : (sayL (textL ps)).map (·.2) = linesL ps := by
  unfold sayL
  rw [sayF_snd, raw_text (good_lines hp)]
  exact filter_all fun l hl => (linesL_ok hp l hl).2
theorem more_say {ps : List St} (odd : List Bool) (hp : ∀ p ∈ ps, Good p) : (sayL (moreF odd 0 (linesL ps))).map (·.2) = linesL ps := by
  unfold sayL
  rw [sayF_snd]
  exact raw_more odd _ 0 (linesL_ok hp)
theorem linesL_len {ps : List St} (hp : ∀ p ∈ ps, Good p) : ∀ l ∈ linesL ps, l.length ≤ 117 := by
  intro l hl
  obtain ⟨p, hp1, rfl⟩ := List.mem_map.1 hl
  exact line_len (hp p hp1).1
/-- what Script asks of a text of such lines -/
theorem say_small {t : List UInt8} {ps : List St} (hp : ∀ p ∈ ps, Good p) (ht : (sayL t).map (·.2) = linesL ps) : (∀ x ∈ sayL t, x.2.length < 4294967281) ∧ (sayL t).length = ps.length := by
  refine ⟨fun x hx => ?_, by have := congrArg List.length ht; simpa using this⟩
  have h1 : x.2 ∈ linesL ps := by rw [← ht]; exact List.mem_map.2 ⟨x, hx, rfl⟩
  have := linesL_len hp _ h1
  omega
theorem ownS_slots {p : Option Addr} {c : Nat} {cs : List St} : ∀ w S, (ownS p c cs).h w S → Slots w p 13 (cs.map St.cells) := by
  rintro w S ⟨hown, -⟩ i l hi
  rw [List.getElem?_map] at hi
  cases hc : cs[i]? with
  | none => rw [hc] at hi; cases hi
  | some x =>
    rw [hc] at hi
    cases hi
    rcases hown.2 with ⟨e1, e2⟩ | ⟨g, cap, cur, e1, _⟩
    · have := (List.getElem?_eq_some_iff.1 hc).1
      omega
    · cases e1
      refine ⟨⟨g, 0, none⟩, rfl, fun j v hv => ?_⟩
      have := hown.cells (g := g) rfl _ _ (flatS_get hc hv)
      rw [add_lit] at this ⊢
      rw [add_lit]
      simpa using this
end Go.Proofs.YtbnadobjnmboiaaDoor
