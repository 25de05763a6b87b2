/-
  Sets: rows of words, and their members. Plain Lean.
-/
import Derived.Test.YtlccemphlinecaaDoorB1
import Derived.Test.YtlccemphlinecaaDoorA3
namespace Go.Proofs.YtlccemphlinecaaDoor.X
open Go Go.RowKit
set_option linter.unusedVariables false
set_option linter.unusedSimpArgs false
def hasN (ws : List Nat) (m : Nat) : Bool := (ws.getD (m / 64) 0).testBit (m % 64)
def mems (ws : List Nat) : List Nat := (List.range (64 * ws.length)).filter (hasN ws)
theorem hasN_out {ws : List Nat} {m : Nat} (h : 64 * ws.length ≤ m) : hasN ws m = false := by
  unfold hasN
  have : ws.getD (m / 64) 0 = 0 := by simp [List.getD, List.getElem?_eq_none (show ws.length ≤ m / 64 by omega)]
  rw [this]; simp
theorem mem_mems {ws : List Nat} {m : Nat} : m ∈ mems ws ↔ hasN ws m = true := by
  simp only [mems, List.mem_filter, List.mem_range]
  refine ⟨fun h => h.2, fun h => ⟨?_, h⟩⟩
  apply Decidable.byContradiction
  intro hn
  rw [hasN_out (by omega)] at h; cases h
theorem mems_up (ws : List Nat) : Up (mems ws) := List.Pairwise.filter _ List.pairwise_lt_range
theorem mems_lt {ws : List Nat} {m : Nat} (h : m ∈ mems ws) : m < 64 * ws.length := by
  simp only [mems, List.mem_filter, List.mem_range] at h; exact h.1
theorem mems_eq {ws : List Nat} {l : List Nat} (hl : Up l) (h : ∀ m, hasN ws m = true ↔ m ∈ l) : mems ws = l := sext (mems_up ws) hl fun m => mem_mems.trans (h m)
theorem hasN_append_zero (ws : List Nat) (k m : Nat) : hasN (ws ++ List.replicate k 0) m = hasN ws m := by
  unfold hasN
  congr 1
  simp only [List.getD, List.getElem?_append]
  split
  · rfl
  · rename_i h
    rw [List.getElem?_eq_none (l := ws) (by omega)]
    cases h2 : (List.replicate k 0)[m / 64 - ws.length]? with
    | none => rfl
    | some x => have := List.mem_of_getElem? h2; rw [(List.mem_replicate.1 this).2]; rfl
theorem hasN_set {ws : List Nat} {j x m : Nat} (hj : j < ws.length) : hasN (ws.set j x) m = if m / 64 = j then x.testBit (m % 64) else hasN ws m := by
  unfold hasN
  simp only [List.getD, List.getElem?_set]
  by_cases h : j = m / 64
  · subst h; simp [hj]
  · rw [if_neg h, if_neg (fun e => h e.symm)]
/-- a number is put into a rising list -/
def insL : List Nat → Nat → List Nat
  | [], m => [m]
  | a :: l, m => if m < a then m :: a :: l else if m = a then a :: l else a :: insL l m
theorem mem_insL : ∀ {l : List Nat} {m x : Nat}, x ∈ insL l m ↔ x = m ∨ x ∈ l
  | [], m, x => by simp [insL]
  | a :: l, m, x => by
    unfold insL
    split
    · simp
    · split
      · rename_i h; subst h; simp
      · simp only [List.mem_cons, mem_insL]
        constructor
        · rintro (h | h | h) <;> simp [h]
        · rintro (h | h | h) <;> simp [h]
theorem insL_up : ∀ {l : List Nat} {m : Nat}, Up l → Up (insL l m)
  | [], m, _ => by simp [insL, Up]
  | a :: l, m, h => by
    have h' := List.pairwise_cons.1 h
    unfold insL
    split
    · rename_i hm
      exact List.pairwise_cons.2 ⟨fun x hx => by rcases List.mem_cons.1 hx with rfl | hx; exact hm; exact Nat.lt_trans hm (h'.1 x hx), h⟩
    · split
      · exact h
      · refine List.pairwise_cons.2 ⟨fun x hx => ?_, insL_up h'.2⟩
        rcases mem_insL.1 hx with rfl | hx
        · omega
        · exact h'.1 x hx
def hasL (l : List Nat) (m : Int) : Bool := decide (0 ≤ m) && l.contains m.toNat
theorem hasL_iff {l : List Nat} {m : Int} : hasL l m = true ↔ 0 ≤ m ∧ m.toNat ∈ l := by simp [hasL]
def mayL (m : Int) : Bool := decide (0 ≤ m) && decide (m < 16384)
theorem mayL_iff {m : Int} : mayL m = true ↔ 0 ≤ m ∧ m < 16384 := by simp [mayL]
def putL (l : List Nat) (m : Int) : List Nat := if mayL m then insL l m.toNat else l
def takeL (l : List Nat) (m : Int) : List Nat := l.filter fun x => !decide ((x : Int) = m)
theorem takeL_up {l : List Nat} {m : Int} (h : Up l) : Up (takeL l m) := List.Pairwise.filter _ h
theorem mem_takeL {l : List Nat} {m : Int} {x : Nat} : x ∈ takeL l m ↔ x ∈ l ∧ (x : Int) ≠ m := by simp [takeL]
theorem takeL_none {l : List Nat} {m : Int} (h : hasL l m = false) : takeL l m = l := by
  unfold takeL
  rw [List.filter_eq_self]
  intro x hx
  simp only [Bool.not_eq_true', decide_eq_false_iff_not]
  rintro rfl
  have : hasL l (x : Int) = true := hasL_iff.2 ⟨by omega, by simpa using hx⟩
  rw [h] at this; cases this
theorem insL_has {l : List Nat} {m : Nat} (hl : Up l) (h : m ∈ l) : insL l m = l := sext (insL_up hl) hl fun x => by rw [mem_insL]; constructor; rintro (rfl | hx); exact h; exact hx; exact .inr
theorem putL_up {l : List Nat} {m : Int} (h : Up l) : Up (putL l m) := by unfold putL; split; exact insL_up h; exact h
theorem mem_putL {l : List Nat} {m : Int} {x : Nat} : x ∈ putL l m ↔ x ∈ l ∨ (mayL m = true ∧ (x : Int) = m) := by
  unfold putL
  split
  · rename_i h
    have := mayL_iff.1 h
    rw [mem_insL]
    constructor
    · rintro (h1 | h1)
      · exact .inr ⟨h, by omega⟩
      · exact .inl h1
    · rintro (h1 | ⟨_, h1⟩)
      · exact .inr h1
      · exact .inl (by omega)
  · rename_i h; simp [h]
theorem putL_has {l : List Nat} {m : Int} (hl : Up l) (h : hasL l m = true) : putL l m = l := by
  unfold putL
  split
  · exact insL_has hl (hasL_iff.1 h).2
  · rfl
def loL (l : List Nat) (m : Int) : List Nat := l.filter fun x => decide ((x : Int) ≥ m)
/-- words joined -/
theorem hasN_zip (f : Nat → Nat → Nat) (g : Bool → Bool → Bool) (hf : ∀ a b i, a < 2 ^ 64 → b < 2 ^ 64 → (f a b).testBit i = g (a.testBit i) (b.testBit i)) (hg : g false false = false) {ws vs : List Nat} (hw : ∀ x ∈ ws, x < 2 ^ 64) (hv : ∀ x ∈ vs, x < 2 ^ 64) (m : Nat) :
    hasN ((List.range (max ws.length vs.length)).map fun k => f (ws.getD k 0) (vs.getD k 0)) m = g (hasN ws m) (hasN vs m) := by
  have hlt : ∀ (l : List Nat) k, (∀ x ∈ l, x < 2 ^ 64) → l.getD k 0 < 2 ^ 64 := by
    intro l k h
    simp only [List.getD]
    cases h2 : l[k]? with
    | none => simp
    | some x => exact h x (List.mem_of_getElem? h2)
  unfold hasN
  by_cases h : m / 64 < max ws.length vs.length
  · simp only [List.getD, List.getElem?_map, List.getElem?_range h, Option.map_some, Option.getD_some]
    exact hf _ _ _ (hlt ws _ hw) (hlt vs _ hv)
  · have e1 : ws.getD (m / 64) 0 = 0 := by simp [List.getD, List.getElem?_eq_none (show ws.length ≤ m / 64 by omega)]
    have e2 : vs.getD (m / 64) 0 = 0 := by simp [List.getD, List.getElem?_eq_none (show vs.length ≤ m / 64 by omega)]
    rw [e1, e2]
    simp only [List.getD]
    rw [List.getElem?_eq_none (by simp; omega)]
    simp [hg]
end Go.Proofs.YtlccemphlinecaaDoor.X
