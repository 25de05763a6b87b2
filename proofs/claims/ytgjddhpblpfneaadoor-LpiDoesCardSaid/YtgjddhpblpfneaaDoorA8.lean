/-
  E: loops over functions that look at what the loop's rounds change.
-/
import Derived.Test.YtgjddhpblpfneaaDoorA7
namespace Go.Proofs.YtgjddhpblpfneaaDoor.X
open Go Go.RowKit
set_option linter.unusedVariables false
set_option linter.unusedSimpArgs false
variable {P : Program} {w w0 : World} {S0 : Nat → Prop}
theorem Cut.there {i : It} {L L1 F : List It} (h : Cut L L1 F) : Cut (i :: L) L1 (i :: F) := by
  induction h with
  | nil => exact .nil
  | cons h1 h2 ih => exact .cons (.there h1) ih
theorem Cut.right {L L1 F : List It} (h : Cut L L1 F) (R : List It) : Cut (L ++ R) L1 (F ++ R) := by
  induction h with
  | nil => exact .nil
  | cons h1 h2 ih =>
    refine .cons ?_ ih
    clear h2 ih
    induction h1 with
    | here => exact .here
    | there _ ih => exact .there ih
/-- what a function goes through: xs, in a row; E: what it holds; I: what there is behind so many rounds; D: behind a round that leaves it -/
def IterC (P : Program) (f : FuncId) (cap : List Value) (E : List It) (xs : List (List Value)) (C : Nat → List It) : Prop :=
  ∀ (y : Value) (w0 : World) (S0 : Nat → Prop) (L0 : List It) (w : World) (Q : Value → World → Prop) (I : Nat → List It → Prop) (D : List It → Prop), (∃ fn a c, y = .func fn a c) → Own w0 S0 (L0 ++ E) w → I 0 L0 → (∀ k L, I k L → ∃ F, Cut L (C k) F) →
    (∀ (k : Nat) (x : List Value) (L F : List It) (w : World), xs[k]? = some x → I k L → Own w0 S0 (L ++ (E ++ F)) w → callVal P y x w fun v w' => ∃ b, v = .bool b ∧ ∃ L', (if b then I (k + 1) L' else D L') ∧ Own w0 S0 (L' ++ (E ++ F)) w') →
    (∀ L w, I xs.length L → Own w0 S0 (L ++ E) w → Q (.tuple [].toArray) w) → (∀ L w, D L → Own w0 S0 (L ++ E) w → Q (.tuple [].toArray) w) → CV P f (y :: cap) w Q
/-- a loop over a function: I: what there is behind so many rounds; D: behind a round that leaves it -/
theorem rf_c {L0 E : List It} {f : FuncId} {cap : List Value} {xs : List (List Value)} {np : Nat} {B : Nat → Loop → List Value → World → (Value → World → Prop) → Prop} {K : List Deferred → Option Code → World → Prop}
    (I : Nat → List It → Prop) (D : Code → List It → Prop) (hen : enters P f = true) {C : Nat → List It} (hit : IterC P f cap E xs C) (hC : ∀ k L, I k L → ∃ F, Cut L (C k) F) (hnp : ∀ x ∈ xs, x.length = np) (H : Own w0 S0 (L0 ++ E) w) (h0 : I 0 L0)
    (hB : ∀ (k : Nat) (x : List Value) (L F : List It) (l : Nat) (r : Loop) (d : Nat) (w : World) (Q : Value → World → Prop), xs[k]? = some x → I k L → Own w0 S0 (recI l r .ready none :: defI d :: (L ++ (E ++ F))) w →
      (∀ L' w', I (k + 1) L' → Own w0 S0 (recI l r .ready none :: defI d :: (L' ++ (E ++ F))) w' → Q (.bool true) w') →
      (∀ c L' w', D c L' → Own w0 S0 (recI l r .done (some c) :: defI d :: (L' ++ (E ++ F))) w' → Q (.bool false) w') → B l r x w Q)
    (hend : ∀ d L w, I xs.length L → Own w0 S0 (defI d :: (L ++ E)) w → K [{ target := .collected d, args := #[] }] none w)
    (hstop : ∀ d c L w, D c L → Own w0 S0 (defI d :: (L ++ E)) w → K [{ target := .collected d, args := #[] }] (some c) w) :
    RF P none np (.func (.func f) [].toArray cap.toArray) w B K := by
  unfold RF inLoop
  simp only
  intro r l w1 mark hE hYV
  simp only [Entered] at hE
  obtain ⟨rfl, rfl, rfl⟩ := hE
  have H1 : Own w0 S0 (defI w.heap.size :: (L0 ++ E)) (w.alloc (.deferred (some []))) :=
    H.add (i := defI _) ((Below.refl _ _).alloc (Nat.le_refl _) _) (S := fun k => k = w.heap.size) ⟨World.alloc_heap_new _ _, fun _ => Iff.rfl⟩ (by rintro k rfl; exact Nat.le_refl _)
  have hsz : (w.alloc (.deferred (some []))).heap.size = w.heap.size + 1 := by simp
  have H2 : Own w0 S0 (recI (w.heap.size + 1) r .ready none :: defI w.heap.size :: (L0 ++ E)) ((w.alloc (.deferred (some []))).alloc (.loop { r with state := .ready, pending := none })) :=
    H1.add (i := recI _ r .ready none) ((Below.refl _ _).alloc (Nat.le_refl _) _) (S := fun k => k = w.heap.size + 1) ⟨by unfold recAt; rw [← hsz]; exact World.alloc_heap_new _ _, fun _ => Iff.rfl⟩ (by rintro k rfl; omega)
  refine enters_cv hen ?_
  refine hit _ w0 S0 (recI (w.heap.size + 1) r .ready none :: defI w.heap.size :: L0) _ _ (fun k L' => ∃ L, I k L ∧ L' = recI (w.heap.size + 1) r .ready none :: defI w.heap.size :: L)
    (fun L' => ∃ c L, D c L ∧ L' = recI (w.heap.size + 1) r .done (some c) :: defI w.heap.size :: L) ⟨_, _, _, rfl⟩ H2 ⟨L0, h0, rfl⟩ (fun k L' ⟨L, hI, e⟩ => by obtain ⟨F, hF⟩ := hC k L hI; rw [e]; exact ⟨_, (hF.there).there⟩) ?_ ?_ ?_
  · rintro k x _ F w2 hx ⟨L, hI, rfl⟩ H3
    have hrec : recAt w2 (w.heap.size + 1) r .ready none := (H3.pick (i := recI _ _ _ _) .here).choose_spec.1.1
    show YV P _ _ _ _
    refine hYV _ w2 _ (hnp x (List.mem_of_getElem? hx)) hrec (hB k x L F _ r w.heap.size w2 _ hx hI H3 ?_ ?_)
    · intro L' w' hI' H4
      exact ⟨true, rfl, _, by rw [if_pos rfl]; exact ⟨L', hI', rfl⟩, H4⟩
    · intro c L' w' hD H4
      exact ⟨false, rfl, _, by rw [if_neg (by simp)]; exact ⟨c, L', hD, rfl⟩, H4⟩
  · rintro _ w2 ⟨L, hI, rfl⟩ H3
    obtain ⟨h1, h2⟩ := rec_o (K := fun w3 => K [{ target := .collected w.heap.size, args := #[] }] none w3) (st' := .exhausted) (j' := none) H3 .here fun w3 H5 => hend _ L w3 hI (H5.rest (L1 := [recI _ _ _ _]) (.cons .here .nil))
    exact ⟨_, _, h1, by simp, h2⟩
  · rintro _ w2 ⟨c, L, hD, rfl⟩ H3
    obtain ⟨h1, h2⟩ := rec_o (K := fun w3 => K [{ target := .collected w.heap.size, args := #[] }] (some c) w3) (st' := .exhausted) (j' := some c) H3 .here fun w3 H5 => hstop _ c L w3 hD (H5.rest (L1 := [recI _ _ _ _]) (.cons .here .nil))
    exact ⟨_, _, h1, by simp, h2⟩
end Go.Proofs.YtgjddhpblpfneaaDoor.X
