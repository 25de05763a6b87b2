/-
  E: loops over functions that take what they hold for themselves.
-/
import Derived.Test.YtbnadobjnmboiaaDoorA2
namespace Go.Proofs.YtbnadobjnmboiaaDoor.X
open Go Go.RowKit
set_option linter.unusedVariables false
set_option linter.unusedSimpArgs false
variable {P : Program} {w w0 : World} {S0 : Nat → Prop}
theorem Sep.perm {L L' : List It} (h : L.Perm L') : ∀ {S : Nat → Prop}, Sep L w S → Sep L' w S := by
  induction h with
  | nil => exact fun h => h
  | cons x _ ih => rintro S ⟨S1, S2, h1, h2, h3, h4⟩; exact ⟨S1, S2, h1, ih h2, h3, h4⟩
  | swap x y l => intro S h; exact (Pick.iff (.there .here)).1 h
  | trans _ _ ih1 ih2 => exact fun h => ih2 (ih1 h)
theorem own_perm {L L' : List It} (H : Own w0 S0 L w) (h : L.Perm L') : Own w0 S0 L' w := by
  obtain ⟨S, h1, h2⟩ := H
  exact ⟨S, h1.perm h, h2⟩
/-- what a function goes through: xs, in a row; E: what it holds, and takes for itself -/
def IterF (P : Program) (f : FuncId) (cap : List Value) (E : List It) (xs : List (List Value)) : Prop :=
  ∀ (y : Value) (w0 : World) (S0 : Nat → Prop) (L0 : List It) (w : World) (Q : Value → World → Prop) (I : Nat → List It → Prop) (D : List It → Prop), (∃ fn a c, y = .func fn a c) → Own w0 S0 (L0 ++ E) w → I 0 L0 →
    (∀ (k : Nat) (x : List Value) (L F : List It) (w : World), xs[k]? = some x → I k L → Own w0 S0 (L ++ F) w → callVal P y x w fun v w' => ∃ b, v = .bool b ∧ ∃ L', (if b then I (k + 1) L' else D L') ∧ Own w0 S0 (L' ++ F) w') →
    (∀ L w, I xs.length L → Own w0 S0 L w → Q (.tuple [].toArray) w) → (∀ L w, D L → Own w0 S0 L w → Q (.tuple [].toArray) w) → CV P f (y :: cap) w Q
/-- a loop over such a function -/
theorem rf_f {L0 E : List It} {f : FuncId} {cap : List Value} {xs : List (List Value)} {np : Nat} {B : Nat → Loop → List Value → World → (Value → World → Prop) → Prop} {K : List Deferred → Option Code → World → Prop}
    (I : Nat → List It → Prop) (D : Code → List It → Prop) (hen : enters P f = true) (hit : IterF P f cap E xs) (hnp : ∀ x ∈ xs, x.length = np) (H : Own w0 S0 (L0 ++ E) w) (h0 : I 0 L0)
    (hB : ∀ (k : Nat) (x : List Value) (L F : List It) (l : Nat) (r : Loop) (d : Nat) (w : World) (Q : Value → World → Prop), xs[k]? = some x → I k L → Own w0 S0 (recI l r .ready none :: defI d :: (L ++ F)) w →
      (∀ L' w', I (k + 1) L' → Own w0 S0 (recI l r .ready none :: defI d :: (L' ++ F)) w' → Q (.bool true) w') →
      (∀ c L' w', D c L' → Own w0 S0 (recI l r .done (some c) :: defI d :: (L' ++ F)) w' → Q (.bool false) w') → B l r x w Q)
    (hend : ∀ d L w, I xs.length L → Own w0 S0 (defI d :: L) w → K [{ target := .collected d, args := #[] }] none w)
    (hstop : ∀ d c L w, D c L → Own w0 S0 (defI d :: L) w → K [{ target := .collected d, args := #[] }] (some c) w) :
    RF P none np (.func (.func f) [].toArray cap.toArray) w B K := by
  unfold RF inLoop
  simp only
  intro r l w1 mark hE hYV
  simp only [Entered] at hE
  obtain ⟨rfl, rfl, rfl⟩ := hE
  have H1 : Own w0 S0 (defI w.heap.size :: (L0 ++ E)) (w.alloc (.deferred (some []))) :=
    H.add (i := defI _) ((Below.refl _ _).alloc (Nat.le_refl _) _) (S := fun k => k = w.heap.size) ⟨World.alloc_heap_new _ _, fun _ => Iff.rfl⟩ (by rintro k rfl; exact Nat.le_refl _)
  have hsz : (w.alloc (.deferred (some []))).heap.size = w.heap.size + 1 := by simp
  have H2 : Own w0 S0 (recI (w.heap.size + 1) r .ready none :: defI w.heap.size :: (L0 ++ E)) ((w.alloc (.deferred (some []))).alloc (.loop { r with state := .ready, pending := none })) :=
    H1.add (i := recI _ r .ready none) ((Below.refl _ _).alloc (Nat.le_refl _) _) (S := fun k => k = w.heap.size + 1) ⟨by unfold recAt; rw [← hsz]; exact World.alloc_heap_new _ _, fun _ => Iff.rfl⟩ (by rintro k rfl; omega)
  refine enters_cv hen ?_
  refine hit _ w0 S0 (recI (w.heap.size + 1) r .ready none :: defI w.heap.size :: L0) _ _ (fun k L' => ∃ L, I k L ∧ L' = recI (w.heap.size + 1) r .ready none :: defI w.heap.size :: L)
    (fun L' => ∃ c L, D c L ∧ L' = recI (w.heap.size + 1) r .done (some c) :: defI w.heap.size :: L) ⟨_, _, _, rfl⟩ H2 ⟨L0, h0, rfl⟩ ?_ ?_ ?_
  · rintro k x _ F w2 hx ⟨L, hI, rfl⟩ H3
    have hrec : recAt w2 (w.heap.size + 1) r .ready none := (H3.pick (i := recI _ _ _ _) .here).choose_spec.1.1
    show YV P _ _ _ _
    refine hYV _ w2 _ (hnp x (List.mem_of_getElem? hx)) hrec (hB k x L F _ r w.heap.size w2 _ hx hI H3 ?_ ?_)
    · intro L' w' hI' H4
      exact ⟨true, rfl, _, by rw [if_pos rfl]; exact ⟨L', hI', rfl⟩, H4⟩
    · intro c L' w' hD H4
      exact ⟨false, rfl, _, by rw [if_neg (by simp)]; exact ⟨c, L', hD, rfl⟩, H4⟩
  · rintro _ w2 ⟨L, hI, rfl⟩ H3
    obtain ⟨h1, h2⟩ := rec_o (K := fun w3 => K [{ target := .collected w.heap.size, args := #[] }] none w3) (st' := .exhausted) (j' := none) H3 .here fun w3 H5 => hend _ L w3 hI (H5.rest (L1 := [recI _ _ _ _]) (.cons .here .nil))
    exact ⟨_, _, h1, by simp, h2⟩
  · rintro _ w2 ⟨c, L, hD, rfl⟩ H3
    obtain ⟨h1, h2⟩ := rec_o (K := fun w3 => K [{ target := .collected w.heap.size, args := #[] }] (some c) w3) (st' := .exhausted) (j' := some c) H3 .here fun w3 H5 => hstop _ c L w3 hD (H5.rest (L1 := [recI _ _ _ _]) (.cons .here .nil))
    exact ⟨_, _, h1, by simp, h2⟩
end Go.Proofs.YtbnadobjnmboiaaDoor.X
