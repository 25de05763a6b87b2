/-
  E: an iterator out of an iterator: the outer loop's round is called.
-/
import Derived.Test.YtggchklafbpgpaaA5
import Derived.Test.YtggchklafbpgpaaA3
namespace Go.Proofs.Ytggchklafbpgpaa.X
open Go Go.RowKit
set_option linter.unusedVariables false
variable {P : Program} {w w0 : World} {S0 : Nat → Prop}
theorem yield_o {y : Value} {xs : List (List Value)} {I : Nat → List It → Prop} {D : List It → Prop} {E A L F : List It} {k : Nat} {x : List Value} {K : Value → World → Prop}
    (hstep : ∀ (k : Nat) (x : List Value) (L F : List It) (w : World), xs[k]? = some x → I k L → Own w0 S0 (L ++ (E ++ F)) w → callVal P y x w fun v w' => ∃ b, v = .bool b ∧ ∃ L', (if b then I (k + 1) L' else D L') ∧ Own w0 S0 (L' ++ (E ++ F)) w')
    (H : Own w0 S0 (A ++ (L ++ (E ++ F))) w) (hx : xs[k]? = some x) (hI : I k L)
    (hK : ∀ (bo : Bool) L' w', (if bo then I (k + 1) L' else D L') → Own w0 S0 (A ++ (L' ++ (E ++ F))) w' → K (.bool bo) w') : callVal P y x w K := by
  have e : ∀ L : List It, (L ++ (E ++ F)) ++ A = L ++ (E ++ (F ++ A)) := by intro L; simp
  refine callVal_mono (hstep k x L (F ++ A) w hx hI (by rw [← e]; exact own_comm H)) ?_
  rintro v w' ⟨bo, rfl, L', h, H'⟩
  refine hK bo L' w' h (own_comm ?_)
  rw [e]; exact H'
/-- calls that are put off, none of them: taken one behind another -/
def mkD (d : Nat) : Deferred := { target := .collected d, args := #[] }
theorem take1_o {L F : List It} {d : Nat} {ds : List Deferred} {K : World → Prop} (H : Own w0 S0 L w) (hp : Pick L (defI d) F) (k : ∀ w', Own w0 S0 F w' → takeX ds w' K) : takeX ({ target := .collected d, args := #[] } :: ds) w K :=
  take_o (args := #[]) (K := fun w' => takeX ds w' K) H hp k
theorem takes_o {F : List It} {K : World → Prop} : ∀ (dl : List Nat) {w : World}, Own w0 S0 (dl.map defI ++ F) w → (∀ w', Own w0 S0 F w' → K w') → takeX (dl.map mkD) w K
  | [], w, H, k => k w H
  | d :: r, w, H, k => take1_o H .here fun w' H' => takes_o r H' k
theorem row_ne {L F : List It} {b b' : Nat} {cs cs' : List Value} {t t' : TypeId} (H : Own w0 S0 (row b cs t :: L) w) (hp : Pick L (row b' cs' t') F) : b ≠ b' := by
  obtain ⟨S, ⟨S1, S2, ⟨_, g1⟩, h2, h3, h4⟩, _⟩ := H
  obtain ⟨T1, T2, ⟨_, k1⟩, _, _, k4⟩ := hp.iff.1 h2
  rintro rfl
  exact h3 b ((g1 b).2 rfl) ((k4 b).2 (.inl ((k1 b).2 rfl)))
theorem pick_right {i : It} {F F' : List It} (h : Pick F i F') : ∀ L : List It, Pick (L ++ F) i (L ++ F')
  | [] => h
  | _ :: L => .there (pick_right h L)
theorem filter_at {α : Type} {p : α → Bool} {x : α} : ∀ {l : List α} {k : Nat}, l[k]? = some x → p x = true → (l.filter p)[((l.take k).filter p).length]? = some x
  | [], k, h, _ => by cases h
  | y :: r, 0, h, hp => by
    cases h
    simp [hp]
  | y :: r, k + 1, h, hp => by
    have ih := filter_at (l := r) (k := k) (by simpa using h) hp
    rw [List.take_succ_cons]
    by_cases hy : p y = true
    · simp [List.filter_cons, hy, ih]
    · simp [List.filter_cons, hy, ih]
theorem filter_next {α : Type} {p : α → Bool} {x : α} {l : List α} {k : Nat} (h : l[k]? = some x) : ((l.take (k + 1)).filter p).length = ((l.take k).filter p).length + if p x then 1 else 0 := by
  rw [List.take_add_one, h, List.filter_append]
  cases hp : p x <;> simp [hp]
end Go.Proofs.Ytggchklafbpgpaa.X
