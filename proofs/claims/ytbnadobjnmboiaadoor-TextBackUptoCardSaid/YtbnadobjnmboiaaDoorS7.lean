/-
  E: a slice that a row reads, as a list of things.
-/
import Derived.Test.YtbnadobjnmboiaaDoorS5
import Derived.Test.YtbnadobjnmboiaaDoorA3
namespace Go.Proofs.YtbnadobjnmboiaaDoor.X
open Go Go.RowKit
set_option maxRecDepth 100000
theorem add_zero' (a : Addr) : a.add 0 = a := by unfold Addr.add; split <;> simp_all
/-- the cells of a list's members, member by member -/
def Slots (w : World) (q : Option Addr) (c : Nat) (xs : List (List Value)) : Prop := ∀ i cs, xs[i]? = some cs → ∃ a, q = some a ∧ ∀ j v, cs[j]? = some v → w.cell? ((a.add (i * c)).add j) = some v
theorem sh_slice {P : Program} {w : World} {fuel : Nat} {ts te : TypeId} {c : Nat} {v : Value} {α : Type} {mk : α → List Value} {Good : α → Prop} (hu : P.underlying ts = some (.slice te)) (hc : P.cellsOf te = c)
    (hel : ∀ f cs, Sh P w 0 f te cs → ∃ x, cs = mk x ∧ Good x) (h : Sh P w 0 fuel ts [v]) :
    ∃ q cap, ∃ xs : List α, v = .slice q xs.length cap ∧ xs.length ≤ 9223372036854775807 ∧ (∀ x ∈ xs, Good x) ∧ Slots w q c (xs.map mk) := by
  cases fuel with
  | zero => exact h.elim
  | succ f =>
    unfold Sh at h
    rw [hu] at h
    rcases h with h | ⟨a, len, cap, h1, h2, h3, _, h5⟩
    · exact ⟨none, 0, [], by simpa using h, by simp, fun x hx => (by cases hx), fun i cs hi => (by cases hi)⟩
    · have h6 : ∀ i : Fin len, ∃ x : α, w.cells? 0 (a.add (i.1 * c)) c = some (mk x) ∧ Good x := by
        intro i
        obtain ⟨ecs, g1, g2⟩ := h5 i.1 i.2
        obtain ⟨x, rfl, g3⟩ := hel _ _ g2
        rw [hc] at g1
        exact ⟨x, g1, g3⟩
      obtain ⟨g, hg⟩ := Classical.axiomOfChoice h6
      refine ⟨some a, cap, List.ofFn g, by simpa using h1, by unfold maxLen at h3; simp; omega, ?_, ?_⟩
      · intro x hx
        obtain ⟨i, rfl⟩ := List.mem_ofFn.1 hx
        exact (hg i).2
      · intro i cs hi
        rw [List.getElem?_map] at hi
        by_cases hl : i < len
        · rw [List.getElem?_ofFn, dif_pos hl] at hi
          simp only [Option.map_some, Option.some.injEq] at hi
          subst hi
          refine ⟨a, rfl, fun j v hj => ?_⟩
          obtain ⟨_, g2, g3⟩ := World.cells?_some (hg ⟨i, hl⟩).1
          have hjl := (List.getElem?_eq_some_iff.1 hj).1
          have := g3 j (by omega)
          rw [this, hj]
        · rw [List.getElem?_ofFn, dif_neg hl] at hi; cases hi
/-- things of one cell -/
theorem Slots.sl {w : World} {q : Option Addr} {xs : List Value} (h : Slots w q 1 (xs.map fun v => [v])) : Sl w q xs := by
  intro j u hj
  obtain ⟨a, ha, hc⟩ := h j [u] (by rw [List.getElem?_map, hj]; rfl)
  refine ⟨a, ha, ?_⟩
  have := hc 0 u rfl
  rw [add_zero', Nat.mul_one] at this
  exact this
theorem sh_bool {P : Program} {w : World} {te : TypeId} (hu : P.underlying te = some .bool) (f : Nat) (cs : List Value) (h : Sh P w 0 f te cs) : ∃ x : Bool, cs = [.bool x] ∧ True := by
  cases f with
  | zero => exact h.elim
  | succ f =>
    unfold Sh at h
    rw [hu] at h
    obtain ⟨x, h⟩ := h
    exact ⟨x, h, trivial⟩
theorem sh_num {P : Program} {w : World} {te : TypeId} {k : IntKind} (hu : P.underlying te = some (.int k)) (f : Nat) (cs : List Value) (h : Sh P w 0 f te cs) : ∃ x : Int, cs = [.int k x] ∧ (Lit.int k x).wf = true := by
  cases f with
  | zero => exact h.elim
  | succ f =>
    unfold Sh at h
    rw [hu] at h
    exact h
end Go.Proofs.YtbnadobjnmboiaaDoor.X
