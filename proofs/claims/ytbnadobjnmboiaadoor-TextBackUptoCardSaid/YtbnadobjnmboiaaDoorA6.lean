/-
  E: the cells of a list's members, as they are read.
-/
import Derived.Test.YtbnadobjnmboiaaDoorS7
import Derived.Test.YtbnadobjnmboiaaDoorA5
import Derived.DataElems
namespace Go.Proofs.YtbnadobjnmboiaaDoor.X
open Go Go.RowKit
set_option linter.unusedVariables false
theorem Own.rdS {w0 w : World} {S0 : Nat → Prop} {L F : List It} {i : It} {q : Option Addr} {c : Nat} {xs : List (List Value)} (H : Own w0 S0 L w) (hp : Pick L i F) (hi : ∀ w S, i.h w S → Slots w q c xs) : Slots w q c xs := let ⟨_, h, _⟩ := H.pick hp; hi _ _ h
theorem keep_slots {w1 : World} {q : Option Addr} {c : Nat} {xs : List (List Value)} (h : Slots w1 q c xs) : ∀ w S, (keep w1).h w S → Slots w q c xs := by
  intro w S ⟨_, _, h3⟩ j u hj
  obtain ⟨a, ha, hc⟩ := h j u hj
  refine ⟨a, ha, fun i v hv => ?_⟩
  have := hc i v hv
  rw [World.cell?_of_block (h3 _ (World.block_lt_of_cell? _ _ this))]; exact this
theorem slot_cells {α : Type} {w : World} {q : Option Addr} {c : Nat} {mk : α → List Value} {xs : List α} (h : Slots w q c (xs.map mk)) {k : Nat} {x : α} (hk : xs[k]? = some x) :
    ∃ a, q = some a ∧ (∀ v, (mk x)[0]? = some v → w.cell? (a.add (k * c)) = some v) ∧ ∀ (j : Nat) v, (mk x)[j]? = some v → w.cell? ((a.add (k * c)).add j) = some v := by
  obtain ⟨a, ha, hc⟩ := h k (mk x) (by rw [List.getElem?_map, hk]; rfl)
  exact ⟨a, ha, fun v hv => by rw [← add_zero' (a.add (k * c))]; exact hc 0 v hv, hc⟩
theorem ix_i {i : Nat} {n : Nat} {K : Nat → Prop} (h : i < n) (hK : K i) : ix (i : Int) n K := ⟨⟨by omega, by omega⟩, by rw [Int.toNat_natCast]; exact hK⟩
theorem wf_i64 {x : Int} (h : (Lit.int .i64 x).wf = true) : -9223372036854775808 ≤ x ∧ x ≤ 9223372036854775807 := by
  simp [Lit.wf, IntKind.min, IntKind.max, IntKind.signed, IntKind.bits] at h; omega
end Go.Proofs.YtbnadobjnmboiaaDoor.X
