/-
  E: what an argument that a row reads is like in memory.
-/
import Derived.Test.YtbnadobjnmboiaaDoorS4
import Derived.ProofKit
import Derived.SizedLaws
namespace Go.Proofs.YtbnadobjnmboiaaDoor.X
open Go Go.RowKit
def Sh (P : Program) (w : World) (base : Nat) : Nat → TypeId → List Value → Prop
  | 0, _, _ => False
  | fuel + 1, t, cs => match P.underlying t with
    | some .bool => ∃ b, cs = [.bool b]
    | some (.int k) => ∃ n, cs = [.int k n] ∧ (Lit.int k n).wf = true
    | some .string => ∃ s : ByteArray, cs = [.string s] ∧ s.size ≤ maxLen ∧ s.size ≤ reachBytes
    | some (.slice e) => cs = [.slice none 0 0] ∨ ∃ a len cap, cs = [.slice (some a) len cap] ∧ len ≤ cap ∧ cap ≤ maxLen ∧ len * P.bytesOf e ≤ reachBytes ∧ ∀ i, i < len → ∃ ecs, w.cells? base (a.add (i * P.cellsOf e)) (P.cellsOf e) = some ecs ∧ Sh P w base fuel e ecs
    | some (.struct fs) => cs.length = P.cellsOf t ∧ ∀ (i : Nat) (f : Field), fs[i]? = some f → Sh P w base fuel f.type ((cs.drop f.offset).take (P.cellsOf f.type))
    | _ => True
theorem weights_all {H : Type} {P : Program} {e : TypeId} {d : DataW H} {n : Nat} : ∀ {l : List (DataW H)}, d ∈ l → n ∈ d.weights P e → n ∈ DataW.weightsAll P e l := by
  intro l
  induction l with
  | nil => intro h; cases h
  | cons x r ih =>
    intro h hn
    simp only [DataW.weightsAll, List.mem_append]
    rcases List.mem_cons.1 h with rfl | h
    · exact .inl hn
    · exact .inr (ih h hn)
theorem sh_of_trod {H : Type} {enc : TypeId × Value → H} {P : Program} {w : World} {base : Nat} {spare : Nat → Bool} {held : Bool} : ∀ (fuel : Nat) (t : TypeId) (cs : List Value) (x : DataW H × List MemPlace),
    DataW.trod enc P w base spare held fuel t cs = some x → (∀ n ∈ x.1.weights P t, n ≤ reachBytes) → Sh P w base fuel t cs := by
  intro fuel
  induction fuel with
  | zero => intro t cs x h _; simp [DataW.trod] at h
  | succ fuel ih =>
    intro t cs x h hw
    unfold Sh
    cases hu : P.underlying t with
    | none => trivial
    | some d =>
      cases d <;> try trivial
      case bool => obtain ⟨b, h1, _⟩ := DataW.trod_bool hu h; exact ⟨b, h1⟩
      case int k => obtain ⟨n, h1, _, h2⟩ := DataW.trod_int hu h; exact ⟨n, h1, h2⟩
      case string =>
        obtain ⟨s, h1, rfl, h2⟩ := DataW.trod_string hu h
        exact ⟨s, h1, h2, hw _ (by simp [DataW.weights])⟩
      case slice e =>
        rcases DataW.trod_slice hu h with ⟨h1, _⟩ | ⟨a, len, cap, elems, rest, n, hn, h1, rfl, hb, h2, h3, h4, h5, _⟩
        · exact .inl h1
        · have hwt : (DataW.slice (elems.map (·.1)) (rest.map (·.1)) : DataW H).weights P t = ((elems.map (·.1)).length + (rest.map (·.1)).length) * P.bytesOf e :: (DataW.weightsAll P e (elems.map (·.1)) ++ DataW.weightsAll P e (rest.map (·.1))) := by
            simp only [DataW.weights, hu]
          refine .inr ⟨a, len, cap, h1, h2, h3, ?_, fun i hi => ?_⟩
          · have := hw _ (by rw [hwt]; exact List.mem_cons_self)
            simp only [List.length_map] at this
            exact Nat.le_trans (Nat.mul_le_mul_right _ (by omega)) this
          · obtain rfl : fuel = n := by omega
            have h6 := h5 i hi
            rw [List.getElem?_eq_getElem (by omega)] at h6
            obtain ⟨ecs, h7, h8⟩ := Option.bind_eq_some_iff.1 h6
            refine ⟨ecs, h7, ih _ _ _ h8 fun m hm => hw m ?_⟩
            rw [hwt]
            exact List.mem_cons_of_mem _ (List.mem_append_left _ (weights_all (List.mem_map_of_mem (List.getElem_mem _)) hm))
      case struct fs =>
        obtain ⟨xs, n, hn, rfl, hl, hlen, hf⟩ := DataW.trod_struct hu h
        obtain rfl : fuel = n := by omega
        refine ⟨hl, fun i f hfi => ?_⟩
        have h1 := hf i f hfi
        have hi : i < xs.length := by rw [hlen]; exact (Array.getElem?_eq_some_iff.1 hfi).1
        rw [List.getElem?_eq_getElem hi] at h1
        refine ih _ _ _ h1 fun m hm => hw m ?_
        simp only [DataW.weights, hu]
        exact DataW.weights_mem_each (j := i) (by simp [hfi]) (by simp [hi]) m hm
end Go.Proofs.YtbnadobjnmboiaaDoor.X
