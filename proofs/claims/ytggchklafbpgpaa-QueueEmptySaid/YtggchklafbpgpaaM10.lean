/-
  mem: the document's memory: bytes put, wiped; both alike.
-/
import Derived.Test.YtggchklafbpgpaaM9
import Derived.Test.YtggchklafbpgpaaM8
namespace Go.Proofs.Ytggchklafbpgpaa
open Go Go.RowKit X
set_option maxRecDepth 100000
set_option linter.unusedVariables false
theorem over_succ {bs xs : List Int} {k i : Nat} (h : k + i < bs.length) (hi : i < xs.length) : (over bs k (xs.take i)).set (k + i) xs[i] = over bs k (xs.take (i + 1)) := by
  unfold over
  rw [List.take_succ_eq_append_getElem hi]
  have e : k + (xs.take i).length = k + i := by simp; omega
  rw [e, List.drop_eq_getElem_cons h, List.set_append_right _ _ (by simp; omega)]
  have e2 : k + i - (bs.take k ++ xs.take i).length = 0 := by simp; omega
  rw [e2, List.set_cons_zero]
  have e3 : k + (xs.take i ++ [xs[i]]).length = k + i + 1 := by simp; omega
  rw [e3]
  simp only [List.append_assoc, List.cons_append, List.nil_append]
theorem cut_all (bs : List Int) : cut bs 0 bs.length = bs := by simp [cut]
theorem same_t (b b' : Nat) (bs : List Int) : Tri P F.crierlaw04_Same [ptr b, ptr b'] [memI b bs, memI b' bs] fun v L' => v = .bool true ∧ L' = [memI b bs, memI b' bs] := by
  intro w S hS
  refine crierlaw04_Same_cv ?_
  unfold crierlaw04_Same
  have H := Own.start hS
  obtain ⟨d, c, rest, tb, td, H, hc, hr, hl⟩ := mem_open H (b := b') (bs := bs) (by repeat (first | exact Pick.here | apply Pick.there))
  repeat (first | refine ldI_o H (by repeat (first | exact Pick.here | apply Pick.there)) (by rfl) ?_ | refine ldL_o H (by repeat (first | exact Pick.here | apply Pick.there)) (by rfl) ?_ | refine ldB_o H (by repeat (first | exact Pick.here | apply Pick.there)) (by rfl) ?_ | refine ldP_o H (by repeat (first | exact Pick.here | apply Pick.there)) (by rfl) ?_ | refine ldS_o H (by repeat (first | exact Pick.here | apply Pick.there)) (by rfl) ?_)
  refine call_o H (bytes_t b bs 0 bs.length) (by repeat (first | exact Cut.nil | (apply Cut.cons; (repeat (first | exact Pick.here | apply Pick.there))))) fun vx L' wx hq H => ?_
  rw [if_pos (holdsB_iff.2 (by omega))] at hq
  obtain ⟨p1, c1, rfl, rfl⟩ := hq
  simp only [List.cons_append, List.nil_append] at H
  refine ⟨_, _, _, _, rfl, join_o ?_⟩
  refine drw_o H fun wx H => ?_
  repeat (first | refine ldI_o H (by repeat (first | exact Pick.here | apply Pick.there)) (by rfl) ?_ | refine ldL_o H (by repeat (first | exact Pick.here | apply Pick.there)) (by rfl) ?_ | refine ldB_o H (by repeat (first | exact Pick.here | apply Pick.there)) (by rfl) ?_ | refine ldP_o H (by repeat (first | exact Pick.here | apply Pick.there)) (by rfl) ?_ | refine ldS_o H (by repeat (first | exact Pick.here | apply Pick.there)) (by rfl) ?_)
  refine call_p H (size_t b bs) (by repeat (first | exact Cut.nil | (apply Cut.cons; (repeat (first | exact Pick.here | apply Pick.there))))) fun wx H => ?_
  refine ⟨_, rfl, rfl, ldL_o H (by repeat (first | exact Pick.here | apply Pick.there)) (by rfl) rfl, cnd_i (fun _ => cnd_i (fun _ => ?_) (fun h => by cases h)) fun h => by simp at h⟩
  have hcl : cut bs (0 : Int).toNat (bs.length : Int).toNat = bs := by simp [cut]
  rw [hcl] at H
  refine bts_i (H.sl (p := p1) (c := c1) (by repeat (first | exact Pick.here | apply Pick.there))).1 (by simp) ?_
  repeat (first | refine ldI_o H (by repeat (first | exact Pick.here | apply Pick.there)) (by rfl) ?_ | refine ldL_o H (by repeat (first | exact Pick.here | apply Pick.there)) (by rfl) ?_ | refine ldB_o H (by repeat (first | exact Pick.here | apply Pick.there)) (by rfl) ?_ | refine ldP_o H (by repeat (first | exact Pick.here | apply Pick.there)) (by rfl) ?_ | refine ldS_o H (by repeat (first | exact Pick.here | apply Pick.there)) (by rfl) ?_)
  have hd := H.row (b := d) (by repeat (first | exact Pick.here | apply Pick.there))
  refine bts_i (xs := bs) (fun j u hj => ⟨_, rfl, ?_⟩) rfl ?_
  · have hj' : j < bs.length := by have := (List.getElem?_eq_some_iff.1 hj).1; rwa [u8s_length] at this
    rw [add_lit, Nat.zero_add, hd.cell, List.getElem?_append_left (by rw [u8s_length]; exact hj')]; exact hj
  · refine ⟨_, ⟨by simp, rfl⟩, ?_⟩
    exact (mem_shut (F := [own tByte 1 (.slice p1 (bs.length : Int).toNat c1) (bs.length : Int).toNat (u8s bs), memI b bs]) (H.drop (by repeat (first | exact Cut.nil | (apply Cut.cons; (repeat (first | exact Pick.here | apply Pick.there)))))) rfl hc hr hl).drop (by repeat (first | exact Cut.nil | (apply Cut.cons; (repeat (first | exact Pick.here | apply Pick.there)))))
end Go.Proofs.Ytggchklafbpgpaa
