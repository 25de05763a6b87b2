/-
  mem: along any acts the program's memory and the document's are alike: MemDoes.
-/
import Derived.Test.YtbincfjaahjbiaaL11
namespace Go.Proofs.Ytbincfjaahjbiaa
open Go Go.RowKit X
set_option maxRecDepth 100000
set_option linter.unusedVariables false
theorem model_t (b : Nat) (bs : List Int) (k a s o n v : Int) (hv : 0 ≤ v ∧ v < 2 ^ 64) {q : Option Addr} {c' : Nat} {xs : List Int} (i : It) (hi : ∀ w S, i.h w S → Sl w q (u8s xs)) (hr : ∀ x ∈ xs, 0 ≤ x ∧ x < 256) :
    Tri P F.crierlaw04_Model [ptr b, actV k a s o n v q xs.length c'] [memI b bs, i] fun r L' => r = .int .i64 (doM bs k a s o n v xs).2 ∧ L' = [memI b (doM bs k a s o n v xs).1, i] := by
  intro w S hS
  refine crierlaw04_Model_cv ?_
  unfold crierlaw04_Model
  have H := Own.start hS
  refine alc_o H fun bx wx H => ?_
  repeat (first | refine ldI_o H (by repeat (first | exact Pick.here | apply Pick.there)) (by rfl) ?_ | refine ldL_o H (by repeat (first | exact Pick.here | apply Pick.there)) (by rfl) ?_ | refine ldB_o H (by repeat (first | exact Pick.here | apply Pick.there)) (by rfl) ?_ | refine ldP_o H (by repeat (first | exact Pick.here | apply Pick.there)) (by rfl) ?_ | refine ldS_o H (by repeat (first | exact Pick.here | apply Pick.there)) (by rfl) ?_)
  refine cnd_i (fun h => ?_) fun h => ?_
  · have h : k = 1 := by simpa using h
    repeat (first | refine ldI_o H (by repeat (first | exact Pick.here | apply Pick.there)) (by rfl) ?_ | refine ldL_o H (by repeat (first | exact Pick.here | apply Pick.there)) (by rfl) ?_ | refine ldB_o H (by repeat (first | exact Pick.here | apply Pick.there)) (by rfl) ?_ | refine ldP_o H (by repeat (first | exact Pick.here | apply Pick.there)) (by rfl) ?_ | refine ldS_o H (by repeat (first | exact Pick.here | apply Pick.there)) (by rfl) ?_)
    refine call_o H (refWrite_t b bs a s o n v hv) (by repeat (first | exact Cut.nil | (apply Cut.cons; (repeat (first | exact Pick.here | apply Pick.there))))) fun vx L' wx hq H => ?_
    obtain ⟨rfl, rfl⟩ := hq
    simp only [List.cons_append, List.nil_append] at H
    simp only [doM, if_pos h]
    exact ⟨_, rfl, _, ⟨rfl, rfl⟩, H.drop (by repeat (first | exact Cut.nil | (apply Cut.cons; (repeat (first | exact Pick.here | apply Pick.there)))))⟩
  have h : k ≠ 1 := by simpa using h
  refine cnd_i (fun h2 => ?_) fun h2 => ?_
  · have h2 : k = 2 := by simpa using h2
    repeat (first | refine ldI_o H (by repeat (first | exact Pick.here | apply Pick.there)) (by rfl) ?_ | refine ldL_o H (by repeat (first | exact Pick.here | apply Pick.there)) (by rfl) ?_ | refine ldB_o H (by repeat (first | exact Pick.here | apply Pick.there)) (by rfl) ?_ | refine ldP_o H (by repeat (first | exact Pick.here | apply Pick.there)) (by rfl) ?_ | refine ldS_o H (by repeat (first | exact Pick.here | apply Pick.there)) (by rfl) ?_)
    refine call_o H (refPut_t b bs a s i hi hr) (by repeat (first | exact Cut.nil | (apply Cut.cons; (repeat (first | exact Pick.here | apply Pick.there))))) fun vx L' wx hq H => ?_
    obtain ⟨rfl, rfl⟩ := hq
    simp only [List.cons_append, List.nil_append] at H
    simp only [doM, if_neg h, if_pos h2]
    refine ⟨_, rfl, ?_⟩
    cases hc : (holdsB bs.length a s && decide ((xs.length : Int) ≤ s))
    · rw [hc] at H; exact ⟨_, ⟨rfl, rfl⟩, H.drop (by repeat (first | exact Cut.nil | (apply Cut.cons; (repeat (first | exact Pick.here | apply Pick.there)))))⟩
    · rw [hc] at H; exact ⟨_, ⟨rfl, rfl⟩, H.drop (by repeat (first | exact Cut.nil | (apply Cut.cons; (repeat (first | exact Pick.here | apply Pick.there)))))⟩
  have h2 : k ≠ 2 := by simpa using h2
  refine cnd_i (fun h3 => ?_) fun h3 => ?_
  · have h3 : k = 3 := by simpa using h3
    repeat (first | refine ldI_o H (by repeat (first | exact Pick.here | apply Pick.there)) (by rfl) ?_ | refine ldL_o H (by repeat (first | exact Pick.here | apply Pick.there)) (by rfl) ?_ | refine ldB_o H (by repeat (first | exact Pick.here | apply Pick.there)) (by rfl) ?_ | refine ldP_o H (by repeat (first | exact Pick.here | apply Pick.there)) (by rfl) ?_ | refine ldS_o H (by repeat (first | exact Pick.here | apply Pick.there)) (by rfl) ?_)
    refine call_o H (refWipe_t b bs a s) (by repeat (first | exact Cut.nil | (apply Cut.cons; (repeat (first | exact Pick.here | apply Pick.there))))) fun vx L' wx hq H => ?_
    obtain ⟨rfl, rfl⟩ := hq
    simp only [List.cons_append, List.nil_append] at H
    simp only [doM, if_neg h, if_neg h2, if_pos h3]
    refine ⟨_, rfl, ?_⟩
    cases hc : holdsB bs.length a s
    · rw [hc] at H; exact ⟨_, ⟨rfl, rfl⟩, H.drop (by repeat (first | exact Cut.nil | (apply Cut.cons; (repeat (first | exact Pick.here | apply Pick.there)))))⟩
    · rw [hc] at H; exact ⟨_, ⟨rfl, rfl⟩, H.drop (by repeat (first | exact Cut.nil | (apply Cut.cons; (repeat (first | exact Pick.here | apply Pick.there)))))⟩
  · have h3 : k ≠ 3 := by simpa using h3
    simp only [doM, if_neg h, if_neg h2, if_neg h3]
    exact ⟨_, ⟨trivial, rfl⟩, H.drop (by repeat (first | exact Cut.nil | (apply Cut.cons; (repeat (first | exact Pick.here | apply Pick.there)))))⟩
theorem size_t (b : Nat) (bs : List Int) : Tri P F.mem_Mem_Size [ptr b] [memI b bs] fun v L' => v = .int .i64 bs.length ∧ L' = [memI b bs] := by
  refine tri_mem fun w d c rest hm => mem_Mem_Size_cv ?_
  unfold mem_Mem_Size
  obtain ⟨t, r⟩ := hm.hb
  exact ldL_i r rfl ⟨rfl, Below.refl _ _⟩
theorem cut_all (bs : List Int) : cut bs 0 bs.length = bs := by simp [cut]
theorem same_t (b b' : Nat) (bs : List Int) : Tri P F.crierlaw04_Same [ptr b, ptr b'] [memI b bs, memI b' bs] fun v L' => v = .bool true ∧ L' = [memI b bs, memI b' bs] := by
  intro w S hS
  refine crierlaw04_Same_cv ?_
  unfold crierlaw04_Same
  have H := Own.start hS
  obtain ⟨d, c, rest, tb, td, H, hc, hr, hl⟩ := mem_open H (b := b') (bs := bs) (by repeat (first | exact Pick.here | apply Pick.there))
  repeat (first | refine ldI_o H (by repeat (first | exact Pick.here | apply Pick.there)) (by rfl) ?_ | refine ldL_o H (by repeat (first | exact Pick.here | apply Pick.there)) (by rfl) ?_ | refine ldB_o H (by repeat (first | exact Pick.here | apply Pick.there)) (by rfl) ?_ | refine ldP_o H (by repeat (first | exact Pick.here | apply Pick.there)) (by rfl) ?_ | refine ldS_o H (by repeat (first | exact Pick.here | apply Pick.there)) (by rfl) ?_)
  refine call_o H (bytes_t b bs 0 bs.length) (by repeat (first | exact Cut.nil | (apply Cut.cons; (repeat (first | exact Pick.here | apply Pick.there))))) fun vx L' wx hq H => ?_
  rw [if_pos (holdsB_iff.2 (by omega))] at hq
  obtain ⟨p1, c1, rfl, rfl⟩ := hq
  simp only [List.cons_append, List.nil_append] at H
  refine ⟨_, _, _, _, rfl, join_o ?_⟩
  refine drw_o H fun wx H => ?_
  repeat (first | refine ldI_o H (by repeat (first | exact Pick.here | apply Pick.there)) (by rfl) ?_ | refine ldL_o H (by repeat (first | exact Pick.here | apply Pick.there)) (by rfl) ?_ | refine ldB_o H (by repeat (first | exact Pick.here | apply Pick.there)) (by rfl) ?_ | refine ldP_o H (by repeat (first | exact Pick.here | apply Pick.there)) (by rfl) ?_ | refine ldS_o H (by repeat (first | exact Pick.here | apply Pick.there)) (by rfl) ?_)
  refine call_p H (size_t b bs) (by repeat (first | exact Cut.nil | (apply Cut.cons; (repeat (first | exact Pick.here | apply Pick.there))))) fun wx H => ?_
  refine ⟨_, rfl, rfl, ldL_o H (by repeat (first | exact Pick.here | apply Pick.there)) (by rfl) rfl, cnd_i (fun _ => cnd_i (fun _ => ?_) (fun h => by cases h)) fun h => by simp at h⟩
  have hcl : cut bs (0 : Int).toNat (bs.length : Int).toNat = bs := by simp [cut]
  rw [hcl] at H
  refine bts_i (H.sl (p := p1) (c := c1) (by repeat (first | exact Pick.here | apply Pick.there))).1 (by simp) ?_
  repeat (first | refine ldI_o H (by repeat (first | exact Pick.here | apply Pick.there)) (by rfl) ?_ | refine ldL_o H (by repeat (first | exact Pick.here | apply Pick.there)) (by rfl) ?_ | refine ldB_o H (by repeat (first | exact Pick.here | apply Pick.there)) (by rfl) ?_ | refine ldP_o H (by repeat (first | exact Pick.here | apply Pick.there)) (by rfl) ?_ | refine ldS_o H (by repeat (first | exact Pick.here | apply Pick.there)) (by rfl) ?_)
  have hd := H.row (b := d) (by repeat (first | exact Pick.here | apply Pick.there))
  refine bts_i (xs := bs) (fun j u hj => ⟨_, rfl, ?_⟩) rfl ?_
  · have hj' : j < bs.length := by have := (List.getElem?_eq_some_iff.1 hj).1; rwa [u8s_length] at this
    rw [add_lit, Nat.zero_add, hd.cell, List.getElem?_append_left (by rw [u8s_length]; exact hj')]; exact hj
  · refine ⟨_, ⟨by simp, rfl⟩, ?_⟩
    exact (mem_shut (F := [own tByte 1 (.slice p1 (bs.length : Int).toNat c1) (bs.length : Int).toNat (u8s bs), memI b bs]) (H.drop (by repeat (first | exact Cut.nil | (apply Cut.cons; (repeat (first | exact Pick.here | apply Pick.there)))))) rfl hc hr hl).drop (by repeat (first | exact Cut.nil | (apply Cut.cons; (repeat (first | exact Pick.here | apply Pick.there)))))
end Go.Proofs.Ytbincfjaahjbiaa
