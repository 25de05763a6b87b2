/-
  the law's lists of numbers: alike; whether a number is in one.
-/
import Derived.Test.YtmobpenjbaaicaaK11
namespace Go.Proofs.Ytmobpenjbaaicaa
open Go Go.RowKit X
set_option maxRecDepth 100000
set_option linter.unusedVariables false
theorem refSame_t (i : It) {p q : Option Addr} {c d : Nat} {xs ys : List Int} (hx : ∀ w S, i.h w S → Sl w p (i64s xs)) (j : It) (hy : ∀ w S, j.h w S → Sl w q (i64s ys)) (hn : xs.length ≤ 1000000000) : Tri P F.crierref01_Same [.slice p xs.length c, .slice q ys.length d] [i, j] fun v L' => v = .bool (decide (xs = ys)) ∧ L' = [i, j] := by
  intro w S hS
  refine crierref01_Same_cv ?_
  unfold crierref01_Same
  have H := Own.start hS
  refine cnd_i (fun h => ?_) fun h => ?_
  · have h : xs.length ≠ ys.length := by simpa only [bne_iff_ne, ne_eq, Int.natCast_inj] using h
    refine ⟨_, ⟨?_, rfl⟩, H⟩
    rw [eq_comm]
    congr 1
    rw [decide_eq_false_iff_not]
    rintro rfl; exact h rfl
  have hlen : xs.length = ys.length := by simpa only [bne_eq_false_iff_eq, Int.natCast_inj] using h
  refine loop_o (fun (st : Int) L => ∃ k : Nat, k ≤ xs.length ∧ st = k ∧ (∀ u, u < k → xs[u]? = ys[u]?) ∧ L = [i, j]) (fun (st : Int) => ((xs.length : Int) - st).toNat) H ⟨0, by omega, rfl, fun u hu => by omega, rfl⟩ ?_
  rintro _ _ wx ⟨k, hk, rfl, heq, rfl⟩ H
  unfold crierref01_Same_l0
  refine cnd_i (fun h => ?_) fun h => ?_
  · have h := of_decide_eq_true h
    have hk1 : k < xs.length := by omega
    have hk2 : k < ys.length := by omega
    refine drw_o H fun wx H => ?_
    refine ⟨⟨by omega, h⟩, ?_⟩
    rw [Int.toNat_natCast]
    obtain ⟨a, rfl, hcell⟩ := H.rd (i := i) (by repeat (first | exact Pick.here | apply Pick.there)) hx k _ (i64s_get hk1)
    refine ⟨_, by rw [Nat.mul_one]; exact hcell, ⟨by omega, by omega⟩, ?_⟩
    rw [Int.toNat_natCast]
    obtain ⟨a2, rfl, hcell2⟩ := H.rd (i := j) (by repeat (first | exact Pick.here | apply Pick.there)) hy k _ (i64s_get hk2)
    refine ⟨_, by rw [Nat.mul_one]; exact hcell2, cnd_i (fun hne => ?_) fun he => ?_⟩
    · refine ⟨_, ⟨?_, rfl⟩, H⟩
      rw [eq_comm]
      congr 1
      rw [decide_eq_false_iff_not]
      rintro rfl; simp at hne
    · have he : xs[k] = ys[k] := by simpa using he
      refine ⟨⟨_, ⟨k + 1, by omega, ?_, ?_, rfl⟩, H⟩, ?_⟩
      · rw [W_id (by omega) (by omega)]; rfl
      · intro u hu
        rcases Nat.lt_or_ge u k with h | h
        · exact heq u h
        · rw [show u = k by omega]; simp [hk1, hk2, he]
      · rw [W_id (by omega) (by omega)]
        show ((xs.length : Int) - ((k : Int) + 1)).toNat < ((xs.length : Int) - (k : Int)).toNat
        omega
  · have h := of_decide_eq_false h
    refine ⟨_, ⟨?_, rfl⟩, H⟩
    rw [eq_comm]
    congr 1
    rw [decide_eq_true_eq]
    apply List.ext_getElem?
    intro u
    rcases Nat.lt_or_ge u k with h | h
    · exact heq u h
    · rw [List.getElem?_eq_none (by omega), List.getElem?_eq_none (by omega)]
theorem refHas_t (i : It) {p : Option Addr} {c : Nat} {xs : List Int} (hi : ∀ w S, i.h w S → Sl w p (i64s xs)) (hl : xs.length ≤ 1000000000) (m : Int) : Tri P F.crierref01_Has [.slice p xs.length c, .int .i64 m] [i] fun v L' => v = .bool (decide (m ∈ xs)) ∧ L' = [i] := by
  intro w S hS
  refine crierref01_Has_cv ?_
  unfold crierref01_Has
  have H := Own.start hS
  refine loop_o (fun (st : Int) L => ∃ k : Nat, k ≤ xs.length ∧ st = k ∧ m ∉ xs.take k ∧ L = [i]) (fun (st : Int) => ((xs.length : Int) - st).toNat) H ⟨0, by omega, rfl, by simp, rfl⟩ ?_
  rintro _ _ wx ⟨k, hk, rfl, hno, rfl⟩ H
  unfold crierref01_Has_l0
  refine cnd_i (fun h => ?_) fun h => ?_
  · have h := of_decide_eq_true h
    have hk' : k < xs.length := by omega
    refine ⟨⟨by omega, h⟩, ?_⟩
    rw [Int.toNat_natCast]
    obtain ⟨a, rfl, hcell⟩ := H.rd (i := i) (by repeat (first | exact Pick.here | apply Pick.there)) hi k _ (i64s_get hk')
    refine ⟨_, by rw [Nat.mul_one]; exact hcell, cnd_i (fun he => ?_) fun he => ?_⟩
    · have he := eq_of_beq he
      refine ⟨_, ⟨?_, rfl⟩, H⟩
      have : m ∈ xs := by rw [← he]; exact List.getElem_mem _
      rw [decide_eq_true this]
    · have he : xs[k] ≠ m := by simpa using he
      rw [W_id (by omega) (by omega)]
      refine ⟨⟨_, ⟨k + 1, by omega, by push_cast; rfl, ?_, rfl⟩, H⟩, by omega⟩
      rw [List.take_succ_eq_append_getElem hk']
      simp only [List.mem_append, List.mem_singleton, not_or]
      exact ⟨hno, fun h => he h.symm⟩
  · have h := of_decide_eq_false h
    rw [List.take_of_length_le (by omega)] at hno
    refine ⟨_, ⟨?_, rfl⟩, H⟩
    rw [decide_eq_false hno]
end Go.Proofs.Ytmobpenjbaaicaa
