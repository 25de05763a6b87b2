/-
  shadow: all of the reference; whether both are alike.
-/
import Derived.Test.YtmobpenjbaaicaaL16
namespace Go.Proofs.Ytmobpenjbaaicaa
open Go Go.RowKit X
set_option maxRecDepth 100000
set_option linter.unusedVariables false
set_option linter.unusedSimpArgs false
set_option maxHeartbeats 1000000
variable {many : Int} {A B : List (Int × Int)} {d e d' e' n : Int}
theorem up_ext {a b : List (Int × Int)} (ha : Up a) (hb : Up b) (h : ∀ x, x ∈ a ↔ x ∈ b) : a = b := by
  refine lk_ext ha hb fun k => Option.ext fun v => ?_
  show lk a k = some v ↔ lk b k = some v
  rw [lk_iff ha, lk_iff hb, h]
def upto (A : List (Int × Int)) (k : Int) : List (Int × Int) := A.filter fun u => decide (u.1 < k)
theorem up_filter {a : List (Int × Int)} (ha : Up a) (p : Int × Int → Bool) : Up (a.filter p) := by
  unfold Up ks at *
  exact ha.sublist (List.Sublist.map _ List.filter_sublist)
theorem Inv.upto_next (h : Inv many A B) (k : Int) : upto A (k + 1) = upto A k ++ (match lk A k with | some n => [(k, n)] | none => []) := by
  refine up_ext (up_filter h.upA _) ?_ fun x => ?_
  · have h1 := up_filter h.upA (fun u => decide (u.1 < k))
    unfold Up ks at h1 ⊢
    rw [List.map_append]
    refine List.pairwise_append.2 ⟨h1, ?_, fun a ha b hb => ?_⟩
    · cases lk A k <;> simp
    · obtain ⟨u, hu, rfl⟩ := List.mem_map.1 ha
      have := (List.mem_filter.1 hu).2
      have hlt : u.1 < k := by simpa using this
      cases hk : lk A k with
      | none => rw [hk] at hb; simp at hb
      | some n => rw [hk] at hb; simp at hb; omega
  · unfold upto
    rw [List.mem_append, List.mem_filter, List.mem_filter]
    obtain ⟨x1, x2⟩ := x
    simp only [decide_eq_true_eq]
    have hx := lk_iff h.upA (k := x1) (v := x2)
    constructor
    · rintro ⟨h1, h2⟩
      by_cases e1 : x1 < k
      · exact .inl ⟨h1, e1⟩
      · right
        have : x1 = k := by omega
        subst this
        rw [hx.2 h1]; simp
    · rintro (⟨h1, h2⟩ | h1)
      · exact ⟨h1, by omega⟩
      · cases hk : lk A k with
        | none => rw [hk] at h1; simp at h1
        | some n =>
          rw [hk] at h1
          simp only [List.mem_singleton, Prod.mk.injEq] at h1
          obtain ⟨rfl, rfl⟩ := h1
          exact ⟨hx.1 hk, by omega⟩
theorem Inv.upto_zero (h : Inv many A B) : upto A 0 = [] := by
  unfold upto
  rw [List.filter_eq_nil_iff]
  intro u hu
  have := h.memA u hu
  simp; omega
theorem Inv.upto_all (h : Inv many A B) : upto A 512 = A := by
  unfold upto
  rw [List.filter_eq_self]
  intro u hu
  have := h.memA u hu
  simp; omega
theorem listL_append (a b : List (Int × Int)) : listL (a ++ b) = listL a ++ listL b := by simp [listL]
theorem upto_le (A : List (Int × Int)) (k : Int) : (upto A k).length ≤ A.length := List.length_filter_le _ _
theorem ref_all_t (h : Inv many A B) (b : Nat) : Tri P F.crierref25_Shadow_All [bptr b] [refI b (refOf many B)] fun v L' => ∃ p c, v = .slice p (listL A).length c ∧ L' = [nums p c (listL A), refI b (refOf many B)] := by
  intro w S hS
  refine crierref25_Shadow_All_cv ?_
  unfold crierref25_Shadow_All
  have H := Own.start hS
  have H := own_nil (e := tInt) (size := 1) H
  have hlA := h.lenA
  refine loop_o (fun (st : (Option Addr × Nat × Nat) × Int) L => ∃ (p : Option Addr) (c d : Nat), d ≤ 32 ∧ st = ((p, (listL (upto A (16 * d))).length, c), (d : Int)) ∧ L = [nums p c (listL (upto A (16 * d))), refI b (refOf many B)]) (fun (st : (Option Addr × Nat × Nat) × Int) => (32 - st.2).toNat) H
    ⟨none, 0, 0, by omega, by rw [show (16 : Int) * ((0 : Nat) : Int) = 0 by omega, h.upto_zero]; rfl, by rw [show (16 : Int) * ((0 : Nat) : Int) = 0 by omega, h.upto_zero]; rfl⟩ ?_
  rintro _ _ wx ⟨p, c, d, hd, rfl, rfl⟩ H
  unfold crierref25_Shadow_All_l2
  refine cnd_i (fun hc => ?_) fun hc => ?_
  · have hc := of_decide_eq_true hc
    dsimp only at hc
    refine loop_o (fun (st : (Option Addr × Nat × Nat) × Int) L => ∃ (p : Option Addr) (c e : Nat), e ≤ 16 ∧ st = ((p, (listL (upto A (16 * d + e))).length, c), (e : Int)) ∧ L = [nums p c (listL (upto A (16 * d + e))), refI b (refOf many B)]) (fun (st : (Option Addr × Nat × Nat) × Int) => (16 - st.2).toNat) H
      ⟨p, c, 0, by omega, by rw [show (16 : Int) * d + ((0 : Nat) : Int) = 16 * d by omega]; rfl, by rw [show (16 : Int) * d + ((0 : Nat) : Int) = 16 * d by omega]⟩ ?_
    rintro _ _ wx ⟨p, c, e, he, rfl, rfl⟩ H
    unfold crierref25_Shadow_All_l1
    refine cnd_i (fun hc2 => ?_) fun hc2 => ?_
    · have hc2 := of_decide_eq_true hc2
      dsimp only at hc2
      refine join_o ?_
      have hm : mayB (d : Int) (e : Int) = true := mayB_iff.2 (by omega)
      have hk := keyI_may hm
      have hnext := h.upto_next (16 * d + e)
      have hlu := upto_le A (16 * d + e)
      have hlen := listL_len (upto A (16 * d + e))
      refine call_p H (find_i h b d e) (by repeat (first | exact Cut.nil | (apply Cut.cons; (repeat (first | exact Pick.here | apply Pick.there))))) fun wx H => ?_
      refine ⟨_, rfl, ?_⟩
      unfold findR
      rw [hk, show (d : Int) * 16 + e = 16 * d + e by omega]
      cases hh : lk A (16 * d + e) with
      | none =>
        have : hasK A (16 * d + e) = false := by rw [hasK_lk, hh]; rfl
        rw [if_neg (by rw [this]; simp)]
        rw [hh, List.append_nil] at hnext
        refine cnd_i (fun h => absurd (of_decide_eq_true h) (by omega)) fun _ => ?_
        unfold crierref25_Shadow_All_j0
        dsimp only
        rw [W_id (by omega) (by omega)]
        refine ⟨⟨_, ⟨p, c, e + 1, by omega, ?_, rfl⟩, ?_⟩, by show (16 - ((e : Int) + 1)).toNat < (16 - (e : Int)).toNat; omega⟩
        · rw [show (16 : Int) * d + ((e + 1 : Nat) : Int) = 16 * d + e + 1 by omega, hnext]; push_cast; rfl
        · rw [show (16 : Int) * d + ((e + 1 : Nat) : Int) = 16 * d + e + 1 by omega, hnext]; exact H
      | some z =>
        have hz := lk_has hh
        have hr := h.rng _ _ hh
        rw [if_pos ⟨hm, hz.1⟩, hz.2]
        rw [hh] at hnext
        refine cnd_i (fun _ => ?_) fun h => absurd (of_decide_eq_false h) (by omega)
        refine alc_o H fun b33 wx H => ?_
        refine app_n (m := 3) (b := b33) (ys := [(d : Int), (e : Int), z]) (t := T.t3) H (by repeat (first | exact Pick.here | apply Pick.there)) .here rfl (by dsimp only; omega) fun p1 c1 wx H => ?_
        unfold crierref25_Shadow_All_j0
        dsimp only
        have e1 : listL (upto A (16 * d + e)) ++ [(d : Int), (e : Int), z] = listL (upto A (16 * d + ((e + 1 : Nat) : Int))) := by
          rw [show (16 : Int) * d + ((e + 1 : Nat) : Int) = 16 * d + e + 1 by omega, hnext, listL_append]
          simp only [listL, List.flatMap_cons, List.flatMap_nil, List.append_nil]
          rw [show ((16 : Int) * d + e) / 16 = d by omega, show ((16 : Int) * d + e) % 16 = e by omega]
        have e2 : (listL (upto A (16 * d + e))).length + 3 = (listL (upto A (16 * d + ((e + 1 : Nat) : Int)))).length := by rw [← e1]; simp
        dsimp only at H
        rw [e1, e2] at H
        rw [W_id (by omega) (by omega), e2]
        exact ⟨⟨_, ⟨p1, c1, e + 1, by omega, by push_cast; rfl, rfl⟩, H.drop (by repeat (first | exact Cut.nil | (apply Cut.cons; (repeat (first | exact Pick.here | apply Pick.there)))))⟩, by show (16 - ((e : Int) + 1)).toNat < (16 - (e : Int)).toNat; omega⟩
    · have hc2 := of_decide_eq_false hc2
      dsimp only at hc2
      have : e = 16 := by omega
      subst this
      dsimp only
      rw [W_id (by omega) (by omega)]
      have e3 : (16 : Int) * d + ((16 : Nat) : Int) = 16 * ((d + 1 : Nat) : Int) := by omega
      rw [e3] at H ⊢
      exact ⟨⟨_, ⟨p, c, d + 1, by omega, by push_cast; rfl, rfl⟩, H⟩, by show (32 - ((d : Int) + 1)).toNat < (32 - (d : Int)).toNat; omega⟩
  · have hc := of_decide_eq_false hc
    dsimp only at hc
    have : d = 32 := by omega
    subst this
    have e1 : upto A (16 * ((32 : Nat) : Int)) = A := by rw [show (16 : Int) * ((32 : Nat) : Int) = 512 by omega, h.upto_all]
    rw [e1] at H ⊢
    exact ⟨_, ⟨p, c, rfl, rfl⟩, H⟩
end Go.Proofs.Ytmobpenjbaaicaa
