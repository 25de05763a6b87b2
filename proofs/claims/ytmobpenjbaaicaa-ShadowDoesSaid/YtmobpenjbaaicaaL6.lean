/-
  shadow: books as maps.
-/
import Derived.Test.YtmobpenjbaaicaaL5
namespace Go.Proofs.Ytmobpenjbaaicaa
open Go Go.RowKit X
set_option maxRecDepth 100000
set_option linter.unusedVariables false
theorem hasK_iff {kv : List (Int × Int)} {k : Int} (hs : (ks kv).Pairwise (· < ·)) : hasK kv k = true ↔ k ∈ ks kv := by
  unfold hasK
  rw [decide_eq_true_eq]
  constructor
  · exact List.mem_of_getElem?
  · intro h
    obtain ⟨t, ht⟩ := List.mem_iff_getElem?.1 h
    by_cases hn : (ks kv)[lb (ks kv) k]? = some k
    · exact hn
    · exfalso
      by_cases hlt : t < lb (ks kv) k
      · have := lb_lt hlt ht; omega
      · have := lb_gt (x := k) hs hn (List.mem_iff_getElem?.2 ⟨t - lb (ks kv) k, by rw [List.getElem?_drop, show lb (ks kv) k + (t - lb (ks kv) k) = t by omega]; exact ht⟩)
        omega
/-- what stands under a key -/
def lk (kv : List (Int × Int)) (k : Int) : Option Int := if hasK kv k then some (getK kv k) else none
theorem hasK_lk (kv : List (Int × Int)) (k : Int) : hasK kv k = (lk kv k).isSome := by unfold lk; cases hasK kv k <;> rfl
theorem getK_lk (kv : List (Int × Int)) (k : Int) : getK kv k = (lk kv k).getD 0 := by
  unfold lk
  cases h : hasK kv k
  · simp [getK, h]
  · rfl
abbrev Up (kv : List (Int × Int)) : Prop := (ks kv).Pairwise (· < ·)
theorem up_inj {kv : List (Int × Int)} (hs : Up kv) {i j : Nat} {k : Int} (hi : (ks kv)[i]? = some k) (hj : (ks kv)[j]? = some k) : i = j := by
  obtain ⟨h1, e1⟩ := List.getElem?_eq_some_iff.1 hi
  obtain ⟨h2, e2⟩ := List.getElem?_eq_some_iff.1 hj
  rcases Nat.lt_trichotomy i j with h | h | h
  · have := List.pairwise_iff_getElem.1 hs i j h1 h2 h; omega
  · exact h
  · have := List.pairwise_iff_getElem.1 hs j i h2 h1 h; omega
/-- a pair of the list is what stands there -/
theorem lk_iff {kv : List (Int × Int)} (hs : Up kv) {k v : Int} : lk kv k = some v ↔ (k, v) ∈ kv := by
  have key : ∀ {i : Nat} {k v : Int}, kv[i]? = some (k, v) → (ks kv)[i]? = some k ∧ (vs kv)[i]? = some v := by
    intro i k v h; simp [ks, vs, h]
  constructor
  · intro h
    unfold lk at h
    by_cases hh : hasK kv k = true
    · rw [if_pos hh] at h
      simp only [Option.some.injEq] at h
      have h1 : (ks kv)[at' kv k]? = some k := of_decide_eq_true hh
      have hl := (List.getElem?_eq_some_iff.1 h1).1
      rw [ks_len] at hl
      have h2 := key (List.getElem?_eq_getElem hl)
      have e1 : kv[at' kv k].1 = k := by have := h2.1.symm.trans h1; simpa using this
      have e2 : kv[at' kv k].2 = v := by
        rw [getK, hh, if_pos rfl, List.getD_eq_getElem?_getD, h2.2] at h
        exact h
      have : kv[at' kv k] = (k, v) := Prod.ext e1 e2
      rw [← this]; exact List.getElem_mem _
    · rw [if_neg hh] at h; cases h
  · intro h
    obtain ⟨i, hi⟩ := List.mem_iff_getElem?.1 h
    obtain ⟨h1, h2⟩ := key hi
    have hh := (hasK_iff hs).2 (List.mem_of_getElem? h1)
    have h3 : (ks kv)[at' kv k]? = some k := of_decide_eq_true hh
    have := up_inj hs h1 h3
    subst this
    unfold lk getK
    rw [hh, if_pos rfl, if_pos rfl, List.getD_eq_getElem?_getD, h2]; rfl
theorem mem_take_drop {α : Type} {l : List α} {i : Nat} {x y : α} (hy : l[i]? = some y) : x ∈ l ↔ x ∈ l.take i ∨ x = y ∨ x ∈ l.drop (i + 1) := by
  obtain ⟨hl, he⟩ := List.getElem?_eq_some_iff.1 hy
  have : l = l.take i ++ y :: l.drop (i + 1) := by
    rw [← he, ← List.drop_eq_getElem_cons hl, List.take_append_drop]
  conv => lhs; rw [this]
  simp [List.mem_append, List.mem_cons]
theorem putK_up {kv : List (Int × Int)} {k v : Int} (hs : Up kv) : Up (putK kv k v) := by
  cases h : hasK kv k
  · unfold Up; rw [(putK_new h).1]; exact ins_up hs (of_decide_eq_false h)
  · unfold Up; rw [(putK_old h).1]; exact hs
theorem takeK_up {kv : List (Int × Int)} {k : Int} (hs : Up kv) : Up (takeK kv k) := by
  cases h : hasK kv k
  · unfold takeK; rw [h]; exact hs
  · unfold Up; rw [(takeK_old h).1]; exact hs.sublist (List.eraseIdx_sublist _ _)
/-- a new pair -/
theorem putK_mem {kv : List (Int × Int)} {k v : Int} (h : hasK kv k = false) {x : Int × Int} : x ∈ putK kv k v ↔ x = (k, v) ∨ x ∈ kv := by
  unfold putK
  rw [h]
  simp only [Bool.false_eq_true, if_false, List.mem_append, List.mem_cons]
  conv => rhs; rhs; rw [← List.take_append_drop (at' kv k) kv, List.mem_append]
  constructor
  · rintro (h | h | h)
    · exact .inr (.inl h)
    · exact .inl h
    · exact .inr (.inr h)
  · rintro (h | h | h)
    · exact .inr (.inl h)
    · exact .inl h
    · exact .inr (.inr h)
theorem putK_len {kv : List (Int × Int)} {k v : Int} (h : hasK kv k = false) : (putK kv k v).length = kv.length + 1 := by
  have hile : at' kv k ≤ kv.length := by have := lb_le (k := k) (ks kv); rw [ks_len] at this; exact this
  unfold putK
  rw [h]
  simp
  omega
theorem lk_put {kv : List (Int × Int)} {k v : Int} (hs : Up kv) (h : hasK kv k = false) (k' : Int) : lk (putK kv k v) k' = if k' = k then some v else lk kv k' := by
  refine Option.ext fun z => ?_
  show lk _ _ = some z ↔ _ = some z
  rw [lk_iff (putK_up hs), putK_mem h]
  by_cases e : k' = k
  · subst e
    rw [if_pos rfl]
    constructor
    · rintro (h1 | h1)
      · cases h1; rfl
      · have := (lk_iff hs).2 h1
        rw [lk, h] at this; cases this
    · intro h1; cases h1; exact .inl rfl
  · rw [if_neg e, lk_iff hs]
    constructor
    · rintro (h1 | h1)
      · cases h1; exact absurd rfl e
      · exact h1
    · exact .inr
theorem takeK_len {kv : List (Int × Int)} {k : Int} (h : hasK kv k = true) : (takeK kv k).length + 1 = kv.length := by
  have h1 : (ks kv)[at' kv k]? = some k := of_decide_eq_true h
  have hl := (List.getElem?_eq_some_iff.1 h1).1
  rw [ks_len] at hl
  unfold takeK
  rw [h, if_pos rfl, List.length_eraseIdx, if_pos hl]; omega
theorem lk_take {kv : List (Int × Int)} {k : Int} (hs : Up kv) (k' : Int) : lk (takeK kv k) k' = if k' = k then none else lk kv k' := by
  cases h : hasK kv k
  · unfold takeK
    rw [h]
    by_cases e : k' = k
    · subst e; rw [if_pos rfl]; simp only [Bool.false_eq_true, if_false]; unfold lk; rw [h]; rfl
    · rw [if_neg e]; rfl
  · have h1 : (ks kv)[at' kv k]? = some k := of_decide_eq_true h
    have hl := (List.getElem?_eq_some_iff.1 h1).1
    have hl' := hl
    rw [ks_len] at hl
    have hk : kv[at' kv k].1 = k := by
      have := (List.getElem?_eq_some_iff.1 h1).2
      simpa [ks] using this
    refine Option.ext fun z => ?_
    show lk _ _ = some z ↔ _ = some z
    rw [lk_iff (takeK_up hs)]
    have hm : (k', z) ∈ kv ↔ _ := mem_take_drop (i := at' kv k) (List.getElem?_eq_getElem hl)
    have hm2 : (k', z) ∈ takeK kv k ↔ (k', z) ∈ kv.take (at' kv k) ∨ (k', z) ∈ kv.drop (at' kv k + 1) := by
      unfold takeK; rw [h, if_pos rfl, List.eraseIdx_eq_take_drop_succ, List.mem_append]
    rw [hm2]
    have hne : (k', z) ∈ kv.take (at' kv k) ∨ (k', z) ∈ kv.drop (at' kv k + 1) → k' ≠ k := by
      rintro (h2 | h2) rfl
      · obtain ⟨t, ht⟩ := List.mem_iff_getElem?.1 h2
        rw [List.getElem?_take] at ht
        split at ht
        · have : (ks kv)[t]? = some k' := by simp [ks, ht]
          have := up_inj hs this h1
          omega
        · cases ht
      · obtain ⟨t, ht⟩ := List.mem_iff_getElem?.1 h2
        rw [List.getElem?_drop] at ht
        have : (ks kv)[at' kv k' + 1 + t]? = some k' := by simp [ks, ht]
        have := up_inj hs this h1
        omega
    by_cases e : k' = k
    · rw [if_pos e]
      exact ⟨fun h2 => absurd e (hne h2), fun h2 => by cases h2⟩
    · rw [if_neg e, lk_iff hs, hm]
      constructor
      · rintro (h2 | h2)
        · exact .inl h2
        · exact .inr (.inr h2)
      · rintro (h2 | h2 | h2)
        · exact .inl h2
        · exact absurd (by rw [← hk, ← h2]) e
        · exact .inr h2
theorem lk_ext {a b : List (Int × Int)} (ha : Up a) (hb : Up b) (h : ∀ k, lk a k = lk b k) : a = b := by
  have hm : ∀ x, x ∈ a ↔ x ∈ b := fun ⟨k, v⟩ => by rw [← lk_iff ha, ← lk_iff hb, h]
  have up' : ∀ {l : List (Int × Int)}, Up l → l.Pairwise (fun x y => x.1 < y.1) := fun h => by
    unfold Up ks at h; rwa [List.pairwise_map] at h
  have hp : a.Perm b := (List.perm_ext_iff_of_nodup ((up' ha).imp fun h e => by rw [e] at h; omega) ((up' hb).imp fun h e => by rw [e] at h; omega)).2 hm
  exact List.Perm.eq_of_pairwise (le := fun x y => x.1 < y.1) (fun x y _ _ h1 h2 => by exfalso; omega) (up' ha) (up' hb) hp
end Go.Proofs.Ytmobpenjbaaicaa
