/-
  shadow: what holds of a shadow behind any acts.
-/
import Derived.Test.YtmobpenjbaaicaaL6
namespace Go.Proofs.Ytmobpenjbaaicaa
open Go Go.RowKit X
set_option maxRecDepth 100000
set_option linter.unusedVariables false
/-- rows of numbers that rise -/
theorem up_len {lo hi : Int} : ∀ {xs : List Int}, xs.Pairwise (· < ·) → (∀ x ∈ xs, lo ≤ x ∧ x < hi) → (xs.length : Int) ≤ max (hi - lo) 0
  | [], _, _ => by simp; omega
  | x :: r, hs, h => by
    obtain ⟨h1, h2⟩ := List.pairwise_cons.1 hs
    have hx := h x List.mem_cons_self
    have := up_len (lo := x + 1) (hi := hi) h2 fun y hy => ⟨by have := h1 y hy; omega, (h y (List.mem_cons_of_mem _ hy)).2⟩
    simp only [List.length_cons]
    omega
theorem lb_split {xs : List Int} (hs : xs.Pairwise (· < ·)) (k : Int) : (∀ x ∈ xs.take (lb xs k), x < k) ∧ ∀ x ∈ xs.drop (lb xs k), k ≤ x := by
  constructor
  · intro x hx
    obtain ⟨t, ht⟩ := List.mem_iff_getElem?.1 hx
    rw [List.getElem?_take] at ht
    split at ht
    · exact lb_lt (by assumption) ht
    · cases ht
  · intro x hx
    obtain ⟨t, ht⟩ := List.mem_iff_getElem?.1 hx
    rw [List.getElem?_drop] at ht
    have := lb_ge (k := k) hs (by omega) ht
    omega
theorem lb_all {xs : List Int} (hs : xs.Pairwise (· < ·)) (h0 : ∀ x ∈ xs, 0 ≤ x) : ∀ {m : Nat}, (∀ j : Nat, j < m → (j : Int) ∈ xs) → m ≤ lb xs m
  | 0, _ => Nat.zero_le _
  | m + 1, h => by
    have ih := lb_all hs h0 (m := m) fun j hj => h j (by omega)
    have hm := h m (by omega)
    have h1 := lb_split hs (m : Int)
    have hd : (m : Int) ∈ xs.drop (lb xs m) := by
      rw [← List.take_append_drop (lb xs m) xs] at hm
      rcases List.mem_append.1 hm with h | h
      · have := h1.1 _ h; omega
      · exact h
    have hl : lb xs m < xs.length := by
      have := List.length_pos_of_mem hd
      rw [List.length_drop] at this; omega
    have : lb xs ((m + 1 : Nat) : Int) ≥ lb xs m + 1 := by
      by_cases hc : lb xs ((m + 1 : Nat) : Int) ≥ lb xs m + 1
      · exact hc
      · exfalso
        have h2 := lb_split hs ((m + 1 : Nat) : Int)
        obtain ⟨t, ht⟩ := List.mem_iff_getElem?.1 hd
        rw [List.getElem?_drop] at ht
        have h3 := lb_ge (k := ((m + 1 : Nat) : Int)) hs (t := lb xs m + t) (by omega) ht
        push_cast at h3
        omega
    omega
theorem lb_few {xs : List Int} (hs : xs.Pairwise (· < ·)) {many j : Int} (h0 : ∀ x ∈ xs, 0 ≤ x ∧ x < many) (hj : 0 ≤ j ∧ j < many) (hn : j ∉ xs) : (xs.length : Int) < many := by
  obtain ⟨h1, h2⟩ := lb_split hs j
  have e : xs.length = (xs.take (lb xs j)).length + (xs.drop (lb xs j)).length := by rw [← List.length_append, List.take_append_drop]
  have l1 := up_len (lo := 0) (hi := j) (hs.sublist (List.take_sublist (lb xs j) xs)) fun x hx => ⟨(h0 x (List.mem_of_mem_take hx)).1, h1 x hx⟩
  have l2 := up_len (lo := j + 1) (hi := many) (hs.sublist (List.drop_sublist (lb xs j) xs)) fun x hx => by
    have hm := List.mem_of_mem_drop hx
    have := h2 x hx
    have : x ≠ j := fun e => hn (e ▸ hm)
    exact ⟨by omega, (h0 x hm).2⟩
  omega
structure Inv (many : Int) (A B : List (Int × Int)) : Prop where
  upA : Up A
  upB : Up B
  iff : ∀ k n, lk A k = some n ↔ lk B n = some k
  rng : ∀ k n, lk A k = some n → 0 ≤ k ∧ k < 512 ∧ 0 ≤ n ∧ n < many
  len : A.length = B.length
  man : 0 ≤ many ∧ many ≤ 512
variable {many : Int} {A B : List (Int × Int)}
theorem ks_lk {kv : List (Int × Int)} (hs : Up kv) {k : Int} (h : k ∈ ks kv) : ∃ v, lk kv k = some v := by
  obtain ⟨x, hx, rfl⟩ := List.mem_map.1 h
  exact ⟨x.2, (lk_iff hs).2 hx⟩
theorem Inv.lenA (h : Inv many A B) : A.length ≤ 512 := by
  have := up_len (lo := 0) (hi := 512) h.upA fun k hk => by
    obtain ⟨v, hv⟩ := ks_lk h.upA hk
    have := h.rng _ _ hv; omega
  rw [ks_len] at this; omega
theorem Inv.keyB (h : Inv many A B) {n : Int} (hn : n ∈ ks B) : 0 ≤ n ∧ n < many := by
  obtain ⟨k, hk⟩ := ks_lk h.upB hn
  have := h.rng _ _ ((h.iff _ _).2 hk); omega
theorem Inv.valB (h : Inv many A B) {n : Int} (hn : hasK B n = true) : 0 ≤ getK B n ∧ getK B n < 512 := by
  have : lk B n = some (getK B n) := by rw [lk, hn, if_pos rfl]
  have := h.rng _ _ ((h.iff _ _).2 this); omega
theorem Inv.lenB (h : Inv many A B) : (B.length : Int) ≤ many := by
  have := up_len (lo := 0) (hi := many) h.upB fun k hk => h.keyB hk
  have := h.man
  rw [ks_len] at *; omega
theorem Inv.new (h : 0 ≤ many ∧ many ≤ 512) : Inv many [] [] := by
  have e : ∀ k, lk [] k = none := fun k => by simp [lk, hasK, ks]
  exact ⟨List.Pairwise.nil, List.Pairwise.nil, fun k n => by rw [e, e]; simp, fun k n hh => (by rw [e] at hh; cases hh), rfl, h⟩
theorem least_ex (h : Inv many A B) : ∃ m : Nat, (m : Int) ≤ many ∧ Least B m := by
  have hm := h.man
  have h1 : hasK B ((many.toNat : Nat) : Int) = false := by
    cases hh : hasK B ((many.toNat : Nat) : Int)
    · rfl
    · have := h.keyB ((hasK_iff h.upB).1 hh); omega
  obtain ⟨m, h2, h3⟩ := least_of (p := fun m : Nat => hasK B m = false) ⟨many.toNat, h1⟩
  refine ⟨m, by have := h3 _ h1; omega, h2, fun j hj => ?_⟩
  cases hh : hasK B j
  · have := h3 j hh; omega
  · rfl
open Classical in
noncomputable def least (B : List (Int × Int)) : Nat := if h : ∃ m, Least B m then h.choose else 0
theorem least_is (h : Inv many A B) : Least B (least B) ∧ (least B : Int) ≤ many := by
  obtain ⟨m, h1, h2⟩ := least_ex h
  have hx : ∃ m, Least B m := ⟨m, h2⟩
  have h3 : Least B (least B) := by unfold least; rw [dif_pos hx]; exact hx.choose_spec
  refine ⟨h3, ?_⟩
  have : least B ≤ m := by
    rcases Nat.lt_or_ge m (least B) with hlt | hge
    · have := h3.2 m hlt; rw [h2.1] at this; cases this
    · exact hge
  omega
noncomputable def bindR (many : Int) (A B : List (Int × Int)) (d e : Int) := bindM many A B d e (least B)
theorem bind_i (h : Inv many A B) (b n k : Nat) (d e : Int) :
    Tri P F.shadow_Shadow_Bind [bptr b, evV d e] (shL b n k many A B) fun v L' => v = .tuple [.int .i64 (bindR many A B d e).1.1, .int .i64 (bindR many A B d e).1.2].toArray ∧ L' = shL b n k many (bindR many A B d e).2.1 (bindR many A B d e).2.2 := by
  have hA := h.lenA
  have hl := h.len
  have hm := h.man
  have hle := (least_is h)
  exact bind_t b n k many A B d e (by omega) (by omega) _ (by omega) hle.1
/-- a new pair -/
theorem Inv.put (h : Inv many A B) {k : Int} (hk : 0 ≤ k ∧ k < 512) (hA : hasK A k = false) (hl : (least B : Int) < many) : Inv many (putK A k (least B)) (putK B (least B) k) := by
  have hle := (least_is h)
  have hB := hle.1.1
  refine ⟨putK_up h.upA, putK_up h.upB, fun k' n' => ?_, fun k' n' => ?_, ?_, h.man⟩
  · rw [lk_put h.upA hA, lk_put h.upB hB]
    have e1 : lk A k = none := by rw [lk, hA]; rfl
    have e2 : lk B (least B) = none := by rw [lk, hB]; rfl
    by_cases c1 : k' = k
    · subst c1
      rw [if_pos rfl]
      by_cases c2 : n' = least B
      · subst c2; rw [if_pos rfl]; simp
      · rw [if_neg c2, ← h.iff, e1]
        constructor
        · intro hh; cases hh; exact absurd rfl c2
        · intro hh; cases hh
    · rw [if_neg c1]
      by_cases c2 : n' = least B
      · subst c2
        rw [if_pos rfl, h.iff, e2]
        constructor
        · intro hh; cases hh
        · intro hh; cases hh; exact absurd rfl c1
      · rw [if_neg c2]; exact h.iff _ _
  · rw [lk_put h.upA hA]
    by_cases c1 : k' = k
    · subst c1
      rw [if_pos rfl]
      intro hh; cases hh
      omega
    · rw [if_neg c1]; exact h.rng _ _
  · rw [putK_len hA, putK_len hB, h.len]
theorem Inv.take (h : Inv many A B) {k : Int} (hA : hasK A k = true) : Inv many (takeK A k) (takeK B (getK A k)) := by
  have e1 : lk A k = some (getK A k) := by rw [lk, hA, if_pos rfl]
  have e2 := (h.iff _ _).1 e1
  have hB : hasK B (getK A k) = true := by rw [hasK_lk, e2]; rfl
  refine ⟨takeK_up h.upA, takeK_up h.upB, fun k' n' => ?_, fun k' n' => ?_, ?_, h.man⟩
  · rw [lk_take h.upA, lk_take h.upB]
    by_cases c1 : k' = k
    · subst c1
      rw [if_pos rfl]
      by_cases c2 : n' = getK A k'
      · subst c2; rw [if_pos rfl]
        constructor <;> (intro hh; cases hh)
      · rw [if_neg c2, ← h.iff, e1]
        constructor
        · intro hh; cases hh
        · intro hh; cases hh; exact absurd rfl c2
    · rw [if_neg c1]
      by_cases c2 : n' = getK A k
      · subst c2
        rw [if_pos rfl, h.iff, e2]
        constructor
        · intro hh; cases hh; exact absurd rfl c1
        · intro hh; cases hh
      · rw [if_neg c2]; exact h.iff _ _
  · rw [lk_take h.upA]
    by_cases c1 : k' = k
    · subst c1; rw [if_pos rfl]; intro hh; cases hh
    · rw [if_neg c1]; exact h.rng _ _
  · have := takeK_len hA
    have := takeK_len hB
    have := h.len
    omega
theorem Inv.bind (h : Inv many A B) (d e : Int) : Inv many (bindR many A B d e).2.1 (bindR many A B d e).2.2 := by
  unfold bindR bindM
  split
  · exact h
  · rename_i hm
    split
    · exact h
    · rename_i hA
      split
      · exact h
      · have hm := mayB_iff.1 (by simpa using hm)
        have hk := keyI_may (mayB_iff.2 hm)
        exact h.put (by omega) (by simpa using hA) (by omega)
theorem Inv.free (h : Inv many A B) (d e : Int) : Inv many (freeM A B d e).2.1 (freeM A B d e).2.2 := by
  unfold freeM
  split
  · exact h
  · split
    · exact h
    · rename_i hA; exact h.take (by simpa using hA)
/-- whether all numbers are given -/
theorem Inv.full (h : Inv many A B) : many ≤ (least B : Int) ↔ (A.length : Int) = many := by
  have hle := (least_is h)
  have hlb := h.lenB
  have hl := h.len
  constructor
  · intro hh
    have hall := lb_all (xs := ks B) h.upB (fun x hx => (h.keyB hx).1) (m := least B) fun j hj => (hasK_iff h.upB).1 (hle.1.2 j hj)
    have := lb_le (k := (least B : Int)) (ks B)
    rw [ks_len] at this
    omega
  · intro hh
    rcases Int.lt_or_le (least B : Int) many with hlt | hge
    · have := lb_few (xs := ks B) h.upB (fun x hx => h.keyB hx) (j := least B) ⟨by omega, hlt⟩ fun hm => by
        have := (hasK_iff h.upB).2 hm; rw [hle.1.1] at this; cases this
      rw [ks_len] at this
      omega
    · exact hge
end Go.Proofs.Ytmobpenjbaaicaa
