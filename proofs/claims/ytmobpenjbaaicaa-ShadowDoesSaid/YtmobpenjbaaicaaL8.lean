/-
  shadow: the reference.
-/
import Derived.Test.YtmobpenjbaaicaaL7
import Derived.Test.YtmobpenjbaaicaaK11
namespace Go.Proofs.Ytmobpenjbaaicaa
open Go Go.RowKit X
set_option maxRecDepth 100000
set_option linter.unusedVariables false
set_option maxHeartbeats 1000000
abbrev refRows (b : Nat) (R : List (Int × Int)) (a : (Option Addr × Nat) × (Option Addr × Nat)) : List It := [row b [.slice a.1.1 R.length a.1.2, .slice a.2.1 R.length a.2.2] T.t61, own tInt 1 (.slice a.1.1 R.length a.1.2) R.length (i64s (ks R)), own tInt 1 (.slice a.2.1 R.length a.2.2) R.length (i64s (vs R))]
def refI (b : Nat) (R : List (Int × Int)) : It := exI (fun a : (Option Addr × Nat) × (Option Addr × Nat) => R.length ≤ 512) (refRows b R)
section
variable {w w0 : World} {S0 : Nat → Prop}
theorem ref_open {L F : List It} {b : Nat} {R : List (Int × Int)} (H : X.Own w0 S0 L w) (hp : Pick L (refI b R) F) : ∃ p c q c2, R.length ≤ 512 ∧ X.Own w0 S0 (refRows b R ((p, c), (q, c2)) ++ F) w := by
  obtain ⟨⟨⟨p, c⟩, q, c2⟩, h2, H⟩ := ex_open H hp
  exact ⟨p, c, q, c2, h2, H⟩
theorem ref_shut {F : List It} {b c c2 : Nat} {p q : Option Addr} {R : List (Int × Int)} (H : X.Own w0 S0 (refRows b R ((p, c), (q, c2)) ++ F) w) (h2 : R.length ≤ 512) : X.Own w0 S0 (refI b R :: F) w :=
  ex_shut (f := refRows b R) ((p, c), (q, c2)) h2 H
end
theorem may_ref_t (d e : Int) : Tri P F.crierref25_May [.int .i64 d, .int .i64 e] [] fun v L' => v = .bool (mayB d e) ∧ L' = [] := by
  intro w S hS
  refine crierref25_May_cv ?_
  unfold crierref25_May
  have H := Own.start hS
  refine join_o ?_
  have fin : ∀ x, x = mayB d e → crierref25_May_j0 (fun v w' => ∃ L', (v = .bool (mayB d e) ∧ L' = []) ∧ X.Own w S L' w') x w := by
    rintro _ rfl
    unfold crierref25_May_j0
    exact ⟨_, ⟨rfl, rfl⟩, H⟩
  have e1 : decide (d ≤ 31) = decide (d < 32) := by rw [Bool.eq_iff_iff]; simp; omega
  have e2 : decide (e ≤ 15) = decide (e < 16) := by rw [Bool.eq_iff_iff]; simp; omega
  rw [e1, e2]
  refine cnd_i (fun h1 => (cnd_i (fun h2 => cnd_i (fun h3 => fin _ ?_) fun h3 => fin _ ?_) fun h2 => fin _ ?_)) fun h1 => fin _ ?_
  · simp only [mayB, h1, h2, h3, Bool.true_and]
  · simp only [mayB, h1, h2, h3, Bool.true_and, Bool.false_and]
  · simp only [mayB, h1, h2, Bool.true_and, Bool.false_and]
  · simp only [mayB, h1, Bool.false_and]
/-- the first place of a row where it holds; -1: none -/
def FindS (R : List (Int × Int)) (p : Int × Int → Prop) (i : Int) : Prop := (∃ t : Nat, i = t ∧ (∃ x, R[t]? = some x ∧ p x) ∧ ∀ s, s < t → ∀ x, R[s]? = some x → ¬ p x) ∨ (i = -1 ∧ ∀ x ∈ R, ¬ p x)
theorem ks_get {R : List (Int × Int)} {t : Nat} {x : Int × Int} (h : R[t]? = some x) : (ks R)[t]? = some x.1 := by simp [ks, h]
theorem vs_get {R : List (Int × Int)} {t : Nat} {x : Int × Int} (h : R[t]? = some x) : (vs R)[t]? = some x.2 := by simp [vs, h]
theorem find_ref_t (b : Nat) (R : List (Int × Int)) (d e : Int) : Tri P F.crierref25_Shadow_Find [bptr b, .int .i64 d, .int .i64 e] [refI b R] fun v L' => ∃ n, v = .int .i64 n ∧ FindS R (fun x => mayB d e = true ∧ x = (d, e)) n ∧ L' = [refI b R] := by
  intro w S hS
  refine crierref25_Shadow_Find_cv ?_
  unfold crierref25_Shadow_Find
  have H := Own.start hS
  obtain ⟨p, c, q, c2, h2, H⟩ := ref_open H .here
  refine loop_o (fun (st : Int) L => ∃ i : Nat, i ≤ R.length ∧ st = i ∧ (∀ s, s < i → ∀ x, R[s]? = some x → ¬ (mayB d e = true ∧ x = (d, e))) ∧ L = refRows b R ((p, c), (q, c2))) (fun (st : Int) => ((R.length : Int) - st).toNat) H ⟨0, by omega, rfl, fun s hs => by omega, rfl⟩ ?_
  rintro _ _ wx ⟨i, hi, rfl, hno, rfl⟩ H
  unfold crierref25_Shadow_Find_l1
  dsimp only [nn]
  repeat (first | refine ldI_o H (by repeat (first | exact Pick.here | apply Pick.there)) (by rfl) ?_ | refine ldL_o H (by repeat (first | exact Pick.here | apply Pick.there)) (by rfl) ?_ | refine ldB_o H (by repeat (first | exact Pick.here | apply Pick.there)) (by rfl) ?_ | refine ldP_o H (by repeat (first | exact Pick.here | apply Pick.there)) (by rfl) ?_ | refine ldS_o H (by repeat (first | exact Pick.here | apply Pick.there)) (by rfl) ?_)
  refine cnd_i (fun hc => ?_) fun hc => ?_
  · have hc := of_decide_eq_true hc
    have hl : i < R.length := by omega
    obtain ⟨x, hx⟩ : ∃ x, R[i]? = some x := ⟨_, List.getElem?_eq_getElem hl⟩
    refine join_o ?_
    refine call_p H (may_ref_t d e) (by repeat (first | exact Cut.nil | (apply Cut.cons; (repeat (first | exact Pick.here | apply Pick.there))))) fun wx H => ?_
    refine ⟨_, rfl, ?_⟩
    have fin : ∀ (bo : Bool), (bo = true ↔ mayB d e = true ∧ x = (d, e)) → crierref25_Shadow_Find_j0 (fun v w' => ∃ L', (∃ n, v = .int .i64 n ∧ FindS R (fun x => mayB d e = true ∧ x = (d, e)) n ∧ L' = [refI b R]) ∧ X.Own w S L' w') (i : Int) (fun (s' : Int) w' =>
        (∃ L', (∃ i : Nat, i ≤ R.length ∧ s' = i ∧ (∀ s, s < i → ∀ x, R[s]? = some x → ¬ (mayB d e = true ∧ x = (d, e))) ∧ L' = refRows b R ((p, c), (q, c2))) ∧ X.Own w S L' w') ∧ ((R.length : Int) - s').toNat < ((R.length : Int) - (i : Int)).toNat) bo wx := by
      intro bo hb
      unfold crierref25_Shadow_Find_j0
      refine cnd_i (fun h => ?_) fun h => ?_
      · exact ⟨_, ⟨i, rfl, .inl ⟨i, rfl, ⟨x, hx, hb.1 h⟩, hno⟩, rfl⟩, ref_shut H h2⟩
      · have hnb : ¬ (mayB d e = true ∧ x = (d, e)) := fun hh => by rw [hb.2 hh] at h; cases h
        rw [W_id (by omega) (by omega)]
        refine ⟨⟨_, ⟨i + 1, by omega, by push_cast; rfl, fun s hs y hy => ?_, rfl⟩, H⟩, by omega⟩
        by_cases e1 : s = i
        · subst e1; rw [hx] at hy; cases hy; exact hnb
        · exact hno s (by omega) y hy
    refine cnd_i (fun hm => ?_) fun hm => fin _ ?_
    · repeat (first | refine ldI_o H (by repeat (first | exact Pick.here | apply Pick.there)) (by rfl) ?_ | refine ldL_o H (by repeat (first | exact Pick.here | apply Pick.there)) (by rfl) ?_ | refine ldB_o H (by repeat (first | exact Pick.here | apply Pick.there)) (by rfl) ?_ | refine ldP_o H (by repeat (first | exact Pick.here | apply Pick.there)) (by rfl) ?_ | refine ldS_o H (by repeat (first | exact Pick.here | apply Pick.there)) (by rfl) ?_)
      refine rd_n H (by repeat (first | exact Pick.here | apply Pick.there)) (ks_get hx) ?_
      refine cnd_i (fun h1 => ?_) fun h1 => fin _ ?_
      · repeat (first | refine ldI_o H (by repeat (first | exact Pick.here | apply Pick.there)) (by rfl) ?_ | refine ldL_o H (by repeat (first | exact Pick.here | apply Pick.there)) (by rfl) ?_ | refine ldB_o H (by repeat (first | exact Pick.here | apply Pick.there)) (by rfl) ?_ | refine ldP_o H (by repeat (first | exact Pick.here | apply Pick.there)) (by rfl) ?_ | refine ldS_o H (by repeat (first | exact Pick.here | apply Pick.there)) (by rfl) ?_)
        refine rd_n H (by repeat (first | exact Pick.here | apply Pick.there)) (vs_get hx) ?_
        refine fin _ ?_
        have h1 : x.1 = d := by simpa using h1
        obtain ⟨x1, x2⟩ := x
        simp only at h1
        subst h1
        simp [hm]
      · have h1 : ¬ x.1 = d := by simpa using h1
        simp only [Bool.false_eq_true, false_iff]
        rintro ⟨_, rfl⟩
        exact h1 rfl
    · simp [hm]
  · have hc := of_decide_eq_false hc
    have : i = R.length := by omega
    subst this
    refine ⟨_, ⟨-1, rfl, .inr ⟨rfl, fun x hx => ?_⟩, rfl⟩, ref_shut H h2⟩
    obtain ⟨t, ht⟩ := List.mem_iff_getElem?.1 hx
    exact hno t (List.getElem?_eq_some_iff.1 ht).1 x ht
/-- what the reference holds, out of the program's books -/
def cellOf (B : List (Int × Int)) (i : Int) : Int × Int := match lk B i with | some k => (k / 16, k % 16) | none => (-1, -1)
def refOf (many : Int) (B : List (Int × Int)) : List (Int × Int) := (List.range many.toNat).map fun i : Nat => cellOf B i
theorem refOf_len (many : Int) (B : List (Int × Int)) : (refOf many B).length = many.toNat := by simp [refOf]
theorem refOf_get {many : Int} (B : List (Int × Int)) {t : Nat} (h : (t : Int) < many) : (refOf many B)[t]? = some (cellOf B t) := by
  unfold refOf
  rw [List.getElem?_map, List.getElem?_range (by omega)]; rfl
variable {many : Int} {A B : List (Int × Int)}
theorem refOf_some {t : Nat} {x : Int × Int} (h : (refOf many B)[t]? = some x) : (t : Int) < many ∧ x = cellOf B t := by
  have hl := (List.getElem?_eq_some_iff.1 h).1
  rw [refOf_len] at hl
  have hlt : (t : Int) < many := by omega
  rw [refOf_get B hlt] at h
  exact ⟨hlt, by cases h; rfl⟩
/-- an event's number, as the reference finds it -/
def findR (A : List (Int × Int)) (d e : Int) : Int := if mayB d e = true ∧ hasK A (keyI d e) = true then getK A (keyI d e) else -1
theorem Inv.find (h : Inv many A B) {d e n : Int} (hf : FindS (refOf many B) (fun x => mayB d e = true ∧ x = (d, e)) n) : n = findR A d e := by
  unfold findR
  by_cases hm : mayB d e = true
  · have hk := keyI_may hm
    have hb := mayB_iff.1 hm
    have key : ∀ (t : Nat), (t : Int) < many → (cellOf B t = (d, e) ↔ lk A (keyI d e) = some (t : Int)) := by
      intro t ht
      rw [h.iff]
      unfold cellOf
      cases hB : lk B t with
      | none => simp; omega
      | some k =>
        have := h.rng _ _ ((h.iff _ _).2 hB)
        simp only [Prod.mk.injEq, Option.some.injEq]
        rw [hk]
        omega
    rcases hf with ⟨t, rfl, ⟨x, hx, _, rfl⟩, _⟩ | ⟨rfl, hno⟩
    · obtain ⟨hlt, hc⟩ := refOf_some hx
      have := (key t hlt).1 hc.symm
      rw [hasK_lk, getK_lk, this]
      simp [hm]
    · split
      · rename_i hh
        exfalso
        have hA : lk A (keyI d e) = some (getK A (keyI d e)) := by rw [lk, hh.2, if_pos rfl]
        have hr := h.rng _ _ hA
        have h1 : ((getK A (keyI d e)).toNat : Int) = getK A (keyI d e) := by omega
        have hlt : ((getK A (keyI d e)).toNat : Int) < many := by omega
        exact hno _ (List.mem_of_getElem? (refOf_get B hlt)) ⟨hm, (key _ hlt).2 (by rw [hA, h1])⟩
      · rfl
  · rw [if_neg (fun hh => hm hh.1)]
    rcases hf with ⟨t, rfl, ⟨x, _, hm', _⟩, _⟩ | ⟨rfl, _⟩
    · exact absurd hm' hm
    · rfl
theorem find_i (h : Inv many A B) (b : Nat) (d e : Int) : Tri P F.crierref25_Shadow_Find [bptr b, .int .i64 d, .int .i64 e] [refI b (refOf many B)] fun v L' => v = .int .i64 (findR A d e) ∧ L' = [refI b (refOf many B)] := by
  intro w S hS
  refine (find_ref_t b _ d e w S hS).mono ?_
  rintro _ w' ⟨L', ⟨n, rfl, hf, rfl⟩, H⟩
  exact ⟨_, ⟨by rw [h.find hf], rfl⟩, H⟩
theorem refOf_put (h : Inv many A B) {n : Nat} {d e : Int} (hm : mayB d e = true) (hn : hasK B n = false) (hl : (n : Int) < many) : refOf many (putK B n (keyI d e)) = (refOf many B).set n (d, e) := by
  refine List.ext_getElem? fun t => ?_
  have hk := keyI_may hm
  have hb := mayB_iff.1 hm
  by_cases ht : (t : Int) < many
  · rw [refOf_get _ ht, List.getElem?_set, refOf_get _ ht, refOf_len]
    unfold cellOf
    rw [lk_put h.upB hn]
    by_cases e1 : n = t
    · subst e1
      rw [if_pos rfl, if_pos rfl, if_pos (by omega)]
      simp only [Option.some.injEq, Prod.mk.injEq]
      omega
    · rw [if_neg (by omega), if_neg e1]
  · rw [List.getElem?_eq_none (by rw [refOf_len]; omega), List.getElem?_eq_none (by rw [List.length_set, refOf_len]; omega)]
theorem refOf_take (h : Inv many A B) {n : Nat} (hl : (n : Int) < many) : refOf many (takeK B n) = (refOf many B).set n (-1, -1) := by
  refine List.ext_getElem? fun t => ?_
  by_cases ht : (t : Int) < many
  · rw [refOf_get _ ht, List.getElem?_set, refOf_get _ ht, refOf_len]
    unfold cellOf
    rw [lk_take h.upB]
    by_cases e1 : n = t
    · subst e1
      rw [if_pos rfl, if_pos rfl, if_pos (by omega)]
    · rw [if_neg (by omega), if_neg e1]
  · rw [List.getElem?_eq_none (by rw [refOf_len]; omega), List.getElem?_eq_none (by rw [List.length_set, refOf_len]; omega)]
theorem ks_set (R : List (Int × Int)) (t : Nat) (x : Int × Int) : ks (R.set t x) = (ks R).set t x.1 := by simp [ks]
theorem vs_set (R : List (Int × Int)) (t : Nat) (x : Int × Int) : vs (R.set t x) = (vs R).set t x.2 := by simp [vs]
theorem ref_bind_t (h : Inv many A B) (b : Nat) (d e : Int) : Tri P F.crierref25_Shadow_Bind [bptr b, .int .i64 d, .int .i64 e] [refI b (refOf many B)] fun v L' => v = .tuple [.int .i64 (bindR many A B d e).1.1, .int .i64 (bindR many A B d e).1.2].toArray ∧ L' = [refI b (refOf many (bindR many A B d e).2.2)] := by
  intro w S hS
  refine crierref25_Shadow_Bind_cv ?_
  unfold crierref25_Shadow_Bind bindR bindM
  have H := Own.start hS
  refine call_p H (may_ref_t d e) (by repeat (first | exact Cut.nil | (apply Cut.cons; (repeat (first | exact Pick.here | apply Pick.there))))) fun wx H => ?_
  refine ⟨_, rfl, ?_⟩
  cases hm : mayB d e
  · exact cnd_i (fun _ => ⟨_, ⟨rfl, rfl⟩, H⟩) (fun h => by cases h)
  refine cnd_i (fun h => by cases h) fun _ => ?_
  simp only [Bool.true_eq_false, if_false]
  refine call_p H (find_i h b d e) (by repeat (first | exact Cut.nil | (apply Cut.cons; (repeat (first | exact Pick.here | apply Pick.there))))) fun wx H => ?_
  refine ⟨_, rfl, ?_⟩
  unfold findR
  have hman := h.man
  have hle := least_is h
  cases hh : hasK A (keyI d e)
  · simp only [hm, Bool.false_eq_true, and_false, if_false]
    refine cnd_i (fun hc => absurd (of_decide_eq_true hc) (by omega)) fun _ => ?_
    obtain ⟨p, c, q, c2, h2, H⟩ := ref_open H .here
    refine loop_o (fun (st : Int) L => ∃ i : Nat, i ≤ least B ∧ st = i ∧ L = refRows b (refOf many B) ((p, c), (q, c2))) (fun (st : Int) => ((many : Int) - st).toNat) H ⟨0, by omega, rfl, rfl⟩ ?_
    rintro _ _ wx ⟨i, hi, rfl, rfl⟩ H
    unfold crierref25_Shadow_Bind_l0
    dsimp only [nn]
    repeat (first | refine ldI_o H (by repeat (first | exact Pick.here | apply Pick.there)) (by rfl) ?_ | refine ldL_o H (by repeat (first | exact Pick.here | apply Pick.there)) (by rfl) ?_ | refine ldB_o H (by repeat (first | exact Pick.here | apply Pick.there)) (by rfl) ?_ | refine ldP_o H (by repeat (first | exact Pick.here | apply Pick.there)) (by rfl) ?_ | refine ldS_o H (by repeat (first | exact Pick.here | apply Pick.there)) (by rfl) ?_)
    rw [refOf_len]
    refine cnd_i (fun hc => ?_) fun hc => ?_
    · have hc := of_decide_eq_true hc
      have hlt : (i : Int) < many := by omega
      have hx := refOf_get B hlt
      repeat (first | refine ldI_o H (by repeat (first | exact Pick.here | apply Pick.there)) (by rfl) ?_ | refine ldL_o H (by repeat (first | exact Pick.here | apply Pick.there)) (by rfl) ?_ | refine ldB_o H (by repeat (first | exact Pick.here | apply Pick.there)) (by rfl) ?_ | refine ldP_o H (by repeat (first | exact Pick.here | apply Pick.there)) (by rfl) ?_ | refine ldS_o H (by repeat (first | exact Pick.here | apply Pick.there)) (by rfl) ?_)
      refine rd_n H (by repeat (first | exact Pick.here | apply Pick.there)) (ks_get hx) ?_
      by_cases hil : i < least B
      · have h1 := hle.1.2 i hil
        refine cnd_i (fun hc => ?_) fun _ => ?_
        · exfalso
          have hc := of_decide_eq_true hc
          unfold cellOf at hc
          have hl : lk B i = some (getK B i) := by rw [lk, h1, if_pos rfl]
          have := h.valB h1
          rw [hl] at hc
          simp only at hc
          omega
        · rw [W_id (by omega) (by omega)]
          exact ⟨⟨_, ⟨i + 1, by omega, by push_cast; rfl, rfl⟩, H⟩, by omega⟩
      · have : i = least B := by omega
        subst this
        have hn := hle.1.1
        have hcell : cellOf B (least B) = (-1, -1) := by unfold cellOf; rw [lk, hn]; rfl
        rw [hcell]
        refine cnd_i (fun _ => ?_) fun hc => absurd (of_decide_eq_false hc) (by omega)
        have hlen : least B < (refOf many B).length := by rw [refOf_len]; omega
        repeat (first | refine ldI_o H (by repeat (first | exact Pick.here | apply Pick.there)) (by rfl) ?_ | refine ldL_o H (by repeat (first | exact Pick.here | apply Pick.there)) (by rfl) ?_ | refine ldB_o H (by repeat (first | exact Pick.here | apply Pick.there)) (by rfl) ?_ | refine ldP_o H (by repeat (first | exact Pick.here | apply Pick.there)) (by rfl) ?_ | refine ldS_o H (by repeat (first | exact Pick.here | apply Pick.there)) (by rfl) ?_)
        refine st_n H (by repeat (first | exact Rep.here | apply Rep.there)) (show _ < (ks _).length by rw [ks_len]; exact hlen) fun wx H => ?_
        repeat (first | refine ldI_o H (by repeat (first | exact Pick.here | apply Pick.there)) (by rfl) ?_ | refine ldL_o H (by repeat (first | exact Pick.here | apply Pick.there)) (by rfl) ?_ | refine ldB_o H (by repeat (first | exact Pick.here | apply Pick.there)) (by rfl) ?_ | refine ldP_o H (by repeat (first | exact Pick.here | apply Pick.there)) (by rfl) ?_ | refine ldS_o H (by repeat (first | exact Pick.here | apply Pick.there)) (by rfl) ?_)
        refine st_n H (by repeat (first | exact Rep.here | apply Rep.there)) (show _ < (vs _).length by rw [vs_len]; exact hlen) fun wx H => ?_
        rw [if_neg (by omega)]
        refine ⟨_, ⟨rfl, rfl⟩, ?_⟩
        have e1 := refOf_put h hm hn hlt
        refine ref_shut (p := p) (c := c) (q := q) (c2 := c2) ?_ (by rw [refOf_len]; omega)
        unfold refRows
        rw [e1, ks_set, vs_set, List.length_set]
        exact H
    · have hc := of_decide_eq_false hc
      rw [if_pos (by omega)]
      exact ⟨_, ⟨rfl, rfl⟩, ref_shut H h2⟩
  · simp only [hm, and_self, if_true]
    have hr : lk A (keyI d e) = some (getK A (keyI d e)) := by rw [lk, hh, if_pos rfl]
    have := h.rng _ _ hr
    refine cnd_i (fun _ => ⟨_, ⟨trivial, rfl⟩, H⟩) fun hc => absurd (of_decide_eq_false hc) (by omega)
theorem ref_free_t (h : Inv many A B) (b : Nat) (d e : Int) : Tri P F.crierref25_Shadow_Free [bptr b, .int .i64 d, .int .i64 e] [refI b (refOf many B)] fun v L' => v = .tuple [.int .i64 (freeM A B d e).1.1, .int .i64 (freeM A B d e).1.2].toArray ∧ L' = [refI b (refOf many (freeM A B d e).2.2)] := by
  intro w S hS
  refine crierref25_Shadow_Free_cv ?_
  unfold crierref25_Shadow_Free freeM
  have H := Own.start hS
  refine call_p H (may_ref_t d e) (by repeat (first | exact Cut.nil | (apply Cut.cons; (repeat (first | exact Pick.here | apply Pick.there))))) fun wx H => ?_
  refine ⟨_, rfl, ?_⟩
  cases hm : mayB d e
  · exact cnd_i (fun _ => ⟨_, ⟨rfl, rfl⟩, H⟩) (fun h => by cases h)
  refine cnd_i (fun h => by cases h) fun _ => ?_
  simp only [Bool.true_eq_false, if_false]
  refine call_p H (find_i h b d e) (by repeat (first | exact Cut.nil | (apply Cut.cons; (repeat (first | exact Pick.here | apply Pick.there))))) fun wx H => ?_
  refine ⟨_, rfl, ?_⟩
  unfold findR
  have hman := h.man
  cases hh : hasK A (keyI d e)
  · simp only [Bool.false_eq_true, and_false, if_false, if_true]
    exact cnd_i (fun _ => ⟨_, ⟨trivial, rfl⟩, H⟩) fun hc => absurd (of_decide_eq_false hc) (by omega)
  · simp only [hm, and_self, if_true, Bool.true_eq_false, if_false]
    have hr : lk A (keyI d e) = some (getK A (keyI d e)) := by rw [lk, hh, if_pos rfl]
    have := h.rng _ _ hr
    refine cnd_i (fun hc => absurd (of_decide_eq_true hc) (by omega)) fun _ => ?_
    generalize getK A (keyI d e) = n at *
    obtain ⟨n, rfl⟩ := Int.eq_ofNat_of_zero_le (show 0 ≤ n by omega)
    obtain ⟨p, c, q, c2, h2, H⟩ := ref_open H .here
    have hlen : n < (refOf many B).length := by rw [refOf_len]; omega
    dsimp only [nn]
    simp only [List.cons_append, List.nil_append] at H
    repeat (first | refine ldI_o H (by repeat (first | exact Pick.here | apply Pick.there)) (by rfl) ?_ | refine ldL_o H (by repeat (first | exact Pick.here | apply Pick.there)) (by rfl) ?_ | refine ldB_o H (by repeat (first | exact Pick.here | apply Pick.there)) (by rfl) ?_ | refine ldP_o H (by repeat (first | exact Pick.here | apply Pick.there)) (by rfl) ?_ | refine ldS_o H (by repeat (first | exact Pick.here | apply Pick.there)) (by rfl) ?_)
    refine st_n H (by repeat (first | exact Rep.here | apply Rep.there)) (show _ < (ks _).length by rw [ks_len]; exact hlen) fun wx H => ?_
    repeat (first | refine ldI_o H (by repeat (first | exact Pick.here | apply Pick.there)) (by rfl) ?_ | refine ldL_o H (by repeat (first | exact Pick.here | apply Pick.there)) (by rfl) ?_ | refine ldB_o H (by repeat (first | exact Pick.here | apply Pick.there)) (by rfl) ?_ | refine ldP_o H (by repeat (first | exact Pick.here | apply Pick.there)) (by rfl) ?_ | refine ldS_o H (by repeat (first | exact Pick.here | apply Pick.there)) (by rfl) ?_)
    refine st_n H (by repeat (first | exact Rep.here | apply Rep.there)) (show _ < (vs _).length by rw [vs_len]; exact hlen) fun wx H => ?_
    refine ⟨_, ⟨trivial, rfl⟩, ?_⟩
    have e1 := refOf_take h (n := n) (by omega)
    refine ref_shut (p := p) (c := c) (q := q) (c2 := c2) ?_ (by rw [refOf_len]; omega)
    unfold refRows
    rw [e1, ks_set, vs_set, List.length_set]
    exact H
end Go.Proofs.Ytmobpenjbaaicaa
