/-
  sets: a set hangs on its members alone; two sets' members counted; two sets joined.
-/
import Derived.Test.YtlccemphlinecaaDoorL5
namespace Go.Proofs.YtlccemphlinecaaDoor
open Go Go.RowKit X
set_option maxRecDepth 100000
set_option linter.unusedVariables false
theorem nil_sl {i : It} : ∀ w S, i.h w S → Sl w none (i64s []) := fun w S _ j u hj => by cases hj
theorem natI_inj {a b : List Nat} : natI a = natI b ↔ a = b := by
  constructor
  · intro h
    apply List.ext_getElem?
    intro k
    have := congrArg (fun l => l[k]?) h
    simp only [natI, List.getElem?_map] at this
    cases h1 : a[k]? <;> cases h2 : b[k]? <;> rw [h1, h2] at this <;> simp at this ⊢
    exact Int.ofNat_inj.1 this
  · rintro rfl; rfl
theorem count_union {a b : List Nat} (ha : Up a) (hb : Up b) : (unionL a b).length + (meetL a b).length = a.length + b.length ∧ (lessL a b).length + (meetL a b).length = a.length := by
  have e2 : (lessL a b).length + (meetL a b).length = a.length := by
    unfold lessL meetL
    induction a with
    | nil => rfl
    | cons x r ih =>
      have := ih (List.pairwise_cons.1 ha).2
      simp only [List.filter_cons, List.length_cons]
      cases h : b.contains x <;> simp only [Bool.not_true, Bool.not_false, Bool.false_eq_true, if_true, if_false, List.length_cons] <;> omega
  refine ⟨?_, e2⟩
  have hperm : (unionL a b).Perm (lessL a b ++ b) := by
    refine (List.perm_ext_iff_of_nodup ((unionL_up b ha).imp Nat.ne_of_lt) ?_).2 fun x => ?_
    · refine List.nodup_append.2 ⟨(List.Pairwise.filter _ ha).imp Nat.ne_of_lt, hb.imp Nat.ne_of_lt, ?_⟩
      intro x hx y hy e
      subst e
      simp only [lessL, List.mem_filter, Bool.not_eq_true', List.contains_eq_mem, decide_eq_false_iff_not] at hx
      exact hx.2 hy
    · rw [mem_unionL, List.mem_append]
      simp only [lessL, List.mem_filter, Bool.not_eq_true', List.contains_eq_mem, decide_eq_false_iff_not]
      constructor
      · rintro (h | h)
        · by_cases hx : x ∈ b
          · exact .inr hx
          · exact .inl ⟨h, hx⟩
        · exact .inr h
      · rintro (h | h)
        · exact .inl h.1
        · exact .inr h
  have := hperm.length_eq
  rw [List.length_append] at this
  omega
section
variable {W : World} (hT : TabAt W)
include hT
theorem setsAny_cv {p q : Option Addr} {c d : Nat} {ms odd : List Int} (hp : Sl W p (i64s ms)) (hq : Sl W q (i64s odd)) (hpl : ms.length ≤ 9223372036854775807) (hql : odd.length ≤ 9223372036854775807) :
    CV P F.crierlaw01_SetsAny [.slice p ms.length c, .slice q odd.length d] W fun r w' => r = .bool true ∧ Below W.heap.size W w' := by
  refine crierlaw01_SetsAny_cv ?_
  unfold crierlaw01_SetsAny
  have H := keep_start W
  refine call_p H (awake_t hT) (by repeat (first | exact Cut.nil | (apply Cut.cons; (repeat (first | exact Pick.here | apply Pick.there))))) fun wx H => ?_
  refine ⟨_, rfl, cnd_i (fun h => by cases h) fun _ => join_o ?_⟩
  have big : crierlaw01_SetsAny_j6 p ms.length c q odd.length (fun r w' => r = .bool true ∧ Below W.heap.size W w') true true wx := by
    unfold crierlaw01_SetsAny_j6
    exact cnd_i (fun _ => ⟨rfl, keep_done H (by repeat (first | exact Pick.here | apply Pick.there))⟩) (fun h => by cases h)
  refine cnd_i (fun _ => big) fun h1 => ?_
  cases h2 : decide ((odd.length : Int) > 2000)
  case true => exact big
  have h1 := of_decide_eq_false h1
  have h2 := of_decide_eq_false h2
  clear big
  unfold crierlaw01_SetsAny_j6
  refine cnd_i (fun h => by cases h) fun _ => ?_
  refine call_o H (of_set_t (c := c) (keep W) (keep_sl hp) hpl) (by repeat (first | exact Cut.nil | (apply Cut.cons; (repeat (first | exact Pick.here | apply Pick.there))))) fun vx L' wx hq H => ?_
  obtain ⟨b, rfl, rfl⟩ := hq
  simp only [List.cons_append, List.nil_append] at H
  refine ⟨_, rfl, ?_⟩
  refine call_o H (of_set_t (ms := []) (c := 0) (keep W) nil_sl (by simp)) (by repeat (first | exact Cut.nil | (apply Cut.cons; (repeat (first | exact Pick.here | apply Pick.there))))) fun vx L' wx hq H => ?_
  obtain ⟨b', rfl, rfl⟩ := hq
  simp only [List.cons_append, List.nil_append] at H
  refine ⟨_, rfl, join_o (cnd_i (fun h => by cases h) fun _ => cnd_i (fun h => by cases h) fun _ => ?_)⟩
  unfold crierlaw01_SetsAny_j5
  refine cnd_i (fun h => by cases h) fun _ => ?_
  -- odd numbers in
  refine loop_o (fun (st : Int) L => ∃ k : Nat, k ≤ odd.length ∧ st = k ∧ L = [setI b' (ofL (odd.take k)), keep W, setI b (ofL ms)]) (fun (st : Int) => ((odd.length : Int) - st).toNat) H ⟨0, by omega, rfl, rfl⟩ ?_
  rintro _ _ wx ⟨k, hk, rfl, rfl⟩ H
  unfold crierlaw01_SetsAny_l4
  refine cnd_i (fun h => ?_) fun h => ?_
  · have h := of_decide_eq_true h
    have hk' : k < odd.length := by omega
    refine ⟨⟨by omega, h⟩, ?_⟩
    rw [Int.toNat_natCast]
    obtain ⟨a, rfl, hcell⟩ := H.rd (i := keep W) (by repeat (first | exact Pick.here | apply Pick.there)) (keep_sl hq) k _ (i64s_get hk')
    refine ⟨_, by rw [Nat.mul_one]; exact hcell, ?_⟩
    refine call_o H (put_t b' (ofL (odd.take k)) odd[k]) (by repeat (first | exact Cut.nil | (apply Cut.cons; (repeat (first | exact Pick.here | apply Pick.there))))) fun vx L' wx hq H => ?_
    obtain ⟨rfl, rfl⟩ := hq
    simp only [List.cons_append, List.nil_append] at H
    rw [putL_has' _ (ofL_up _)] at H
    refine ⟨_, rfl, ⟨_, ⟨k + 1, by omega, ?_, ?_⟩, H⟩, ?_⟩
    · rw [W_id (by omega) (by omega)]; rfl
    · unfold ofL; rw [List.take_succ_eq_append_getElem hk', List.foldl_append]; rfl
    · rw [W_id (by omega) (by omega)]
      show ((odd.length : Int) - ((k : Int) + 1)).toNat < ((odd.length : Int) - (k : Int)).toNat
      omega
  have h := of_decide_eq_false h
  have : k = odd.length := by omega
  subst this
  rw [List.take_length] at H
  rw [W_id (by omega) (by omega)]
  -- the members, from behind
  refine loop_o (fun (st : Int) L => ∃ (k : Nat) (lt : List Nat), k ≤ ms.length ∧ st = (k : Int) - 1 ∧ Up lt ∧ (∀ x : Nat, x ∈ lt ↔ mayL (x : Int) = true ∧ ((x : Int) ∈ odd ∨ (x : Int) ∈ ms.drop k)) ∧ L = [setI b' lt, keep W, setI b (ofL ms)]) (fun (st : Int) => (st + 1).toNat) H
    ⟨ms.length, _, by omega, rfl, ofL_up _, fun x => by rw [mem_ofL, List.drop_length]; simp, rfl⟩ ?_
  rintro _ _ wx ⟨k, lt, hk, rfl, hup, hmem, rfl⟩ H
  unfold crierlaw01_SetsAny_l3
  refine cnd_i (fun h => ?_) fun h => ?_
  · have h := of_decide_eq_true h
    obtain ⟨j, rfl⟩ : ∃ j, k = j + 1 := ⟨k - 1, by omega⟩
    have ej : ((j + 1 : Nat) : Int) - 1 = (j : Int) := by push_cast; omega
    have hj : j < ms.length := by omega
    rw [ej]
    refine ⟨⟨by omega, by omega⟩, ?_⟩
    rw [Int.toNat_natCast]
    obtain ⟨a, rfl, hcell⟩ := H.rd (i := keep W) (by repeat (first | exact Pick.here | apply Pick.there)) (keep_sl hp) j _ (i64s_get hj)
    refine ⟨_, by rw [Nat.mul_one]; exact hcell, ?_⟩
    refine call_o H (put_t b' lt ms[j]) (by repeat (first | exact Cut.nil | (apply Cut.cons; (repeat (first | exact Pick.here | apply Pick.there))))) fun vx L' wx hq H => ?_
    obtain ⟨rfl, rfl⟩ := hq
    simp only [List.cons_append, List.nil_append] at H
    rw [putL_has' _ hup] at H
    refine ⟨_, rfl, ⟨_, ⟨j, _, by omega, ?_, putL_up hup, ?_, rfl⟩, H⟩, ?_⟩
    · rw [W_id (by omega) (by omega)]
    · intro x
      rw [mem_putL, hmem, List.drop_eq_getElem_cons hj, List.mem_cons]
      constructor
      · rintro (⟨h1, h2⟩ | ⟨h1, h2⟩)
        · exact ⟨h1, h2.imp id .inr⟩
        · exact ⟨h2 ▸ h1, .inr (.inl h2)⟩
      · rintro ⟨h1, h2 | h2 | h2⟩
        · exact .inl ⟨h1, .inl h2⟩
        · exact .inr ⟨h2 ▸ h1, h2⟩
        · exact .inl ⟨h1, .inr h2⟩
    · rw [W_id (by omega) (by omega)]
      show ((j : Int) - 1 + 1).toNat < ((j : Int) + 1).toNat
      omega
  have h := of_decide_eq_false h
  have : k = 0 := by omega
  subst this
  rw [List.drop_zero] at hmem
  -- odd numbers out
  refine loop_o (fun (st : Int) L => ∃ (k : Nat) (lt : List Nat), k ≤ odd.length ∧ st = (k : Int) ∧ Up lt ∧ (∀ x : Nat, x ∈ ofL ms → x ∈ lt) ∧ (∀ x : Nat, x ∈ lt → mayL (x : Int) = true ∧ ((x : Int) ∈ odd.drop k ∨ (x : Int) ∈ ms)) ∧ L = [setI b' lt, keep W, setI b (ofL ms)]) (fun (st : Int) => ((odd.length : Int) - st).toNat) H
    ⟨0, lt, by omega, rfl, hup, fun x hx => (hmem x).2 ⟨(mem_ofL.1 hx).1, .inr (mem_ofL.1 hx).2⟩, fun x hx => by simpa using (hmem x).1 hx, rfl⟩ ?_
  clear hmem hup
  rintro _ _ wx ⟨k, lt, hk, rfl, hup, hsub, hmem, rfl⟩ H
  unfold crierlaw01_SetsAny_l2
  refine cnd_i (fun h => ?_) fun h => ?_
  · have h := of_decide_eq_true h
    have hk' : k < odd.length := by omega
    refine join_o ⟨⟨by omega, h⟩, ?_⟩
    rw [Int.toNat_natCast]
    obtain ⟨a, rfl, hcell⟩ := H.rd (i := keep W) (by repeat (first | exact Pick.here | apply Pick.there)) (keep_sl hq) k _ (i64s_get hk')
    refine ⟨_, by rw [Nat.mul_one]; exact hcell, ?_⟩
    rw [List.drop_eq_getElem_cons hk'] at hmem
    refine call_p H (has_t b (ofL ms) odd[k]) (by repeat (first | exact Cut.nil | (apply Cut.cons; (repeat (first | exact Pick.here | apply Pick.there))))) fun wx H => ?_
    have next : ∀ lt wx, Up lt → (∀ x : Nat, x ∈ ofL ms → x ∈ lt) → (∀ x : Nat, x ∈ lt → mayL (x : Int) = true ∧ ((x : Int) ∈ odd.drop (k + 1) ∨ (x : Int) ∈ ms)) → X.Own W (fun k => k < W.heap.size) [setI b' lt, keep W, setI b (ofL ms)] wx →
        crierlaw01_SetsAny_j0 (k : Int) (fun (s' : Int) w' => (∃ L', (∃ (k : Nat) (lt : List Nat), k ≤ odd.length ∧ s' = (k : Int) ∧ Up lt ∧ (∀ x : Nat, x ∈ ofL ms → x ∈ lt) ∧ (∀ x : Nat, x ∈ lt → mayL (x : Int) = true ∧ ((x : Int) ∈ odd.drop k ∨ (x : Int) ∈ ms)) ∧ L' = [setI b' lt, keep W, setI b (ofL ms)]) ∧ X.Own W (fun k => k < W.heap.size) L' w') ∧ ((odd.length : Int) - s').toNat < ((odd.length : Int) - (k : Int)).toNat) wx := by
      intro lt wx h1 h2 h3 H
      unfold crierlaw01_SetsAny_j0
      rw [W_id (by omega) (by omega)]
      refine ⟨⟨_, ⟨k + 1, lt, by omega, rfl, h1, h2, h3, rfl⟩, H⟩, ?_⟩
      show ((odd.length : Int) - ((k : Int) + 1)).toNat < ((odd.length : Int) - (k : Int)).toNat
      omega
    refine ⟨_, rfl, cnd_i (fun hc => ?_) fun hc => ?_⟩
    · have hc : hasL (ofL ms) odd[k] = false := by simpa using hc
      refine ⟨⟨by omega, h⟩, ?_⟩
      rw [Int.toNat_natCast]
      obtain ⟨a3, ha3, hcell3⟩ := H.rd (i := keep W) (by repeat (first | exact Pick.here | apply Pick.there)) (keep_sl hq) k _ (i64s_get hk')
      cases ha3
      refine ⟨_, by rw [Nat.mul_one]; exact hcell3, ?_⟩
      refine call_o H (take_t b' lt odd[k]) (by repeat (first | exact Cut.nil | (apply Cut.cons; (repeat (first | exact Pick.here | apply Pick.there))))) fun vx L' wx hq H => ?_
      obtain ⟨rfl, rfl⟩ := hq
      simp only [List.cons_append, List.nil_append] at H
      refine ⟨_, rfl, next _ wx (takeL_up hup) ?_ ?_ H⟩
      · intro x hx
        refine mem_takeL.2 ⟨hsub x hx, fun e => ?_⟩
        have : hasL (ofL ms) odd[k] = true := hasL_iff.2 ⟨by omega, by rw [← e, Int.toNat_natCast]; exact hx⟩
        simp [hc] at this
      · intro x hx
        obtain ⟨h1, h2⟩ := mem_takeL.1 hx
        obtain ⟨h3, h4⟩ := hmem x h1
        refine ⟨h3, h4.imp (fun h => ?_) id⟩
        rcases List.mem_cons.1 h with h | h
        · exact absurd h h2
        · exact h
    · have hc : hasL (ofL ms) odd[k] = true := by simpa using hc
      refine next lt wx hup hsub (fun x hx => ?_) (H.drop (by repeat (first | exact Cut.nil | (apply Cut.cons; (repeat (first | exact Pick.here | apply Pick.there))))))
      obtain ⟨h3, h4⟩ := hmem x hx
      refine ⟨h3, ?_⟩
      rcases h4 with h | h
      · rcases List.mem_cons.1 h with h | h
        · obtain ⟨g0, g1⟩ := hasL_iff.1 hc
          rw [← h, Int.toNat_natCast] at g1
          exact .inr (mem_ofL.1 g1).2
        · exact .inl h
      · exact .inr h
  · have h := of_decide_eq_false h
    have : k = odd.length := by omega
    subst this
    rw [List.drop_length] at hmem
    have e : lt = ofL ms := sext hup (ofL_up ms) fun x => ⟨fun hx => mem_ofL.2 (by simpa using hmem x hx), hsub x⟩
    subst e
    refine join_o ?_
    refine call_p H (same_set_t b b' (ofL ms) (ofL ms)) (by repeat (first | exact Cut.nil | (apply Cut.cons; (repeat (first | exact Pick.here | apply Pick.there))))) fun wx H => ?_
    refine ⟨_, rfl, cnd_i (fun _ => ?_) fun h => by simp at h⟩
    refine call_p H (same_set_t b' b (ofL ms) (ofL ms)) (by repeat (first | exact Cut.nil | (apply Cut.cons; (repeat (first | exact Pick.here | apply Pick.there))))) fun wx H => ?_
    refine ⟨_, rfl, cnd_i (fun _ => ?_) fun h => by simp at h⟩
    refine call_p H (len_set_t b (ofL ms)) (by repeat (first | exact Cut.nil | (apply Cut.cons; (repeat (first | exact Pick.here | apply Pick.there))))) fun wx H => ?_
    refine ⟨_, rfl, ?_⟩
    refine call_p H (len_set_t b' (ofL ms)) (by repeat (first | exact Cut.nil | (apply Cut.cons; (repeat (first | exact Pick.here | apply Pick.there))))) fun wx H => ?_
    refine ⟨_, rfl, cnd_i (fun _ => ?_) fun h => by simp at h⟩
    refine call_o H (list_t hT b (ofL ms)) (by repeat (first | exact Cut.nil | (apply Cut.cons; (repeat (first | exact Pick.here | apply Pick.there))))) fun vx L' wx hq H => ?_
    obtain ⟨p1, c1, rfl, rfl⟩ := hq
    simp only [List.cons_append, List.nil_append] at H
    refine ⟨_, _, _, rfl, ?_⟩
    refine call_o H (list_t hT b' (ofL ms)) (by repeat (first | exact Cut.nil | (apply Cut.cons; (repeat (first | exact Pick.here | apply Pick.there))))) fun vx L' wx hq H => ?_
    obtain ⟨p2, c2, rfl, rfl⟩ := hq
    simp only [List.cons_append, List.nil_append] at H
    refine ⟨_, _, _, rfl, ?_⟩
    refine call_p H (refSame_t' (ilI p1 c1 (natI (ofL ms))) (natI_length _) (natI_length _) il_sl (ilI p2 c2 (natI (ofL ms))) il_sl (by have := ofL_length ms; omega)) (by repeat (first | exact Cut.nil | (apply Cut.cons; (repeat (first | exact Pick.here | apply Pick.there))))) fun wx H => ?_
    refine ⟨_, rfl, ?_⟩
    unfold crierlaw01_SetsAny_j1
    exact ⟨by simp, keep_done H (by repeat (first | exact Pick.here | apply Pick.there))⟩
theorem setsCounts_cv {p q : Option Addr} {c d : Nat} {ms ns : List Int} (hp : Sl W p (i64s ms)) (hq : Sl W q (i64s ns)) (hpl : ms.length ≤ 9223372036854775807) (hql : ns.length ≤ 9223372036854775807) :
    CV P F.crierlaw01_SetsCounts [.slice p ms.length c, .slice q ns.length d] W fun r w' => r = .bool true ∧ Below W.heap.size W w' := by
  refine crierlaw01_SetsCounts_cv ?_
  unfold crierlaw01_SetsCounts
  have H := keep_start W
  refine call_p H (awake_t hT) (by repeat (first | exact Cut.nil | (apply Cut.cons; (repeat (first | exact Pick.here | apply Pick.there))))) fun wx H => ?_
  refine ⟨_, rfl, cnd_i (fun h => by cases h) fun _ => join_o ?_⟩
  have big : crierlaw01_SetsCounts_j3 p ms.length c q ns.length d (fun r w' => r = .bool true ∧ Below W.heap.size W w') true true wx := by
    unfold crierlaw01_SetsCounts_j3
    exact cnd_i (fun _ => ⟨rfl, keep_done H (by repeat (first | exact Pick.here | apply Pick.there))⟩) (fun h => by cases h)
  refine cnd_i (fun _ => big) fun h1 => ?_
  cases h2 : decide ((ns.length : Int) > 2000)
  case true => exact big
  clear big
  unfold crierlaw01_SetsCounts_j3
  refine cnd_i (fun h => by cases h) fun _ => ?_
  have hu := ofL_up ms
  have hv := ofL_up ns
  have hul := ofL_length ms
  have hvl := ofL_length ns
  obtain ⟨c1, c2⟩ := count_union hu hv
  refine call_o H (of_set_t (c := c) (keep W) (keep_sl hp) hpl) (by repeat (first | exact Cut.nil | (apply Cut.cons; (repeat (first | exact Pick.here | apply Pick.there))))) fun vx L' wx hq H => ?_
  obtain ⟨b, rfl, rfl⟩ := hq
  simp only [List.cons_append, List.nil_append] at H
  refine ⟨_, rfl, ?_⟩
  refine call_o H (of_set_t (c := d) (keep W) (keep_sl (xs := i64s ns) ‹_›) hql) (by repeat (first | exact Cut.nil | (apply Cut.cons; (repeat (first | exact Pick.here | apply Pick.there))))) fun vx L' wx hq H => ?_
  obtain ⟨b', rfl, rfl⟩ := hq
  simp only [List.cons_append, List.nil_append] at H
  refine ⟨_, rfl, join_o (cnd_i (fun h => by cases h) fun _ => cnd_i (fun h => by cases h) fun _ => ?_)⟩
  unfold crierlaw01_SetsCounts_j2
  refine cnd_i (fun h => by cases h) fun _ => ?_
  refine call_o H (union_t b b' (ofL ms) (ofL ns) hu) (by repeat (first | exact Cut.nil | (apply Cut.cons; (repeat (first | exact Pick.here | apply Pick.there))))) fun vx L' wx hq H => ?_
  obtain ⟨bu, rfl, rfl⟩ := hq
  simp only [List.cons_append, List.nil_append] at H
  refine ⟨_, rfl, ?_⟩
  refine call_o H (meet_t b b' (ofL ms) (ofL ns) hu) (by repeat (first | exact Cut.nil | (apply Cut.cons; (repeat (first | exact Pick.here | apply Pick.there))))) fun vx L' wx hq H => ?_
  obtain ⟨bm, rfl, rfl⟩ := hq
  simp only [List.cons_append, List.nil_append] at H
  refine ⟨_, rfl, ?_⟩
  refine call_o H (less_t b b' (ofL ms) (ofL ns) hu) (by repeat (first | exact Cut.nil | (apply Cut.cons; (repeat (first | exact Pick.here | apply Pick.there))))) fun vx L' wx hq H => ?_
  obtain ⟨bd, rfl, rfl⟩ := hq
  simp only [List.cons_append, List.nil_append] at H
  refine ⟨_, rfl, join_o (cnd_i (fun h => by cases h) fun _ => cnd_i (fun h => by cases h) fun _ => ?_)⟩
  unfold crierlaw01_SetsCounts_j1
  refine cnd_i (fun h => by cases h) fun _ => join_o ?_
  refine call_p H (len_set_t bu (unionL (ofL ms) (ofL ns))) (by repeat (first | exact Cut.nil | (apply Cut.cons; (repeat (first | exact Pick.here | apply Pick.there))))) fun wx H => ?_
  refine ⟨_, rfl, ?_⟩
  refine call_p H (len_set_t bm (meetL (ofL ms) (ofL ns))) (by repeat (first | exact Cut.nil | (apply Cut.cons; (repeat (first | exact Pick.here | apply Pick.there))))) fun wx H => ?_
  refine ⟨_, rfl, ?_⟩
  refine call_p H (len_set_t b (ofL ms)) (by repeat (first | exact Cut.nil | (apply Cut.cons; (repeat (first | exact Pick.here | apply Pick.there))))) fun wx H => ?_
  refine ⟨_, rfl, ?_⟩
  refine call_p H (len_set_t b' (ofL ns)) (by repeat (first | exact Cut.nil | (apply Cut.cons; (repeat (first | exact Pick.here | apply Pick.there))))) fun wx H => ?_
  refine ⟨_, rfl, ?_⟩
  rw [W_id (by omega) (by omega), W_id (by omega) (by omega)]
  refine cnd_i (fun _ => ?_) fun h => by simp at h; omega
  refine call_p H (len_set_t bd (lessL (ofL ms) (ofL ns))) (by repeat (first | exact Cut.nil | (apply Cut.cons; (repeat (first | exact Pick.here | apply Pick.there))))) fun wx H => ?_
  refine ⟨_, rfl, ?_⟩
  refine call_p H (len_set_t bm (meetL (ofL ms) (ofL ns))) (by repeat (first | exact Cut.nil | (apply Cut.cons; (repeat (first | exact Pick.here | apply Pick.there))))) fun wx H => ?_
  refine ⟨_, rfl, ?_⟩
  refine call_p H (len_set_t b (ofL ms)) (by repeat (first | exact Cut.nil | (apply Cut.cons; (repeat (first | exact Pick.here | apply Pick.there))))) fun wx H => ?_
  refine ⟨_, rfl, ?_⟩
  rw [W_id (by omega) (by omega)]
  refine cnd_i (fun _ => ?_) fun h => by simp at h; omega
  have hd : Up (lessL (ofL ms) (ofL ns)) := List.Pairwise.filter _ hu
  refine call_o H (union_t bd bm (lessL (ofL ms) (ofL ns)) (meetL (ofL ms) (ofL ns)) hd) (by repeat (first | exact Cut.nil | (apply Cut.cons; (repeat (first | exact Pick.here | apply Pick.there))))) fun vx L' wx hq H => ?_
  obtain ⟨b5, rfl, rfl⟩ := hq
  simp only [List.cons_append, List.nil_append] at H
  refine ⟨_, rfl, ?_⟩
  have e5 : unionL (lessL (ofL ms) (ofL ns)) (meetL (ofL ms) (ofL ns)) = ofL ms := by
    refine sext (unionL_up _ hd) hu fun x => ?_
    rw [mem_unionL]
    simp only [lessL, meetL, List.mem_filter, Bool.not_eq_true', List.contains_eq_mem, decide_eq_false_iff_not, decide_eq_true_eq]
    constructor
    · rintro (h | h) <;> exact h.1
    · intro h
      by_cases hx : x ∈ ofL ns
      · exact .inr ⟨h, hx⟩
      · exact .inl ⟨h, hx⟩
  rw [e5] at H
  refine call_p H (same_set_t b5 b (ofL ms) (ofL ms)) (by repeat (first | exact Cut.nil | (apply Cut.cons; (repeat (first | exact Pick.here | apply Pick.there))))) fun wx H => ?_
  refine ⟨_, rfl, cnd_i (fun _ => ?_) fun h => by simp at h⟩
  refine call_o H (union_t b' b (ofL ns) (ofL ms) hv) (by repeat (first | exact Cut.nil | (apply Cut.cons; (repeat (first | exact Pick.here | apply Pick.there))))) fun vx L' wx hq H => ?_
  obtain ⟨b6, rfl, rfl⟩ := hq
  simp only [List.cons_append, List.nil_append] at H
  refine ⟨_, rfl, ?_⟩
  have e6 : unionL (ofL ns) (ofL ms) = unionL (ofL ms) (ofL ns) := sext (unionL_up _ hv) (unionL_up _ hu) fun x => by rw [mem_unionL, mem_unionL, or_comm]
  rw [e6] at H
  refine call_p H (same_set_t b6 bu (unionL (ofL ms) (ofL ns)) (unionL (ofL ms) (ofL ns))) (by repeat (first | exact Cut.nil | (apply Cut.cons; (repeat (first | exact Pick.here | apply Pick.there))))) fun wx H => ?_
  refine ⟨_, rfl, ?_⟩
  unfold crierlaw01_SetsCounts_j0
  exact ⟨by simp, keep_done H (by repeat (first | exact Pick.here | apply Pick.there))⟩
end
end Go.Proofs.YtlccemphlinecaaDoor
