/-
  lpi: the reference: moved, all moved, a new part.
-/
import Derived.Test.YtgjddhpblpfneaaDoorL11
namespace Go.Proofs.YtgjddhpblpfneaaDoor
open Go Go.RowKit X
set_option maxRecDepth 100000
set_option linter.unusedVariables false
set_option linter.unusedSimpArgs false
set_option maxHeartbeats 1000000
abbrev rsL (b b' m : Nat) (S : LS) : List It := [rI b S.1, rI b' S.2.1, memI m S.2.2]
theorem rMove_t (b b' m : Nat) (S : LS) (hf : LsFit S) (id : Int) (hid : I64 id) : Tri P F.crierref15_Move [ptrV m, .int .i64 id, ptrV b, ptrV b', .bool true] (rsL b b' m S) fun v L' => v = .bool (mvB S id) ∧ L' = rsL b b' m (mvS S id) := by
  intro w Sp hS
  obtain ⟨s, t, bs⟩ := S
  refine crierref15_Move_cv ?_
  unfold crierref15_Move mvS mvB
  dsimp only [rsL]
  have H := Own.start hS
  refine join_o (cnd_i (fun h => by cases h) fun _ => ?_)
  have hff : s.Fit bs.length := hf.f
  have hfg : t.Fit bs.length := hf.g
  refine call_p H (rHas_t b m s bs hff id hid) (by repeat (first | exact Cut.nil | (apply Cut.cons; (repeat (first | exact Pick.here | apply Pick.there))))) fun wx H => ?_
  refine ⟨_, rfl, ?_⟩
  unfold crierref15_Move_j0
  cases hh : hasM s bs id
  · exact cnd_i (fun _ => cnd_i (fun _ => ⟨_, ⟨rfl, rfl⟩, H⟩) (fun h => by cases h)) (fun h => by cases h)
  refine cnd_i (fun h => by cases h) fun _ => ?_
  refine call_p H (rOf_t b' t id) (by repeat (first | exact Cut.nil | (apply Cut.cons; (repeat (first | exact Pick.here | apply Pick.there))))) fun wx H => ?_
  refine ⟨_, rfl, ?_⟩
  cases hi : inB t.many id
  · exact cnd_i (fun _ => ⟨_, ⟨rfl, rfl⟩, H⟩) (fun h => by cases h)
  refine cnd_i (fun h => by cases h) fun _ => ?_
  refine call_o H (rSet_t b m s bs hff id hid false) (by repeat (first | exact Cut.nil | (apply Cut.cons; (repeat (first | exact Pick.here | apply Pick.there))))) fun vx L' wx hq H => ?_
  obtain ⟨rfl, rfl⟩ := hq
  simp only [List.cons_append, List.nil_append] at H
  refine ⟨_, _, rfl, ?_⟩
  refine call_o H (rSet_t b' m t (setMb s bs id false) (by rw [setMb_len]; exact hfg) id hid true) (by repeat (first | exact Cut.nil | (apply Cut.cons; (repeat (first | exact Pick.here | apply Pick.there))))) fun vx L' wx hq H => ?_
  obtain ⟨rfl, rfl⟩ := hq
  simp only [List.cons_append, List.nil_append] at H
  exact ⟨_, _, rfl, _, ⟨rfl, rfl⟩, H.drop (by repeat (first | exact Cut.nil | (apply Cut.cons; (repeat (first | exact Pick.here | apply Pick.there)))))⟩
theorem rMoveAll_t (b b' m : Nat) (S : LS) (h : LsOk S) : Tri P F.crierref15_MoveAll [ptrV m, ptrV b, ptrV b', .bool true] (rsL b b' m S) fun v L' => v = .int .i64 (mvAll S (waitL S.1 S.2.2)).2 ∧ L' = rsL b b' m (mvAll S (waitL S.1 S.2.2)).1 := by
  intro w Sp hS
  refine crierref15_MoveAll_cv ?_
  unfold crierref15_MoveAll
  have H := Own.start hS
  have hman := h.ok1.man
  refine call_o H (rWaiting_t b m S.1 S.2.2 h.fit.f) (by repeat (first | exact Cut.nil | (apply Cut.cons; (repeat (first | exact Pick.here | apply Pick.there))))) fun vx L' wx hq H => ?_
  obtain ⟨p, c, rfl, rfl⟩ := hq
  simp only [List.cons_append, List.nil_append] at H
  refine ⟨_, _, _, rfl, ?_⟩
  have hll := waitL_len S.1 S.2.2 h.ok1
  have hil := ids_len (waitL S.1 S.2.2)
  refine loop_o (fun (st : Int × Int) L => ∃ i : Nat, i ≤ (waitL S.1 S.2.2).length ∧ st = ((((mvAll S ((waitL S.1 S.2.2).take i)).2 : Nat) : Int), (i : Int)) ∧ L = rsL b b' m (mvAll S ((waitL S.1 S.2.2).take i)).1 ++ [own tInt 1 (.slice p (ids (waitL S.1 S.2.2)).length c) (ids (waitL S.1 S.2.2)).length (i64s (ids (waitL S.1 S.2.2)))]) (fun (st : Int × Int) => (((waitL S.1 S.2.2).length : Int) - st.2).toNat) (H.drop (by repeat (first | exact Cut.nil | (apply Cut.cons; (repeat (first | exact Pick.here | apply Pick.there)))))) ⟨0, by omega, rfl, rfl⟩ ?_
  rintro _ _ wx ⟨i, hi, rfl, rfl⟩ H
  unfold crierref15_MoveAll_l1
  simp only [List.cons_append, List.nil_append] at H
  have hok := mvAll_ok h ((waitL S.1 S.2.2).take i)
  have hcnt := hok.2.2.2
  rw [List.length_take] at hcnt
  refine cnd_i (fun hc => join_o ?_) fun hc => ?_
  · have hc := of_decide_eq_true hc
    dsimp only at hc
    have hlt : i < (waitL S.1 S.2.2).length := by omega
    obtain ⟨u, hu⟩ : ∃ u, (waitL S.1 S.2.2)[i]? = some u := ⟨_, List.getElem?_eq_getElem hlt⟩
    have hul : u < S.1.many.toNat := by
      have := List.mem_of_getElem? hu
      exact List.mem_range.1 (List.mem_filter.1 this).1
    have hx : (ids (waitL S.1 S.2.2))[i]? = some (8192 + (u : Int)) := by simp [ids, hu]
    refine rd_n H (by repeat (first | exact Pick.here | apply Pick.there)) (hx) ?_
    refine call_o H (rMove_t b b' m (mvAll S ((waitL S.1 S.2.2).take i)).1 hok.1.fit (8192 + u) (by unfold I64; omega)) (by repeat (first | exact Cut.nil | (apply Cut.cons; (repeat (first | exact Pick.here | apply Pick.there))))) fun vx L' wx hq H => ?_
    obtain ⟨rfl, rfl⟩ := hq
    simp only [List.cons_append, List.nil_append] at H
    have hnext := mvAll_next (S := S) hu
    refine ⟨_, rfl, ?_⟩
    unfold crierref15_MoveAll_j0
    have e1 : IntKind.i64.wrap ((i : Int) + 1) = (i : Int) + 1 := W_id (by omega) (by omega)
    refine cnd_i (fun hb => ?_) fun hb => ?_
    · have e2 : IntKind.i64.wrap ((((mvAll S ((waitL S.1 S.2.2).take i)).2 : Nat) : Int) + 1) = (((mvAll S ((waitL S.1 S.2.2).take i)).2 + 1 : Nat) : Int) := by rw [W_id (by omega) (by omega)]; push_cast; rfl
      dsimp only
      rw [e1, e2]
      refine ⟨⟨_, ⟨i + 1, by omega, ?_, rfl⟩, ?_⟩, by show (((waitL S.1 S.2.2).length : Int) - ((i : Int) + 1)).toNat < (((waitL S.1 S.2.2).length : Int) - (i : Int)).toNat; omega⟩
      · rw [hnext]; unfold mvA; rw [if_pos hb]; push_cast; rfl
      · rw [hnext]; exact H
    · dsimp only
      rw [e1]
      refine ⟨⟨_, ⟨i + 1, by omega, ?_, rfl⟩, ?_⟩, by show (((waitL S.1 S.2.2).length : Int) - ((i : Int) + 1)).toNat < (((waitL S.1 S.2.2).length : Int) - (i : Int)).toNat; omega⟩
      · rw [hnext]; unfold mvA; rw [if_neg (by rw [hb]; decide)]; push_cast; rfl
      · rw [hnext]; exact H
  · have hc := of_decide_eq_false hc
    dsimp only at hc
    have : i = (waitL S.1 S.2.2).length := by omega
    subst this
    rw [List.take_length] at H ⊢
    exact ⟨_, ⟨rfl, rfl⟩, H.drop (by repeat (first | exact Cut.nil | (apply Cut.cons; (repeat (first | exact Pick.here | apply Pick.there)))))⟩
theorem rNew_t (m : Nat) (bs : List Int) (many pa ps qa qs : Int) (hI : I64 many) : Tri P F.crierref15_New [ptrV m, .int .i64 many, winV pa ps, winV qa qs] [memI m bs]
    fun v L' => if newE bs.length many pa ps qa qs = 0 then ∃ b, v = .tuple [ptrV b, .int .i64 0].toArray ∧ L' = [rI b (newLp many pa ps qa qs), memI m bs] else v = .tuple [.pointer none, .int .i64 (newE bs.length many pa ps qa qs)].toArray ∧ L' = [memI m bs] := by
  intro w S hS
  refine crierref15_New_cv ?_
  unfold crierref15_New
  have H := Own.start hS
  obtain ⟨hr, hl⟩ := mem_facts H (b := m) (bs := bs) (by repeat (first | exact Pick.here | apply Pick.there))
  refine alc_o H fun b7 wx H => alc_o H fun b9 wx H => join_o ?_
  unfold crierref15_New_j1
  have bad1 : (many < 1 ∨ many > 512) → ∀ wx, X.Own w S [row b9 [.int .i64 qa, .int .i64 qs] T.t23, row b7 [.int .i64 pa, .int .i64 ps] T.t23, memI m bs] wx → ∃ L', (if newE bs.length many pa ps qa qs = 0 then ∃ b, (Value.tuple [.pointer none, .int .i64 1].toArray) = .tuple [ptrV b, .int .i64 0].toArray ∧ L' = [rI b (newLp many pa ps qa qs), memI m bs] else (Value.tuple [.pointer none, .int .i64 1].toArray) = .tuple [.pointer none, .int .i64 (newE bs.length many pa ps qa qs)].toArray ∧ L' = [memI m bs]) ∧ X.Own w S L' wx := by
    intro h wx H
    have e : newE bs.length many pa ps qa qs = 1 := by unfold newE; rw [if_pos h]
    refine ⟨[memI m bs], ?_, H.drop (by repeat (first | exact Cut.nil | (apply Cut.cons; (repeat (first | exact Pick.here | apply Pick.there)))))⟩
    rw [e, if_neg (by decide)]
    exact ⟨rfl, rfl⟩
  refine cnd_i (fun h => cnd_i (fun _ => bad1 (.inl (of_decide_eq_true h)) _ H) (fun h => by cases h)) fun h => cnd_i (fun h2 => bad1 (.inr (of_decide_eq_true h2)) _ H) fun h2 => ?_
  have h := of_decide_eq_false h
  have h2 := of_decide_eq_false h2
  have hm : 1 ≤ many ∧ many ≤ 512 := by omega
  refine join_o ?_
  have bad2 : (holdsB bs.length pa ps = false ∨ holdsB bs.length qa qs = false ∨ ps < many ∨ qs < (many + 7) / 8) → ∀ wx, X.Own w S [row b9 [.int .i64 qa, .int .i64 qs] T.t23, row b7 [.int .i64 pa, .int .i64 ps] T.t23, memI m bs] wx →
      crierref15_New_j0 many (fun v w' => ∃ L', (if newE bs.length many pa ps qa qs = 0 then ∃ b, v = .tuple [ptrV b, .int .i64 0].toArray ∧ L' = [rI b (newLp many pa ps qa qs), memI m bs] else v = .tuple [.pointer none, .int .i64 (newE bs.length many pa ps qa qs)].toArray ∧ L' = [memI m bs]) ∧ X.Own w S L' w') b7 b9 true wx := by
    intro hb wx H
    unfold crierref15_New_j0
    refine cnd_i (fun _ => ?_) (fun h => by cases h)
    have e : newE bs.length many pa ps qa qs = 42 := by unfold newE; rw [if_neg (by omega), if_pos hb]
    refine ⟨[memI m bs], ?_, H.drop (by repeat (first | exact Cut.nil | (apply Cut.cons; (repeat (first | exact Pick.here | apply Pick.there)))))⟩
    rw [e, if_neg (by decide)]
    exact ⟨rfl, rfl⟩
  repeat (first | refine ldI_o H (by repeat (first | exact Pick.here | apply Pick.there)) (by rfl) ?_ | refine ldL_o H (by repeat (first | exact Pick.here | apply Pick.there)) (by rfl) ?_ | refine ldB_o H (by repeat (first | exact Pick.here | apply Pick.there)) (by rfl) ?_ | refine ldP_o H (by repeat (first | exact Pick.here | apply Pick.there)) (by rfl) ?_ | refine ldS_o H (by repeat (first | exact Pick.here | apply Pick.there)) (by rfl) ?_)
  refine call_p H (refHolds_t m bs pa ps) (by repeat (first | exact Cut.nil | (apply Cut.cons; (repeat (first | exact Pick.here | apply Pick.there))))) fun wx H => ?_
  refine ⟨_, rfl, ?_⟩
  cases c1 : holdsB bs.length pa ps
  · exact cnd_i (fun _ => bad2 (.inl c1) _ H) (fun h => by cases h)
  refine cnd_i (fun h => by cases h) fun _ => ?_
  repeat (first | refine ldI_o H (by repeat (first | exact Pick.here | apply Pick.there)) (by rfl) ?_ | refine ldL_o H (by repeat (first | exact Pick.here | apply Pick.there)) (by rfl) ?_ | refine ldB_o H (by repeat (first | exact Pick.here | apply Pick.there)) (by rfl) ?_ | refine ldP_o H (by repeat (first | exact Pick.here | apply Pick.there)) (by rfl) ?_ | refine ldS_o H (by repeat (first | exact Pick.here | apply Pick.there)) (by rfl) ?_)
  refine call_p H (refHolds_t m bs qa qs) (by repeat (first | exact Cut.nil | (apply Cut.cons; (repeat (first | exact Pick.here | apply Pick.there))))) fun wx H => ?_
  refine ⟨_, rfl, ?_⟩
  cases c2 : holdsB bs.length qa qs
  · exact cnd_i (fun _ => bad2 (.inr (.inl c2)) _ H) (fun h => by cases h)
  refine cnd_i (fun h => by cases h) fun _ => ?_
  have hq2 := holdsB_iff.1 c2
  repeat (first | refine ldI_o H (by repeat (first | exact Pick.here | apply Pick.there)) (by rfl) ?_ | refine ldL_o H (by repeat (first | exact Pick.here | apply Pick.there)) (by rfl) ?_ | refine ldB_o H (by repeat (first | exact Pick.here | apply Pick.there)) (by rfl) ?_ | refine ldP_o H (by repeat (first | exact Pick.here | apply Pick.there)) (by rfl) ?_ | refine ldS_o H (by repeat (first | exact Pick.here | apply Pick.there)) (by rfl) ?_)
  refine cnd_i (fun c3 => bad2 (.inr (.inr (.inl (of_decide_eq_true c3)))) _ H) fun c3 => ?_
  have c3 := of_decide_eq_false c3
  repeat (first | refine ldI_o H (by repeat (first | exact Pick.here | apply Pick.there)) (by rfl) ?_ | refine ldL_o H (by repeat (first | exact Pick.here | apply Pick.there)) (by rfl) ?_ | refine ldB_o H (by repeat (first | exact Pick.here | apply Pick.there)) (by rfl) ?_ | refine ldP_o H (by repeat (first | exact Pick.here | apply Pick.there)) (by rfl) ?_ | refine ldS_o H (by repeat (first | exact Pick.here | apply Pick.there)) (by rfl) ?_)
  rw [W_id (n := 8 * qs) (by omega) (by omega)]
  cases c4 : decide (8 * qs < many)
  case true => exact bad2 (.inr (.inr (.inr (by have := of_decide_eq_true c4; omega)))) _ H
  have c4 := of_decide_eq_false c4
  have e : newE bs.length many pa ps qa qs = 0 := by
    unfold newE
    rw [if_neg (by omega), if_neg]
    simp only [not_or, Bool.not_eq_false]
    exact ⟨c1, c2, by omega, by omega⟩
  have hok := newLp_ok hm pa ps qa qs
  unfold crierref15_New_j0
  refine cnd_i (fun h => by cases h) fun _ => ?_
  refine drw_o H fun wx H => ?_
  repeat (first | refine ldI_o H (by repeat (first | exact Pick.here | apply Pick.there)) (by rfl) ?_ | refine ldL_o H (by repeat (first | exact Pick.here | apply Pick.there)) (by rfl) ?_ | refine ldB_o H (by repeat (first | exact Pick.here | apply Pick.there)) (by rfl) ?_ | refine ldP_o H (by repeat (first | exact Pick.here | apply Pick.there)) (by rfl) ?_ | refine ldS_o H (by repeat (first | exact Pick.here | apply Pick.there)) (by rfl) ?_)
  refine make_o (by omega) (by omega) H fun p c wx H => ⟨?_, ?_, ?_⟩
  · repeat (first | refine ldI_o H (by repeat (first | exact Pick.here | apply Pick.there)) (by rfl) ?_ | refine ldL_o H (by repeat (first | exact Pick.here | apply Pick.there)) (by rfl) ?_ | refine ldB_o H (by repeat (first | exact Pick.here | apply Pick.there)) (by rfl) ?_ | refine ldP_o H (by repeat (first | exact Pick.here | apply Pick.there)) (by rfl) ?_ | refine ldS_o H (by repeat (first | exact Pick.here | apply Pick.there)) (by rfl) ?_)
    rfl
  · repeat (first | refine ldI_o H (by repeat (first | exact Pick.here | apply Pick.there)) (by rfl) ?_ | refine ldL_o H (by repeat (first | exact Pick.here | apply Pick.there)) (by rfl) ?_ | refine ldB_o H (by repeat (first | exact Pick.here | apply Pick.there)) (by rfl) ?_ | refine ldP_o H (by repeat (first | exact Pick.here | apply Pick.there)) (by rfl) ?_ | refine ldS_o H (by repeat (first | exact Pick.here | apply Pick.there)) (by rfl) ?_)
    rfl
  refine alc_o H fun b30 wx H => ?_
  have H := own_nil (e := tInt) (size := 1) H
  refine ⟨[rI b30 (newLp many pa ps qa qs), memI m bs], by dsimp only; rw [e, if_pos rfl]; exact ⟨b30, rfl, rfl⟩, r_shut (s := newLp many pa ps qa qs) (p := p) (c := c) (q := none) (c2 := 0) (F := [memI m bs]) ?_ hok.z⟩
  have el : (newLp many pa ps qa qs).cfg.length = many.toNat := List.length_replicate
  unfold rCells
  rw [el]
  exact H.drop (by repeat (first | exact Cut.nil | (apply Cut.cons; (repeat (first | exact Pick.here | apply Pick.there)))))
end Go.Proofs.YtgjddhpblpfneaaDoor
