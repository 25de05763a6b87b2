/-
  lpi: a new part; a copy; the document's examples.
-/
import Derived.Test.YtgjddhpblpfneaaDoorL6
import Derived.Test.YtgjddhpblpfneaaDoorA4
namespace Go.Proofs.YtgjddhpblpfneaaDoor
open Go Go.RowKit X
set_option maxRecDepth 100000
set_option linter.unusedVariables false
set_option linter.unusedSimpArgs false
set_option maxHeartbeats 1000000
theorem make_o {w w0 : World} {S0 : Nat → Prop} {L : List It} {n : Int} (h0 : 0 ≤ n) (h1 : n ≤ 100000) (H : X.Own w0 S0 L w) {K : Option Addr → Nat → Nat → World → Prop}
    (k : ∀ p c w', X.Own w0 S0 (own tByte 1 (.slice p n.toNat c) n.toNat (u8s (List.replicate n.toNat 0)) :: L) w' → K p n.toNat c w') : runS P (Instr.makeSlice tBytes (.int .i64 n) (.int .i64 n)) w K := by
  refine make_i appBytes zeroByte h0 (by omega) (by omega) fun w1 hB1 h1' hs1 => k _ _ _ (own_add H (hB1 _ (Nat.le_refl _)) ?_ (Nat.le_refl _))
  refine ⟨by simp [u8s], .inr ⟨_, n.toNat, (List.replicate n.toNat (Value.int .u8 0)).toArray, rfl, Nat.le_refl _, h1', Nat.le_refl _, by unfold maxLen; omega, by simp, ?_⟩⟩
  simp [u8s]
def newLp (many pa ps qa qs : Int) : Lp := ⟨many, false, pa, ps, qa, qs, List.replicate many.toNat 0, []⟩
theorem newLp_ok {many : Int} (h : 1 ≤ many ∧ many ≤ 512) (pa ps qa qs : Int) : (newLp many pa ps qa qs).Ok :=
  ⟨h, by show ((List.replicate many.toNat (0 : Int)).length : Int) = many; rw [List.length_replicate]; omega, fun x hx => by rw [(List.mem_replicate.1 hx).2]; omega, List.Pairwise.nil, fun x hx => (by cases hx), fun _ => rfl⟩
def newE (n : Nat) (many pa ps qa qs : Int) : Int := if many < 1 ∨ many > 512 then 1 else if holdsB n pa ps = false ∨ holdsB n qa qs = false ∨ ps < many ∨ qs < (many + 7) / 8 then 42 else 0
theorem newE_ok {n : Nat} {many pa ps qa qs : Int} (h : newE n many pa ps qa qs = 0) : (1 ≤ many ∧ many ≤ 512) ∧ (newLp many pa ps qa qs).Fit n := by
  unfold newE at h
  split at h
  · cases h
  · split at h
    · cases h
    · rename_i h1 h2
      simp only [not_or, Bool.not_eq_false] at h2
      exact ⟨by omega, h2.1, h2.2.1, by show many ≤ ps; omega, by show (many + 7) / 8 ≤ qs; omega⟩
theorem newP_t (m : Nat) (bs : List Int) (many pa ps qa qs : Int) (hI : I64 many) : Tri P F.lpi_New [ptrV m, .int .i64 many, winV pa ps, winV qa qs] [memI m bs]
    fun v L' => if newE bs.length many pa ps qa qs = 0 then ∃ b, v = .tuple [ptrV b, .int .i64 0].toArray ∧ L' = [lpI b (newLp many pa ps qa qs), memI m bs] else v = .tuple [.pointer none, .int .i64 (newE bs.length many pa ps qa qs)].toArray ∧ L' = [memI m bs] := by
  intro w S hS
  refine lpi_New_cv ?_
  unfold lpi_New
  have H := Own.start hS
  refine alc_o H fun b7 wx H => alc_o H fun b9 wx H => join_o ?_
  unfold lpi_New_j2
  have bad1 : (many < 1 ∨ many > 512) → ∀ wx, X.Own w S [row b9 [.int .i64 qa, .int .i64 qs] T.t23, row b7 [.int .i64 pa, .int .i64 ps] T.t23, memI m bs] wx → ∃ L', (if newE bs.length many pa ps qa qs = 0 then ∃ b, (Value.tuple [.pointer none, .int .i64 1].toArray) = .tuple [ptrV b, .int .i64 0].toArray ∧ L' = [lpI b (newLp many pa ps qa qs), memI m bs] else (Value.tuple [.pointer none, .int .i64 1].toArray) = .tuple [.pointer none, .int .i64 (newE bs.length many pa ps qa qs)].toArray ∧ L' = [memI m bs]) ∧ X.Own w S L' wx := by
    intro h wx H
    have e : newE bs.length many pa ps qa qs = 1 := by unfold newE; rw [if_pos h]
    refine ⟨[memI m bs], ?_, H.drop (by repeat (first | exact Cut.nil | (apply Cut.cons; (repeat (first | exact Pick.here | apply Pick.there)))))⟩
    rw [e, if_neg (by decide)]
    exact ⟨rfl, rfl⟩
  refine cnd_i (fun h => cnd_i (fun _ => bad1 (.inl (of_decide_eq_true h)) _ H) (fun h => by cases h)) fun h => cnd_i (fun h2 => bad1 (.inr (of_decide_eq_true h2)) _ H) fun h2 => ?_
  have h := of_decide_eq_false h
  have h2 := of_decide_eq_false h2
  have hm : 1 ≤ many ∧ many ≤ 512 := by omega
  refine join_o ?_
  have bad2 : (holdsB bs.length pa ps = false ∨ holdsB bs.length qa qs = false ∨ ps < many ∨ qs < (many + 7) / 8) → ∀ wx, X.Own w S [row b9 [.int .i64 qa, .int .i64 qs] T.t23, row b7 [.int .i64 pa, .int .i64 ps] T.t23, memI m bs] wx →
      lpi_New_j1 many (fun v w' => ∃ L', (if newE bs.length many pa ps qa qs = 0 then ∃ b, v = .tuple [ptrV b, .int .i64 0].toArray ∧ L' = [lpI b (newLp many pa ps qa qs), memI m bs] else v = .tuple [.pointer none, .int .i64 (newE bs.length many pa ps qa qs)].toArray ∧ L' = [memI m bs]) ∧ X.Own w S L' w') b7 b9 true wx := by
    intro hb wx H
    unfold lpi_New_j1
    refine cnd_i (fun _ => ?_) (fun h => by cases h)
    have e : newE bs.length many pa ps qa qs = 42 := by unfold newE; rw [if_neg (by omega), if_pos hb]
    refine ⟨[memI m bs], ?_, H.drop (by repeat (first | exact Cut.nil | (apply Cut.cons; (repeat (first | exact Pick.here | apply Pick.there)))))⟩
    rw [e, if_neg (by decide)]
    exact ⟨rfl, rfl⟩
  repeat (first | refine ldI_o H (by repeat (first | exact Pick.here | apply Pick.there)) (by rfl) ?_ | refine ldL_o H (by repeat (first | exact Pick.here | apply Pick.there)) (by rfl) ?_ | refine ldB_o H (by repeat (first | exact Pick.here | apply Pick.there)) (by rfl) ?_ | refine ldP_o H (by repeat (first | exact Pick.here | apply Pick.there)) (by rfl) ?_ | refine ldS_o H (by repeat (first | exact Pick.here | apply Pick.there)) (by rfl) ?_)
  refine call_p H (holds_t m bs pa ps) (by repeat (first | exact Cut.nil | (apply Cut.cons; (repeat (first | exact Pick.here | apply Pick.there))))) fun wx H => ?_
  refine ⟨_, rfl, ?_⟩
  cases c1 : holdsB bs.length pa ps
  · exact cnd_i (fun _ => bad2 (.inl c1) _ H) (fun h => by cases h)
  refine cnd_i (fun h => by cases h) fun _ => ?_
  repeat (first | refine ldI_o H (by repeat (first | exact Pick.here | apply Pick.there)) (by rfl) ?_ | refine ldL_o H (by repeat (first | exact Pick.here | apply Pick.there)) (by rfl) ?_ | refine ldB_o H (by repeat (first | exact Pick.here | apply Pick.there)) (by rfl) ?_ | refine ldP_o H (by repeat (first | exact Pick.here | apply Pick.there)) (by rfl) ?_ | refine ldS_o H (by repeat (first | exact Pick.here | apply Pick.there)) (by rfl) ?_)
  refine call_p H (holds_t m bs qa qs) (by repeat (first | exact Cut.nil | (apply Cut.cons; (repeat (first | exact Pick.here | apply Pick.there))))) fun wx H => ?_
  refine ⟨_, rfl, ?_⟩
  cases c2 : holdsB bs.length qa qs
  · exact cnd_i (fun _ => bad2 (.inr (.inl c2)) _ H) (fun h => by cases h)
  refine cnd_i (fun h => by cases h) fun _ => ?_
  repeat (first | refine ldI_o H (by repeat (first | exact Pick.here | apply Pick.there)) (by rfl) ?_ | refine ldL_o H (by repeat (first | exact Pick.here | apply Pick.there)) (by rfl) ?_ | refine ldB_o H (by repeat (first | exact Pick.here | apply Pick.there)) (by rfl) ?_ | refine ldP_o H (by repeat (first | exact Pick.here | apply Pick.there)) (by rfl) ?_ | refine ldS_o H (by repeat (first | exact Pick.here | apply Pick.there)) (by rfl) ?_)
  refine cnd_i (fun c3 => bad2 (.inr (.inr (.inl (of_decide_eq_true c3)))) _ H) fun c3 => ?_
  have c3 := of_decide_eq_false c3
  repeat (first | refine ldI_o H (by repeat (first | exact Pick.here | apply Pick.there)) (by rfl) ?_ | refine ldL_o H (by repeat (first | exact Pick.here | apply Pick.there)) (by rfl) ?_ | refine ldB_o H (by repeat (first | exact Pick.here | apply Pick.there)) (by rfl) ?_ | refine ldP_o H (by repeat (first | exact Pick.here | apply Pick.there)) (by rfl) ?_ | refine ldS_o H (by repeat (first | exact Pick.here | apply Pick.there)) (by rfl) ?_)
  refine ⟨by omega, ?_⟩
  rw [W_id (n := many + 7) (by omega) (by omega), Int.tdiv_eq_ediv_of_nonneg (by omega), W_id (n := (many + 7) / 8) (by omega) (by omega)]
  cases c4 : decide (qs < (many + 7) / 8)
  case true => exact bad2 (.inr (.inr (.inr (of_decide_eq_true c4)))) _ H
  have c4 := of_decide_eq_false c4
  have e : newE bs.length many pa ps qa qs = 0 := by
    unfold newE
    rw [if_neg (by omega), if_neg]
    simp only [not_or, Bool.not_eq_false]
    exact ⟨c1, c2, by omega, by omega⟩
  have hok := newLp_ok hm pa ps qa qs
  unfold lpi_New_j1
  refine cnd_i (fun h => by cases h) fun _ => join_o ?_
  unfold lpi_New_j0
  refine drw_o H fun wx H => ?_
  repeat (first | refine ldI_o H (by repeat (first | exact Pick.here | apply Pick.there)) (by rfl) ?_ | refine ldL_o H (by repeat (first | exact Pick.here | apply Pick.there)) (by rfl) ?_ | refine ldB_o H (by repeat (first | exact Pick.here | apply Pick.there)) (by rfl) ?_ | refine ldP_o H (by repeat (first | exact Pick.here | apply Pick.there)) (by rfl) ?_ | refine ldS_o H (by repeat (first | exact Pick.here | apply Pick.there)) (by rfl) ?_)
  have fin : ∀ (b43 sb : Nat) (p : Option Addr) (c : Nat) wx, X.Own w S (row b43 [.int .i64 many, .bool false, .int .i64 pa, .int .i64 ps, .int .i64 qa, .int .i64 qs, .slice p many.toNat c, ptrV sb] T.t88 :: own tByte 1 (.slice p many.toNat c) many.toNat (u8s (List.replicate many.toNat 0)) :: setI sb [] :: [memI m bs]) wx →
      ∃ L', (if newE bs.length many pa ps qa qs = 0 then ∃ b, (Value.tuple [ptrV b43, .int .i64 0].toArray) = .tuple [ptrV b, .int .i64 0].toArray ∧ L' = [lpI b (newLp many pa ps qa qs), memI m bs] else (Value.tuple [ptrV b43, .int .i64 0].toArray) = .tuple [.pointer none, .int .i64 (newE bs.length many pa ps qa qs)].toArray ∧ L' = [memI m bs]) ∧ X.Own w S L' wx := by
    intro b43 sb p c wx H
    refine ⟨[lpI b43 (newLp many pa ps qa qs), memI m bs], by rw [e, if_pos rfl]; exact ⟨b43, rfl, rfl⟩, lp_shut (s := newLp many pa ps qa qs) (p := p) (c := c) (sb := sb) (F := [memI m bs]) ?_ hok⟩
    have el : (newLp many pa ps qa qs).cfg.length = many.toNat := List.length_replicate
    unfold lpCells
    rw [el]
    exact H
  refine ⟨?_, ?_⟩
  · refine make_o (by omega) (by omega) H fun p c wx H => ⟨?_, ?_, ?_⟩
    · repeat (first | refine ldI_o H (by repeat (first | exact Pick.here | apply Pick.there)) (by rfl) ?_ | refine ldL_o H (by repeat (first | exact Pick.here | apply Pick.there)) (by rfl) ?_ | refine ldB_o H (by repeat (first | exact Pick.here | apply Pick.there)) (by rfl) ?_ | refine ldP_o H (by repeat (first | exact Pick.here | apply Pick.there)) (by rfl) ?_ | refine ldS_o H (by repeat (first | exact Pick.here | apply Pick.there)) (by rfl) ?_)
      rfl
    · repeat (first | refine ldI_o H (by repeat (first | exact Pick.here | apply Pick.there)) (by rfl) ?_ | refine ldL_o H (by repeat (first | exact Pick.here | apply Pick.there)) (by rfl) ?_ | refine ldB_o H (by repeat (first | exact Pick.here | apply Pick.there)) (by rfl) ?_ | refine ldP_o H (by repeat (first | exact Pick.here | apply Pick.there)) (by rfl) ?_ | refine ldS_o H (by repeat (first | exact Pick.here | apply Pick.there)) (by rfl) ?_)
      rfl
    have H := own_nil (e := tInt) (size := 1) H
    refine call_o H (of_set_t (p := none) (c := 0) (ms := []) (own tInt 1 (.slice none 0 0) 0 []) own_sl (by simp)) (by repeat (first | exact Cut.nil | (apply Cut.cons; (repeat (first | exact Pick.here | apply Pick.there))))) fun vx L' wx hq H => ?_
    obtain ⟨sb, rfl, rfl⟩ := hq
    simp only [List.cons_append, List.nil_append] at H
    refine ⟨_, rfl, ?_, ?_, ?_⟩
    · repeat (first | refine ldI_o H (by repeat (first | exact Pick.here | apply Pick.there)) (by rfl) ?_ | refine ldL_o H (by repeat (first | exact Pick.here | apply Pick.there)) (by rfl) ?_ | refine ldB_o H (by repeat (first | exact Pick.here | apply Pick.there)) (by rfl) ?_ | refine ldP_o H (by repeat (first | exact Pick.here | apply Pick.there)) (by rfl) ?_ | refine ldS_o H (by repeat (first | exact Pick.here | apply Pick.there)) (by rfl) ?_)
      rfl
    · repeat (first | refine ldI_o H (by repeat (first | exact Pick.here | apply Pick.there)) (by rfl) ?_ | refine ldL_o H (by repeat (first | exact Pick.here | apply Pick.there)) (by rfl) ?_ | refine ldB_o H (by repeat (first | exact Pick.here | apply Pick.there)) (by rfl) ?_ | refine ldP_o H (by repeat (first | exact Pick.here | apply Pick.there)) (by rfl) ?_ | refine ldS_o H (by repeat (first | exact Pick.here | apply Pick.there)) (by rfl) ?_)
      rfl
    refine alc_o H fun b43 wx H => ?_
    exact fin b43 sb p c _ (H.drop (by repeat (first | exact Cut.nil | (apply Cut.cons; (repeat (first | exact Pick.here | apply Pick.there))))))
  · have H := own_nil (e := tInt) (size := 1) H
    refine call_o H (of_set_t (p := none) (c := 0) (ms := []) (own tInt 1 (.slice none 0 0) 0 []) own_sl (by simp)) (by repeat (first | exact Cut.nil | (apply Cut.cons; (repeat (first | exact Pick.here | apply Pick.there))))) fun vx L' wx hq H => ?_
    obtain ⟨sb, rfl, rfl⟩ := hq
    simp only [List.cons_append, List.nil_append] at H
    refine ⟨_, rfl, ?_, ?_, ?_⟩
    · repeat (first | refine ldI_o H (by repeat (first | exact Pick.here | apply Pick.there)) (by rfl) ?_ | refine ldL_o H (by repeat (first | exact Pick.here | apply Pick.there)) (by rfl) ?_ | refine ldB_o H (by repeat (first | exact Pick.here | apply Pick.there)) (by rfl) ?_ | refine ldP_o H (by repeat (first | exact Pick.here | apply Pick.there)) (by rfl) ?_ | refine ldS_o H (by repeat (first | exact Pick.here | apply Pick.there)) (by rfl) ?_)
      rfl
    · repeat (first | refine ldI_o H (by repeat (first | exact Pick.here | apply Pick.there)) (by rfl) ?_ | refine ldL_o H (by repeat (first | exact Pick.here | apply Pick.there)) (by rfl) ?_ | refine ldB_o H (by repeat (first | exact Pick.here | apply Pick.there)) (by rfl) ?_ | refine ldP_o H (by repeat (first | exact Pick.here | apply Pick.there)) (by rfl) ?_ | refine ldS_o H (by repeat (first | exact Pick.here | apply Pick.there)) (by rfl) ?_)
      rfl
    refine make_o (by omega) (by omega) H fun p c wx H => ⟨?_, ?_, ?_⟩
    · repeat (first | refine ldI_o H (by repeat (first | exact Pick.here | apply Pick.there)) (by rfl) ?_ | refine ldL_o H (by repeat (first | exact Pick.here | apply Pick.there)) (by rfl) ?_ | refine ldB_o H (by repeat (first | exact Pick.here | apply Pick.there)) (by rfl) ?_ | refine ldP_o H (by repeat (first | exact Pick.here | apply Pick.there)) (by rfl) ?_ | refine ldS_o H (by repeat (first | exact Pick.here | apply Pick.there)) (by rfl) ?_)
      rfl
    · repeat (first | refine ldI_o H (by repeat (first | exact Pick.here | apply Pick.there)) (by rfl) ?_ | refine ldL_o H (by repeat (first | exact Pick.here | apply Pick.there)) (by rfl) ?_ | refine ldB_o H (by repeat (first | exact Pick.here | apply Pick.there)) (by rfl) ?_ | refine ldP_o H (by repeat (first | exact Pick.here | apply Pick.there)) (by rfl) ?_ | refine ldS_o H (by repeat (first | exact Pick.here | apply Pick.there)) (by rfl) ?_)
      rfl
    refine alc_o H fun b43 wx H => ?_
    exact fin b43 sb p c _ (H.drop (by repeat (first | exact Cut.nil | (apply Cut.cons; (repeat (first | exact Pick.here | apply Pick.there))))))
theorem cloneB_t (i : It) {p : Option Addr} {c : Nat} {xs : List Int} (hi : ∀ w S, i.h w S → Sl w p (u8s xs)) (hl : xs.length ≤ 1000000) :
    Tri P F.slices_Clone__byte_byte [.slice p xs.length c] [i] fun v L' => ∃ p' c', v = .slice p' xs.length c' ∧ L' = [own tByte 1 (.slice p' xs.length c') xs.length (u8s xs), i] := by
  intro w S hS
  refine slices_Clone__byte_byte_cv ?_
  unfold slices_Clone__byte_byte
  have H := Own.start hS
  refine cnd_i (fun h => ?_) fun h => ?_
  · have : p = none := by cases p <;> simp_all
    subst this
    have := sl_nil (hi w S (sep_one.1 hS))
    have : xs = [] := by cases xs <;> simp_all [u8s]
    subst this
    exact ⟨_, ⟨none, 0, rfl, rfl⟩, own_nil H⟩
  · refine alc_i fun w1 hB1 h1 hs1 => ?_
    have hown : w1.ownsRow w.heap.size tByte 1 (.slice (some ⟨w.heap.size, 0, none⟩) 0 0) 0 [] :=
      ⟨by simp, .inr ⟨w.heap.size, 0, #[], rfl, Nat.le_refl _, h1, Nat.le_refl _, by simp [maxLen], by simp, by simp⟩⟩
    have H1 := own_add H (hB1 _ (Nat.le_refl _)) hown (Nat.le_refl _)
    refine app_o appBytes (by omega) H1 .here (H1.rd (i := i) (.there .here) hi) (by rw [u8s_length]; simp) (u8s_one xs) (by unfold maxLen; omega) (by omega) fun p' c' wx H => ?_
    simp only [Nat.zero_add, List.nil_append] at H ⊢
    exact ⟨_, ⟨p', c', rfl, rfl⟩, H⟩
theorem copyP_t (b : Nat) (s : Lp) : Tri P F.lpi_Lpis_Copy [ptrV b] [lpI b s] fun v L' => ∃ b', v = ptrV b' ∧ L' = [lpI b' s, lpI b s] := by
  intro w S hS
  refine lpi_Lpis_Copy_cv ?_
  unfold lpi_Lpis_Copy
  have H := Own.start hS
  obtain ⟨p, c, sb, h, H⟩ := lp_open H .here
  have hlen := h.len
  have hman := h.man
  dsimp only [nn]
  repeat (first | refine ldI_o H (by repeat (first | exact Pick.here | apply Pick.there)) (by rfl) ?_ | refine ldL_o H (by repeat (first | exact Pick.here | apply Pick.there)) (by rfl) ?_ | refine ldB_o H (by repeat (first | exact Pick.here | apply Pick.there)) (by rfl) ?_ | refine ldP_o H (by repeat (first | exact Pick.here | apply Pick.there)) (by rfl) ?_ | refine ldS_o H (by repeat (first | exact Pick.here | apply Pick.there)) (by rfl) ?_)
  refine alc_o H fun b13 wx H => ?_
  refine st1_o H (by repeat (first | exact Rep.here | apply Rep.there)) (by simp) fun wx H => ?_
  refine st1_o H (by repeat (first | exact Rep.here | apply Rep.there)) (by simp) fun wx H => ?_
  refine st1_o H (by repeat (first | exact Rep.here | apply Rep.there)) (by simp) fun wx H => ?_
  refine st1_o H (by repeat (first | exact Rep.here | apply Rep.there)) (by simp) fun wx H => ?_
  refine st1_o H (by repeat (first | exact Rep.here | apply Rep.there)) (by simp) fun wx H => ?_
  refine st1_o H (by repeat (first | exact Rep.here | apply Rep.there)) (by simp) fun wx H => ?_
  refine st1_o H (by repeat (first | exact Rep.here | apply Rep.there)) (by simp) fun wx H => ?_
  refine st1_o H (by repeat (first | exact Rep.here | apply Rep.there)) (by simp) fun wx H => ?_
  simp only [List.set_cons_zero, List.set_cons_succ] at H
  refine drw_o H fun wx H => ?_
  repeat (first | refine ldI_o H (by repeat (first | exact Pick.here | apply Pick.there)) (by rfl) ?_ | refine ldL_o H (by repeat (first | exact Pick.here | apply Pick.there)) (by rfl) ?_ | refine ldB_o H (by repeat (first | exact Pick.here | apply Pick.there)) (by rfl) ?_ | refine ldP_o H (by repeat (first | exact Pick.here | apply Pick.there)) (by rfl) ?_ | refine ldS_o H (by repeat (first | exact Pick.here | apply Pick.there)) (by rfl) ?_)
  refine call_o H (cloneB_t (own tByte 1 (.slice p s.cfg.length c) s.cfg.length (u8s s.cfg)) own_sl (by omega)) (by repeat (first | exact Cut.nil | (apply Cut.cons; (repeat (first | exact Pick.here | apply Pick.there))))) fun vx L' wx hq H => ?_
  obtain ⟨p', c', rfl, rfl⟩ := hq
  simp only [List.cons_append, List.nil_append] at H
  refine ⟨_, _, _, rfl, ?_, ?_⟩
  · repeat (first | refine ldI_o H (by repeat (first | exact Pick.here | apply Pick.there)) (by rfl) ?_ | refine ldL_o H (by repeat (first | exact Pick.here | apply Pick.there)) (by rfl) ?_ | refine ldB_o H (by repeat (first | exact Pick.here | apply Pick.there)) (by rfl) ?_ | refine ldP_o H (by repeat (first | exact Pick.here | apply Pick.there)) (by rfl) ?_ | refine ldS_o H (by repeat (first | exact Pick.here | apply Pick.there)) (by rfl) ?_)
    rfl
  refine call_o H (copy_set_t sb s.wt) (by repeat (first | exact Cut.nil | (apply Cut.cons; (repeat (first | exact Pick.here | apply Pick.there))))) fun vx L' wx hq H => ?_
  obtain ⟨sb', rfl, rfl⟩ := hq
  simp only [List.cons_append, List.nil_append] at H
  refine ⟨_, rfl, ?_⟩
  refine st1_o H (by repeat (first | exact Rep.here | apply Rep.there)) (by simp) fun wx H => ?_
  refine st1_o H (by repeat (first | exact Rep.here | apply Rep.there)) (by simp) fun wx H => ?_
  simp only [List.set_cons_zero, List.set_cons_succ] at H
  have H := H.drop (L1 := row b (lpCells s p c sb) T.t88 :: own tByte 1 (.slice p s.cfg.length c) s.cfg.length (u8s s.cfg) :: setI sb s.wt :: [row b13 (lpCells s p' c' sb') T.t88, own tByte 1 (.slice p' s.cfg.length c') s.cfg.length (u8s s.cfg), setI sb' s.wt]) (by repeat (first | exact Cut.nil | (apply Cut.cons; (repeat (first | exact Pick.here | apply Pick.there)))))
  have H := lp_shut H h
  have H := H.perm (L1 := [row b13 (lpCells s p' c' sb') T.t88, own tByte 1 (.slice p' s.cfg.length c') s.cfg.length (u8s s.cfg), setI sb' s.wt]) (by repeat (first | exact Cut.nil | (apply Cut.cons; (repeat (first | exact Pick.here | apply Pick.there)))))
  exact ⟨_, ⟨b13, rfl, rfl⟩, lp_shut H h⟩
end Go.Proofs.YtgjddhpblpfneaaDoor
