/-
  lpi: the reference: set, read anew, let in.
-/
import Derived.Test.YtgjddhpblpfneaaDoorL9
namespace Go.Proofs.YtgjddhpblpfneaaDoor
open Go Go.RowKit X
set_option maxRecDepth 100000
set_option linter.unusedVariables false
set_option linter.unusedSimpArgs false
set_option maxHeartbeats 1000000
theorem rSet_t (b m : Nat) (s : Lp) (bs : List Int) (hf : s.Fit bs.length) (id : Int) (hid : I64 id) (is : Bool) : Tri P F.crierref15_Lpis_Set [ptrV b, ptrV m, .int .i64 id, .bool is] [rI b s, memI m bs]
    fun v L' => v = .tuple [.bool (setR s bs id).1, .int .i64 (setR s bs id).2].toArray ∧ L' = [rI b (setMs s id is), memI m (setMb s bs id is)] := by
  intro w S hS
  refine crierref15_Lpis_Set_cv ?_
  unfold crierref15_Lpis_Set
  have H := Own.start hS
  refine call_p H (rOf_t b s id) (by repeat (first | exact Cut.nil | (apply Cut.cons; (repeat (first | exact Pick.here | apply Pick.there))))) fun wx H => ?_
  refine ⟨_, rfl, ?_⟩
  unfold setR setMs setMb
  cases hi : inB s.many id
  · exact cnd_i (fun _ => ⟨_, ⟨rfl, rfl⟩, H⟩) (fun h => by cases h)
  refine cnd_i (fun h => by cases h) fun _ => ?_
  have hi' := inB_iff.1 hi
  refine call_p H (rHas_t b m s bs hf id hid) (by repeat (first | exact Cut.nil | (apply Cut.cons; (repeat (first | exact Pick.here | apply Pick.there))))) fun wx H => ?_
  refine ⟨_, rfl, ?_⟩
  obtain ⟨p, c, q, c2, h, H⟩ := r_open H .here
  have hman := h.man
  have hwl := h.wlen
  dsimp only [nn]
  rw [W_id (by omega) (by omega)]
  have hk : id - 8192 = (((id - 8192).toNat : Nat) : Int) := by omega
  refine ldB_o H (by repeat (first | exact Pick.here | apply Pick.there)) (by rfl) ?_
  rw [if_pos (show (true : Bool) = true from rfl)]
  refine cnd_i (fun hc => ?_) fun hc => ?_
  · have hon : s.on = false := by simpa using hc
    rw [if_neg (show ¬ (true && s.on) = true by rw [hon]; decide), if_pos (show (true && !s.on) = true by rw [hon]; rfl)]
    have H := r_shut H h
    rw [hk]
    refine call_o H (rStore_t b m s bs hf (k := (id - 8192).toNat) (by omega) is) (by repeat (first | exact Cut.nil | (apply Cut.cons; (repeat (first | exact Pick.here | apply Pick.there))))) fun vx L' wx hq H => ?_
    obtain ⟨rfl, rfl⟩ := hq
    simp only [List.cons_append, List.nil_append] at H
    exact ⟨rfl, _, ⟨rfl, rfl⟩, H⟩
  · have hon : s.on = true := by simpa using hc
    rw [if_pos (show (true && s.on) = true by rw [hon]; rfl), if_neg (show ¬ (true && !s.on) = true by rw [hon]; decide)]
    have hok := setMs_ok0 h id is
    unfold setMs at hok
    rw [if_pos (by rw [hi, hon]; rfl)] at hok
    repeat (first | refine ldI_o H (by repeat (first | exact Pick.here | apply Pick.there)) (by rfl) ?_ | refine ldL_o H (by repeat (first | exact Pick.here | apply Pick.there)) (by rfl) ?_ | refine ldB_o H (by repeat (first | exact Pick.here | apply Pick.there)) (by rfl) ?_ | refine ldP_o H (by repeat (first | exact Pick.here | apply Pick.there)) (by rfl) ?_ | refine ldS_o H (by repeat (first | exact Pick.here | apply Pick.there)) (by rfl) ?_)
    refine call_o H (rTake_t (p := q) (c := c2) (l := s.wt) (by omega) (id - 8192)) (by repeat (first | exact Cut.nil | (apply Cut.cons; (repeat (first | exact Pick.here | apply Pick.there))))) fun vx L' wx hq H => ?_
    obtain ⟨p1, c1, rfl, rfl⟩ := hq
    simp only [List.cons_append, List.nil_append] at H
    refine ⟨_, _, _, rfl, ?_⟩
    refine st1_o H (by repeat (first | exact Rep.here | apply Rep.there)) (by simp) fun wx H => ?_
    simp only [List.set_cons_zero, List.set_cons_succ] at H
    refine join_o ?_
    unfold crierref15_Lpis_Set_j0
    cases is
    · refine cnd_i (fun h => by cases h) fun _ => ?_
      have H := r_shut (s := { s with wt := takeL s.wt (id - 8192) }) (p := p) (c := c) (q := p1) (c2 := c1) (F := [memI m bs]) (H.drop (by repeat (first | exact Cut.nil | (apply Cut.cons; (repeat (first | exact Pick.here | apply Pick.there)))))) hok
      exact ⟨_, ⟨rfl, rfl⟩, H⟩
    · refine cnd_i (fun _ => ?_) (fun h => by cases h)
      repeat (first | refine ldI_o H (by repeat (first | exact Pick.here | apply Pick.there)) (by rfl) ?_ | refine ldL_o H (by repeat (first | exact Pick.here | apply Pick.there)) (by rfl) ?_ | refine ldB_o H (by repeat (first | exact Pick.here | apply Pick.there)) (by rfl) ?_ | refine ldP_o H (by repeat (first | exact Pick.here | apply Pick.there)) (by rfl) ?_ | refine ldS_o H (by repeat (first | exact Pick.here | apply Pick.there)) (by rfl) ?_)
      have hlt : (takeL s.wt (id - 8192)).length ≤ s.wt.length := List.length_filter_le _ _
      refine call_o H (rPut_t (p := p1) (c := c1) (l := takeL s.wt (id - 8192)) (takeL_up h.up) (by omega) (id - 8192)) (by repeat (first | exact Cut.nil | (apply Cut.cons; (repeat (first | exact Pick.here | apply Pick.there))))) fun vx L' wx hq H => ?_
      obtain ⟨p2, c3, rfl, rfl⟩ := hq
      simp only [List.cons_append, List.nil_append] at H
      refine ⟨_, _, _, rfl, ?_⟩
      refine st1_o H (by repeat (first | exact Rep.here | apply Rep.there)) (by simp) fun wx H => ?_
      simp only [List.set_cons_zero, List.set_cons_succ] at H
      have e : putL (takeL s.wt (id - 8192)) (id - 8192) = putL s.wt (id - 8192) := by
        refine sext (putL_up (takeL_up h.up)) (putL_up h.up) fun x => ?_
        rw [mem_putL, mem_putL, mem_takeL]
        have hmay : mayL (id - 8192) = true := mayL_iff.2 (by omega)
        constructor
        · rintro (⟨h1, _⟩ | h1)
          · exact .inl h1
          · exact .inr h1
        · rintro (h1 | h1)
          · by_cases hx : (x : Int) = id - 8192
            · exact .inr ⟨hmay, hx⟩
            · exact .inl ⟨h1, hx⟩
          · exact .inr h1
      rw [e] at H
      have H := r_shut (s := { s with wt := putL s.wt (id - 8192) }) (p := p) (c := c) (q := p2) (c2 := c3) (F := [memI m bs]) (H.drop (L1 := [row b (rCells { s with wt := putL s.wt (id - 8192) } p c p2 c3) T.t90, own tByte 1 (.slice p s.cfg.length c) s.cfg.length (u8s s.cfg), ilN p2 c3 (putL s.wt (id - 8192)), memI m bs]) (by repeat (first | exact Cut.nil | (apply Cut.cons; (repeat (first | exact Pick.here | apply Pick.there)))))) hok
      exact ⟨_, ⟨rfl, rfl⟩, H⟩
theorem rInv_t (b m : Nat) (s : Lp) (bs : List Int) (hf : s.Fit bs.length) (id : Int) (hid : I64 id) : Tri P F.crierref15_Lpis_Inv [ptrV b, ptrV m, .int .i64 id] [rI b s, memI m bs]
    fun v L' => v = .int .i64 (if inB s.many id then 0 else 150) ∧ L' = [rI b (invM s bs id), memI m bs] := by
  intro w S hS
  refine crierref15_Lpis_Inv_cv ?_
  unfold crierref15_Lpis_Inv
  have H := Own.start hS
  obtain ⟨hr, hl⟩ := mem_facts H (b := m) (bs := bs) (by repeat (first | exact Pick.here | apply Pick.there))
  refine call_p H (rOf_t b s id) (by repeat (first | exact Cut.nil | (apply Cut.cons; (repeat (first | exact Pick.here | apply Pick.there))))) fun wx H => ?_
  refine ⟨_, rfl, ?_⟩
  cases hi : inB s.many id
  · refine cnd_i (fun _ => ⟨_, ⟨rfl, rfl⟩, ?_⟩) (fun h => by cases h)
    unfold invM; rw [hi]; exact H
  refine cnd_i (fun h => by cases h) fun _ => ?_
  have hi' := inB_iff.1 hi
  refine drw_o H fun wx H => ?_
  obtain ⟨p, c, q, c2, h, H⟩ := r_open H .here
  have hman := h.man
  have hmp := hf.mp
  have hlen := h.len
  have hwin := holdsB_iff.1 hf.hp
  obtain ⟨d, cd, rest, tb, td, H, hc, _, _⟩ := mem_open H (b := m) (bs := bs) (by repeat (first | exact Pick.here | apply Pick.there))
  dsimp only [nn]
  repeat (first | refine ldI_o H (by repeat (first | exact Pick.here | apply Pick.there)) (by rfl) ?_ | refine ldL_o H (by repeat (first | exact Pick.here | apply Pick.there)) (by rfl) ?_ | refine ldB_o H (by repeat (first | exact Pick.here | apply Pick.there)) (by rfl) ?_ | refine ldP_o H (by repeat (first | exact Pick.here | apply Pick.there)) (by rfl) ?_ | refine ldS_o H (by repeat (first | exact Pick.here | apply Pick.there)) (by rfl) ?_)
  have hj : (s.pa + (id - 8192)).toNat < bs.length := by omega
  rw [W_id (n := s.pa + id) (by omega) (by omega), W_id (n := s.pa + id - 8192) (by omega) (by omega), W_id (n := id - 8192) (by omega) (by omega), show s.pa + id - 8192 = (((s.pa + (id - 8192)).toNat : Nat) : Int) by omega]
  refine ix_i hj ?_
  dsimp only
  rw [add_lit, Nat.mul_one, Nat.zero_add]
  have hb := byteN_get hr hj
  have hcell : (u8s bs ++ rest)[(s.pa + (id - 8192)).toNat]? = some (.int .u8 (byteN bs (s.pa + (id - 8192)).toNat : Nat)) := by
    rw [List.getElem?_append_left (by rw [u8s_length]; exact hj)]; simp [u8s, hb]
  refine ldI_o H (b := d) (t := td) (by repeat (first | exact Pick.here | apply Pick.there)) hcell ?_
  have H := mem_shut H rfl hc hr hl
  have hok := invM_ok0 h hr id
  have hk : id - 8192 = (((id - 8192).toNat : Nat) : Int) := by omega
  unfold invM at hok ⊢
  rw [hi] at hok ⊢
  simp only [if_true] at hok ⊢
  generalize (byteN bs (s.pa + (id - 8192)).toNat) = x at *
  generalize (id - 8192).toNat = k at *
  rw [hk]
  refine ix_i (by omega) ?_
  refine ost_o H (by repeat (first | exact Rep.here | apply Rep.there)) (by omega) fun wx H => ?_
  refine ⟨_, ⟨trivial, rfl⟩, r_shut (s := { s with cfg := s.cfg.set k (x : Nat) }) (p := p) (c := c) (q := q) (c2 := c2) ?_ hok⟩
  unfold rCells
  dsimp only
  rw [List.length_set, ← u8s_set]
  exact H.drop (by repeat (first | exact Cut.nil | (apply Cut.cons; (repeat (first | exact Pick.here | apply Pick.there)))))
theorem rInvAll_t (b m : Nat) (s : Lp) (bs : List Int) (hf : s.Fit bs.length) : Tri P F.crierref15_Lpis_InvAll [ptrV b, ptrV m] [rI b s, memI m bs] fun v L' => v = .tuple [].toArray ∧ L' = [rI b (allM s bs), memI m bs] := by
  intro w S hS
  refine crierref15_Lpis_InvAll_cv ?_
  unfold crierref15_Lpis_InvAll
  have H := Own.start hS
  obtain ⟨hr, hl⟩ := mem_facts H (b := m) (bs := bs) (by repeat (first | exact Pick.here | apply Pick.there))
  have h := r_ok H .here
  have hman := h.man
  have hmp := hf.mp
  have hlen := h.len
  have hwin := holdsB_iff.1 hf.hp
  refine loop_o (fun (st : Int) L => ∃ i : Nat, (i : Int) ≤ s.many ∧ st = i ∧ L = [rI b (partM s bs i), memI m bs]) (fun (st : Int) => (s.many - st).toNat) H ⟨0, by omega, rfl, by unfold partM cfgTo; simp⟩ ?_
  rintro _ _ wx ⟨i, hi, rfl, rfl⟩ H
  unfold crierref15_Lpis_InvAll_l0
  obtain ⟨p, c, q, c2, hp, H⟩ := r_open H .here
  dsimp only [nn]
  have hcl : (cfgTo s bs i).length = s.cfg.length := cfgTo_len s bs (by omega)
  refine ldI_o H (by repeat (first | exact Pick.here | apply Pick.there)) (by rfl) (cnd_i (fun hc => ?_) fun hc => ?_)
  · have hc : (i : Int) < s.many := of_decide_eq_true hc
    refine drw_o H fun wx H => ?_
    obtain ⟨d, cd, rest, tb, td, H, hcd, _, _⟩ := mem_open H (b := m) (bs := bs) (by repeat (first | exact Pick.here | apply Pick.there))
    repeat (first | refine ldI_o H (by repeat (first | exact Pick.here | apply Pick.there)) (by rfl) ?_ | refine ldL_o H (by repeat (first | exact Pick.here | apply Pick.there)) (by rfl) ?_ | refine ldB_o H (by repeat (first | exact Pick.here | apply Pick.there)) (by rfl) ?_ | refine ldP_o H (by repeat (first | exact Pick.here | apply Pick.there)) (by rfl) ?_ | refine ldS_o H (by repeat (first | exact Pick.here | apply Pick.there)) (by rfl) ?_)
    have hj : (s.pa + (i : Int)).toNat < bs.length := by omega
    rw [show (partM s bs i).pa = s.pa from rfl, W_id (n := s.pa + (i : Int)) (by omega) (by omega), show s.pa + (i : Int) = (((s.pa + (i : Int)).toNat : Nat) : Int) by omega]
    refine ix_i hj ?_
    dsimp only
    rw [add_lit, Nat.mul_one, Nat.zero_add]
    have hb := byteN_get hr hj
    have hcell : (u8s bs ++ rest)[(s.pa + (i : Int)).toNat]? = some (.int .u8 (byteN bs (s.pa + (i : Int)).toNat : Nat)) := by
      rw [List.getElem?_append_left (by rw [u8s_length]; exact hj)]; simp [u8s, hb]
    refine ldI_o H (b := d) (t := td) (by repeat (first | exact Pick.here | apply Pick.there)) hcell ?_
    have H := mem_shut H rfl hcd hr hl
    refine ix_i (show i < (cfgTo s bs i).length by omega) ?_
    refine ost_o H (by repeat (first | exact Rep.here | apply Rep.there)) (show i < (cfgTo s bs i).length by omega) fun wx H => ?_
    rw [W_id (by omega) (by omega)]
    refine ⟨⟨[rI b (partM s bs (i + 1)), memI m bs], ⟨i + 1, by omega, by push_cast; rfl, rfl⟩, ?_⟩, by omega⟩
    have e := cfgTo_next s bs (i := i) (by omega)
    have e2 : (cfgTo s bs (i + 1)).length = (cfgTo s bs i).length := by rw [← e, List.length_set]
    refine r_shut (s := partM s bs (i + 1)) (p := p) (c := c) (q := q) (c2 := c2) ?_ (partM_ok0 h hr (by omega))
    unfold rCells partM at *
    dsimp only at *
    rw [e2, ← e, ← u8s_set]
    exact H.drop (by repeat (first | exact Cut.nil | (apply Cut.cons; (repeat (first | exact Pick.here | apply Pick.there)))))
  · have hc : ¬ (i : Int) < s.many := of_decide_eq_false hc
    have : i = s.many.toNat := by omega
    subst this
    exact ⟨_, ⟨rfl, rfl⟩, r_shut H hp⟩
def reS (s : Lp) (bs : List Int) (i : Nat) : Lp := { s with wt := enW bs s.qa i }
theorem reS_ok {s : Lp} (h : s.Ok0) (bs : List Int) {i : Nat} (hi : (i : Int) ≤ s.many) : (reS s bs i).Ok0 :=
  ⟨h.man, h.len, h.byt, enW_up _ _ _, fun x hx => by have := enW_lt bs s.qa i x hx; show (x : Int) < s.many; omega⟩
theorem rEnable_t (b m : Nat) (s : Lp) (bs : List Int) (hf : s.Fit bs.length) : Tri P F.crierref15_Lpis_Enable [ptrV b, ptrV m] [rI b s, memI m bs] fun v L' => v = .tuple [].toArray ∧ L' = [rI b (enM s bs).1, memI m (enM s bs).2] := by
  intro w S hS
  refine crierref15_Lpis_Enable_cv ?_
  unfold crierref15_Lpis_Enable enM
  have H := Own.start hS
  obtain ⟨hr, hl⟩ := mem_facts H (b := m) (bs := bs) (by repeat (first | exact Pick.here | apply Pick.there))
  obtain ⟨p, c, q, c2, h, H⟩ := r_open H .here
  have hman := h.man
  dsimp only [nn]
  refine ldB_o H (by repeat (first | exact Pick.here | apply Pick.there)) (by rfl) (cnd_i (fun hon => ?_) fun hon => ?_)
  · rw [if_pos hon]
    exact ⟨_, ⟨rfl, rfl⟩, r_shut H h⟩
  · rw [if_neg (by rw [hon]; decide)]
    refine st1_o H (by repeat (first | exact Rep.here | apply Rep.there)) (by simp) fun wx H => ?_
    simp only [List.set_cons_zero, List.set_cons_succ] at H
    have H := own_nil (e := tInt) (size := 1) H
    have H := r_shut (s := reS s bs 0) (p := p) (c := c) (q := none) (c2 := 0) (F := [memI m bs]) (H.drop (L1 := [row b (rCells (reS s bs 0) p c none 0) T.t90, own tByte 1 (.slice p s.cfg.length c) s.cfg.length (u8s s.cfg), own tInt 1 (.slice none 0 0) 0 [], memI m bs]) (by repeat (first | exact Cut.nil | (apply Cut.cons; (repeat (first | exact Pick.here | apply Pick.there)))))) (reS_ok h bs (by omega))
    refine loop_o (fun (st : Int) L => ∃ i : Nat, (i : Int) ≤ s.many ∧ st = i ∧ L = [rI b (reS s bs i), memI m (enB bs s.qa i)]) (fun (st : Int) => (s.many - st).toNat) H ⟨0, by omega, rfl, rfl⟩ ?_
    rintro _ _ wx ⟨i, hi, rfl, rfl⟩ H
    unfold crierref15_Lpis_Enable_l1
    have hle := enB_len bs s.qa i
    have hfi : (reS s bs i).Fit (enB bs s.qa i).length := by rw [hle]; exact fit_of hf rfl rfl rfl rfl rfl
    obtain ⟨p, c, q, c2, h1, H⟩ := r_open H .here
    dsimp only [nn]
    refine ldI_o H (by repeat (first | exact Pick.here | apply Pick.there)) (by rfl) (cnd_i (fun hc => join_o ?_) fun hc => ?_)
    · have hc : (i : Int) < s.many := of_decide_eq_true hc
      have H := r_shut H h1
      refine call_p H (rBit_t b m (reS s bs i) (enB bs s.qa i) hfi (k := i) hc) (by repeat (first | exact Cut.nil | (apply Cut.cons; (repeat (first | exact Pick.here | apply Pick.there))))) fun wx H => ?_
      refine ⟨_, rfl, ?_⟩
      -- behind the bit: it is put to 0
      have fin : ∀ wx, X.Own w S [rI b (reS s bs (i + 1)), memI m (enB bs s.qa i)] wx →
          crierref15_Lpis_Enable_j0 (some ⟨b, 0, none⟩) (some ⟨m, 0, none⟩) (i : Int) (fun (s' : Int) w' => (∃ L', (∃ i : Nat, (i : Int) ≤ s.many ∧ s' = i ∧ L' = [rI b (reS s bs i), memI m (enB bs s.qa i)]) ∧ X.Own w S L' w') ∧ (s.many - s').toNat < (s.many - (i : Int)).toNat) wx := by
        intro wx H
        unfold crierref15_Lpis_Enable_j0
        obtain ⟨hr', hl'⟩ := mem_facts H (b := m) (bs := enB bs s.qa i) (by repeat (first | exact Pick.here | apply Pick.there))
        refine call_o H (rStore_t b m (reS s bs (i + 1)) (enB bs s.qa i) (by rw [hle]; exact fit_of hf rfl rfl rfl rfl rfl) (k := i) hc false) (by repeat (first | exact Cut.nil | (apply Cut.cons; (repeat (first | exact Pick.here | apply Pick.there))))) fun vx L' wx hq H => ?_
        obtain ⟨rfl, rfl⟩ := hq
        simp only [List.cons_append, List.nil_append] at H
        rw [W_id (by omega) (by omega)]
        have e : stoM (enB bs s.qa i) (reS s bs (i + 1)).qa i false = enB bs s.qa (i + 1) := by
          show stoM (enB bs s.qa i) s.qa i false = _
          rw [enB]
          split
          · rfl
          · rename_i hb
            exact stoM_same hr' (fit_at hfi (k := i) hc).2.1 (show bitM (enB bs s.qa i) s.qa i = false by simpa using hb)
        rw [e] at H
        exact ⟨rfl, ⟨_, ⟨i + 1, by omega, by push_cast; rfl, rfl⟩, H⟩, by omega⟩
      refine cnd_i (fun hb => ?_) fun hb => ?_
      · have hb : bitM (enB bs s.qa i) s.qa i = true := hb
        have e2 : enW bs s.qa (i + 1) = putL (enW bs s.qa i) (i : Int) := by rw [enW, if_pos hb]
        obtain ⟨p, c, q, c2, h2, H⟩ := r_open H .here
        have hwl := h2.wlen
        repeat (first | refine ldI_o H (by repeat (first | exact Pick.here | apply Pick.there)) (by rfl) ?_ | refine ldL_o H (by repeat (first | exact Pick.here | apply Pick.there)) (by rfl) ?_ | refine ldB_o H (by repeat (first | exact Pick.here | apply Pick.there)) (by rfl) ?_ | refine ldP_o H (by repeat (first | exact Pick.here | apply Pick.there)) (by rfl) ?_ | refine ldS_o H (by repeat (first | exact Pick.here | apply Pick.there)) (by rfl) ?_)
        refine call_o H (rPut_t (p := q) (c := c2) (l := (reS s bs i).wt) h2.up (by omega) i) (by repeat (first | exact Cut.nil | (apply Cut.cons; (repeat (first | exact Pick.here | apply Pick.there))))) fun vx L' wx hq H => ?_
        obtain ⟨p1, c1, rfl, rfl⟩ := hq
        simp only [List.cons_append, List.nil_append] at H
        refine ⟨_, _, _, rfl, ?_⟩
        refine st1_o H (by repeat (first | exact Rep.here | apply Rep.there)) (by simp) fun wx H => ?_
        simp only [List.set_cons_zero, List.set_cons_succ] at H
        have e3 : putL (reS s bs i).wt (i : Int) = enW bs s.qa (i + 1) := e2.symm
        rw [e3] at H
        exact fin _ (r_shut (s := reS s bs (i + 1)) (p := p) (c := c) (q := p1) (c2 := c1) (F := [memI m (enB bs s.qa i)]) (H.drop (L1 := [row b (rCells (reS s bs (i + 1)) p c p1 c1) T.t90, own tByte 1 (.slice p s.cfg.length c) s.cfg.length (u8s s.cfg), ilN p1 c1 (enW bs s.qa (i + 1)), memI m (enB bs s.qa i)]) (by repeat (first | exact Cut.nil | (apply Cut.cons; (repeat (first | exact Pick.here | apply Pick.there)))))) (reS_ok h bs (by omega)))
      · have hb : ¬ bitM (enB bs s.qa i) s.qa i = true := by rw [show bitM (enB bs s.qa i) s.qa i = false from hb]; decide
        have e2 : enW bs s.qa (i + 1) = enW bs s.qa i := by rw [enW, if_neg hb]
        refine fin _ ?_
        unfold reS
        rw [e2]; exact H
    · have hc : ¬ (i : Int) < s.many := of_decide_eq_false hc
      have : i = s.many.toNat := by omega
      subst this
      refine st1_o H (by repeat (first | exact Rep.here | apply Rep.there)) (by simp) fun wx H => ?_
      simp only [List.set_cons_zero, List.set_cons_succ] at H
      have H := r_shut (s := enS s bs s.many.toNat) (p := p) (c := c) (q := q) (c2 := c2) (F := [memI m (enB bs s.qa s.many.toNat)]) (H.drop (by repeat (first | exact Cut.nil | (apply Cut.cons; (repeat (first | exact Pick.here | apply Pick.there)))))) ⟨h.man, h.len, h.byt, h1.up, h1.wlt⟩
      refine call_o H (rInvAll_t b m (enS s bs s.many.toNat) (enB bs s.qa s.many.toNat) (by rw [hle]; exact fit_of hf rfl rfl rfl rfl rfl)) (by repeat (first | exact Cut.nil | (apply Cut.cons; (repeat (first | exact Pick.here | apply Pick.there))))) fun vx L' wx hq H => ?_
      obtain ⟨rfl, rfl⟩ := hq
      simp only [List.cons_append, List.nil_append] at H
      exact ⟨rfl, _, ⟨rfl, rfl⟩, H⟩
theorem rDisable_t (b m : Nat) (s : Lp) (bs : List Int) (hs : s.Ok) (hf : s.Fit bs.length) : Tri P F.crierref15_Lpis_Disable [ptrV b, ptrV m] [rI b s, memI m bs] fun v L' => v = .tuple [].toArray ∧ L' = [rI b (diM s), memI m (diB bs s.qa s.wt)] := by
  intro w S hS
  refine crierref15_Lpis_Disable_cv ?_
  unfold crierref15_Lpis_Disable
  have H := Own.start hS
  obtain ⟨p, c, q, c2, h, H⟩ := r_open H .here
  have hman := h.man
  have hwl := h.wlen
  dsimp only [nn]
  refine ldB_o H (by repeat (first | exact Pick.here | apply Pick.there)) (by rfl) (cnd_i (fun hc => ?_) fun hc => ?_)
  · have hon : s.on = false := by simpa using hc
    have hw := hs.off hon
    have e1 : diM s = s := by
      unfold diM
      rw [← hon, ← hw]
    rw [e1, hw]
    exact ⟨_, ⟨rfl, rfl⟩, r_shut H h⟩
  · have H := r_shut H h
    refine loop_o (fun (st : Int) L => ∃ i : Nat, i ≤ s.wt.length ∧ st = i ∧ L = [rI b s, memI m (diB bs s.qa (s.wt.take i))]) (fun (st : Int) => ((s.wt.length : Int) - st).toNat) H ⟨0, by omega, rfl, rfl⟩ ?_
    rintro _ _ wx ⟨i, hi, rfl, rfl⟩ H
    unfold crierref15_Lpis_Disable_l0
    obtain ⟨p, c, q, c2, _, H⟩ := r_open H .here
    dsimp only [nn]
    refine ldL_o H (by repeat (first | exact Pick.here | apply Pick.there)) (by rfl) (cnd_i (fun hc => ?_) fun hc => ?_)
    · have hc := of_decide_eq_true hc
      have hil : i < s.wt.length := by omega
      repeat (first | refine ldI_o H (by repeat (first | exact Pick.here | apply Pick.there)) (by rfl) ?_ | refine ldL_o H (by repeat (first | exact Pick.here | apply Pick.there)) (by rfl) ?_ | refine ldB_o H (by repeat (first | exact Pick.here | apply Pick.there)) (by rfl) ?_ | refine ldP_o H (by repeat (first | exact Pick.here | apply Pick.there)) (by rfl) ?_ | refine ldS_o H (by repeat (first | exact Pick.here | apply Pick.there)) (by rfl) ?_)
      have hx : (natI s.wt)[i]? = some ((s.wt[i] : Nat) : Int) := by simp [natI, hil]
      refine rd_n H (by repeat (first | exact Pick.here | apply Pick.there)) (hx) ?_
      have hwlt := h.wlt _ (List.getElem_mem hil)
      have H := r_shut H h
      refine call_o H (rStore_t b m s (diB bs s.qa (s.wt.take i)) (by rw [diB_len]; exact hf) (k := s.wt[i]) hwlt true) (by repeat (first | exact Cut.nil | (apply Cut.cons; (repeat (first | exact Pick.here | apply Pick.there))))) fun vx L' wx hq H => ?_
      obtain ⟨rfl, rfl⟩ := hq
      rw [diB_snoc hil] at H
      simp only [List.cons_append, List.nil_append] at H
      rw [W_id (by omega) (by omega)]
      exact ⟨rfl, ⟨_, ⟨i + 1, by omega, by push_cast; rfl, rfl⟩, H⟩, by omega⟩
    · have hc := of_decide_eq_false hc
      have : i = s.wt.length := by omega
      subst this
      rw [List.take_length] at H
      refine st1_o H (by repeat (first | exact Rep.here | apply Rep.there)) (by simp) fun wx H => ?_
      refine st1_o H (by repeat (first | exact Rep.here | apply Rep.there)) (by simp) fun wx H => ?_
      simp only [List.set_cons_zero, List.set_cons_succ] at H
      have H := own_nil (e := tInt) (size := 1) H
      have H := r_shut (s := diM s) (p := p) (c := c) (q := none) (c2 := 0) (F := [memI m (diB bs s.qa s.wt)]) (H.drop (L1 := [row b (rCells (diM s) p c none 0) T.t90, own tByte 1 (.slice p s.cfg.length c) s.cfg.length (u8s s.cfg), own tInt 1 (.slice none 0 0) 0 [], memI m (diB bs s.qa s.wt)]) (by repeat (first | exact Cut.nil | (apply Cut.cons; (repeat (first | exact Pick.here | apply Pick.there)))))) (diM_ok hs).z
      exact ⟨_, ⟨rfl, rfl⟩, H⟩
end Go.Proofs.YtgjddhpblpfneaaDoor
