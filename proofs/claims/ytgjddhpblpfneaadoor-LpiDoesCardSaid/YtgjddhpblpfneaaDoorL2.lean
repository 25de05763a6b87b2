/-
  lpi: what waits, the set-up, read anew.
-/
import Derived.Test.YtgjddhpblpfneaaDoorL1
namespace Go.Proofs.YtgjddhpblpfneaaDoor
open Go Go.RowKit X
set_option maxRecDepth 100000
set_option linter.unusedVariables false
set_option linter.unusedSimpArgs false
set_option maxHeartbeats 1000000
abbrev I64 (n : Int) : Prop := -9223372036854775808 ≤ n ∧ n ≤ 9223372036854775807
theorem errE1 {n : Nat} (hn : n ≤ 131072) {a s o : Int} (h : holdsB n a s = true) (h0 : 0 ≤ o) (h1 : o < s) : errE n a s o 1 = 0 := by
  have h1' := holdsB_iff.1 h
  unfold errE mayE
  rw [if_pos h, if_neg (by omega), if_neg (by simp), if_neg]
  rw [W_id (by omega) (by omega)]; omega
theorem read1 {bs : List Int} (hr : ∀ x ∈ bs, 0 ≤ x ∧ x < 256) (hn : bs.length ≤ 131072) {a s o : Int} (h : holdsB bs.length a s = true) (h0 : 0 ≤ o) (h1 : o < s) :
    readV bs a s o 1 = .tuple [.int .u64 (byteN bs (a + o).toNat : Nat), .int .i64 0].toArray := by
  have h2 := holdsB_iff.1 h
  unfold readV
  rw [if_pos (errE1 hn h h0 h1)]
  have e2 : cut bs (a + o).toNat (Int.toNat 1) = [(byteN bs (a + o).toNat : Int)] := by
    unfold cut
    have := byteN_get hr (j := (a + o).toNat) (by omega)
    obtain ⟨g1, g2⟩ := List.getElem?_eq_some_iff.1 this
    rw [List.drop_eq_getElem_cons g1, g2]; rfl
  rw [e2]
  simp [le]
def hasM (s : Lp) (bs : List Int) (id : Int) : Bool := inB s.many id && if s.on then hasL s.wt (id - 8192) else bitM bs s.qa (id - 8192).toNat
theorem hasP_t (b m : Nat) (s : Lp) (bs : List Int) (hf : s.Fit bs.length) (id : Int) (hid : I64 id) : Tri P F.lpi_Lpis_Has [ptrV b, ptrV m, .int .i64 id] [lpI b s, memI m bs] fun v L' => v = .bool (hasM s bs id) ∧ L' = [lpI b s, memI m bs] := by
  intro w S hS
  refine lpi_Lpis_Has_cv ?_
  unfold lpi_Lpis_Has
  have H := Own.start hS
  refine call_p H (index_t b s id hid) (by repeat (first | exact Cut.nil | (apply Cut.cons; (repeat (first | exact Pick.here | apply Pick.there))))) fun wx H => ?_
  refine ⟨_, _, rfl, join_o ?_⟩
  have fin : ∀ x wx, x = hasM s bs id → X.Own w S [lpI b s, memI m bs] wx → lpi_Lpis_Has_j0 (fun v w' => ∃ L', (v = .bool (hasM s bs id) ∧ L' = [lpI b s, memI m bs]) ∧ X.Own w S L' w') x wx := by
    rintro _ wx rfl H
    unfold lpi_Lpis_Has_j0
    exact ⟨_, ⟨rfl, rfl⟩, H⟩
  cases hi : inB s.many id
  · refine cnd_i (fun h => by cases h) fun _ => fin _ _ ?_ H
    unfold hasM; rw [hi]; rfl
  · have hi' := inB_iff.1 hi
    refine cnd_i (fun _ => ?_) (fun h => by cases h)
    obtain ⟨p, c, sb, h, H⟩ := lp_open H .here
    have hman := h.man
    dsimp only [nn]
    rw [W_id (by omega) (by omega)]
    have hk : id - 8192 = (((id - 8192).toNat : Nat) : Int) := by omega
    refine ldB_o H (by repeat (first | exact Pick.here | apply Pick.there)) (by rfl) ?_
    cases hon : s.on
    · refine cnd_i (fun h => by cases h) fun _ => ldB_o H (by repeat (first | exact Pick.here | apply Pick.there)) (by rfl) ?_
      refine cnd_i (fun _ => ?_) fun h => by rw [hon] at h; cases h
      have H := lp_shut H h
      rw [hk]
      refine call_p H (stored_t b m s bs hf (k := (id - 8192).toNat) (by omega)) (by repeat (first | exact Cut.nil | (apply Cut.cons; (repeat (first | exact Pick.here | apply Pick.there))))) fun wx H => ?_
      refine ⟨_, rfl, fin _ _ ?_ H⟩
      unfold hasM; rw [hi, hon]; simp
    · refine cnd_i (fun _ => ?_) (fun h => by cases h)
      repeat (first | refine ldI_o H (by repeat (first | exact Pick.here | apply Pick.there)) (by rfl) ?_ | refine ldL_o H (by repeat (first | exact Pick.here | apply Pick.there)) (by rfl) ?_ | refine ldB_o H (by repeat (first | exact Pick.here | apply Pick.there)) (by rfl) ?_ | refine ldP_o H (by repeat (first | exact Pick.here | apply Pick.there)) (by rfl) ?_ | refine ldS_o H (by repeat (first | exact Pick.here | apply Pick.there)) (by rfl) ?_)
      refine call_p H (hasS_t sb s.wt (id - 8192)) (by repeat (first | exact Cut.nil | (apply Cut.cons; (repeat (first | exact Pick.here | apply Pick.there))))) fun wx H => ?_
      refine ⟨_, rfl, cnd_i (fun h1 => fin _ _ ?_ (lp_shut H h)) fun h1 => ?_⟩
      · unfold hasM; rw [hi, hon, if_pos rfl, h1]; rfl
      · refine ldB_o H (by repeat (first | exact Pick.here | apply Pick.there)) (by rfl) ?_
        refine cnd_i (fun h => by rw [hon] at h; cases h) fun _ => fin _ _ ?_ (lp_shut H h)
        unfold hasM; rw [hi, hon, if_pos rfl, h1]; rfl
def setMs (s : Lp) (id : Int) (is : Bool) : Lp := if inB s.many id && s.on then { s with wt := if is then putL s.wt (id - 8192) else takeL s.wt (id - 8192) } else s
def setMb (s : Lp) (bs : List Int) (id : Int) (is : Bool) : List Int := if inB s.many id && !s.on then stoM bs s.qa (id - 8192).toNat is else bs
def setR (s : Lp) (bs : List Int) (id : Int) : Bool × Int := if inB s.many id then (hasM s bs id, 0) else (false, 150)
theorem takeL_mem {l : List Nat} {m : Int} {x : Nat} (h : x ∈ takeL l m) : x ∈ l := by unfold takeL at h; exact (List.mem_filter.1 h).1
theorem setMs_ok {s : Lp} (h : s.Ok) (id : Int) (is : Bool) : (setMs s id is).Ok := by
  unfold setMs
  split
  · rename_i hc
    simp only [Bool.and_eq_true] at hc
    have hi := inB_iff.1 hc.1
    have hm := h.man
    refine ⟨h.man, h.len, h.byt, ?_, ?_, fun h0 => ?_⟩
    · dsimp only
      split
      · exact putL_up h.up
      · exact takeL_up h.up
    · dsimp only
      intro x hx
      split at hx
      · rcases mem_putL.1 hx with hx | ⟨_, hx⟩
        · exact h.wlt x hx
        · rw [hx]; omega
      · exact h.wlt x (takeL_mem hx)
    · dsimp only at h0; rw [hc.2] at h0; cases h0
  · exact h
theorem setMs_fit {s : Lp} {n : Nat} (h : s.Fit n) (id : Int) (is : Bool) : (setMs s id is).Fit n := by
  unfold setMs
  split
  · exact ⟨h.hp, h.hq, h.mp, h.mq⟩
  · exact h
theorem setMb_len (s : Lp) (bs : List Int) (id : Int) (is : Bool) : (setMb s bs id is).length = bs.length := by
  unfold setMb; split
  · exact stoM_len _ _ _ _
  · rfl
theorem set_t (b m : Nat) (s : Lp) (bs : List Int) (hf : s.Fit bs.length) (id : Int) (hid : I64 id) (is : Bool) : Tri P F.lpi_Lpis_Set [ptrV b, ptrV m, .int .i64 id, .bool is] [lpI b s, memI m bs]
    fun v L' => v = .tuple [.bool (setR s bs id).1, .int .i64 (setR s bs id).2].toArray ∧ L' = [lpI b (setMs s id is), memI m (setMb s bs id is)] := by
  intro w S hS
  refine lpi_Lpis_Set_cv ?_
  unfold lpi_Lpis_Set
  have H := Own.start hS
  refine call_p H (index_t b s id hid) (by repeat (first | exact Cut.nil | (apply Cut.cons; (repeat (first | exact Pick.here | apply Pick.there))))) fun wx H => ?_
  refine ⟨_, _, rfl, ?_⟩
  unfold setR setMs setMb
  cases hi : inB s.many id
  · exact cnd_i (fun _ => ⟨_, ⟨rfl, rfl⟩, H⟩) (fun h => by cases h)
  refine cnd_i (fun h => by cases h) fun _ => ?_
  have hi' := inB_iff.1 hi
  refine call_p H (hasP_t b m s bs hf id hid) (by repeat (first | exact Cut.nil | (apply Cut.cons; (repeat (first | exact Pick.here | apply Pick.there))))) fun wx H => ?_
  refine ⟨_, rfl, join_o ?_⟩
  obtain ⟨p, c, sb, h, H⟩ := lp_open H .here
  have hman := h.man
  dsimp only [nn]
  rw [W_id (by omega) (by omega)]
  have hk : id - 8192 = (((id - 8192).toNat : Nat) : Int) := by omega
  refine ldB_o H (by repeat (first | exact Pick.here | apply Pick.there)) (by rfl) ?_
  unfold lpi_Lpis_Set_j0
  rw [if_pos (show (true : Bool) = true from rfl)]
  refine cnd_i (fun hc => ?_) fun hc => ?_
  · have hon : s.on = false := by simpa using hc
    rw [if_neg (show ¬ (true && s.on) = true by rw [hon]; decide), if_pos (show (true && !s.on) = true by rw [hon]; rfl)]
    have H := lp_shut H h
    rw [hk]
    refine call_o H (store_t b m s bs hf (k := (id - 8192).toNat) (by omega) is) (by repeat (first | exact Cut.nil | (apply Cut.cons; (repeat (first | exact Pick.here | apply Pick.there))))) fun vx L' wx hq H => ?_
    obtain ⟨rfl, rfl⟩ := hq
    simp only [List.cons_append, List.nil_append] at H
    exact ⟨rfl, _, ⟨rfl, rfl⟩, H⟩
  · have hon : s.on = true := by simpa using hc
    rw [if_pos (show (true && s.on) = true by rw [hon]; rfl), if_neg (show ¬ (true && !s.on) = true by rw [hon]; decide)]
    have hok := setMs_ok h id is
    unfold setMs at hok
    rw [if_pos (by rw [hi, hon]; rfl)] at hok
    cases is
    · refine cnd_i (fun h => by cases h) fun _ => ?_
      repeat (first | refine ldI_o H (by repeat (first | exact Pick.here | apply Pick.there)) (by rfl) ?_ | refine ldL_o H (by repeat (first | exact Pick.here | apply Pick.there)) (by rfl) ?_ | refine ldB_o H (by repeat (first | exact Pick.here | apply Pick.there)) (by rfl) ?_ | refine ldP_o H (by repeat (first | exact Pick.here | apply Pick.there)) (by rfl) ?_ | refine ldS_o H (by repeat (first | exact Pick.here | apply Pick.there)) (by rfl) ?_)
      refine call_o H (takeS_t sb s.wt (id - 8192)) (by repeat (first | exact Cut.nil | (apply Cut.cons; (repeat (first | exact Pick.here | apply Pick.there))))) fun vx L' wx hq H => ?_
      obtain ⟨rfl, rfl⟩ := hq
      simp only [List.cons_append, List.nil_append] at H
      have H := lp_shut (p := p) (c := c) (sb := sb) (s := { s with wt := takeL s.wt (id - 8192) }) (F := [memI m bs]) (H.drop (L1 := [row b (lpCells { s with wt := takeL s.wt (id - 8192) } p c sb) T.t88, own tByte 1 (.slice p s.cfg.length c) s.cfg.length (u8s s.cfg), setI sb (takeL s.wt (id - 8192)), memI m bs]) (by repeat (first | exact Cut.nil | (apply Cut.cons; (repeat (first | exact Pick.here | apply Pick.there)))))) hok
      exact ⟨_, rfl, _, ⟨rfl, rfl⟩, H⟩
    · refine cnd_i (fun _ => ?_) (fun h => by cases h)
      repeat (first | refine ldI_o H (by repeat (first | exact Pick.here | apply Pick.there)) (by rfl) ?_ | refine ldL_o H (by repeat (first | exact Pick.here | apply Pick.there)) (by rfl) ?_ | refine ldB_o H (by repeat (first | exact Pick.here | apply Pick.there)) (by rfl) ?_ | refine ldP_o H (by repeat (first | exact Pick.here | apply Pick.there)) (by rfl) ?_ | refine ldS_o H (by repeat (first | exact Pick.here | apply Pick.there)) (by rfl) ?_)
      refine call_o H (putS_t sb s.wt (id - 8192)) (by repeat (first | exact Cut.nil | (apply Cut.cons; (repeat (first | exact Pick.here | apply Pick.there))))) fun vx L' wx hq H => ?_
      obtain ⟨rfl, rfl⟩ := hq
      rw [putL_has' s.wt h.up] at H
      simp only [List.cons_append, List.nil_append] at H
      have H := lp_shut (p := p) (c := c) (sb := sb) (s := { s with wt := putL s.wt (id - 8192) }) (F := [memI m bs]) (H.drop (L1 := [row b (lpCells { s with wt := putL s.wt (id - 8192) } p c sb) T.t88, own tByte 1 (.slice p s.cfg.length c) s.cfg.length (u8s s.cfg), setI sb (putL s.wt (id - 8192)), memI m bs]) (by repeat (first | exact Cut.nil | (apply Cut.cons; (repeat (first | exact Pick.here | apply Pick.there)))))) hok
      exact ⟨_, rfl, _, ⟨rfl, rfl⟩, H⟩
/-! ### The set-up -/
def invM (s : Lp) (bs : List Int) (id : Int) : Lp := if inB s.many id then { s with cfg := s.cfg.set (id - 8192).toNat (byteN bs (s.pa + (id - 8192)).toNat : Nat) } else s
theorem invM_ok {s : Lp} (h : s.Ok) {bs : List Int} (hr : ∀ x ∈ bs, 0 ≤ x ∧ x < 256) (id : Int) : (invM s bs id).Ok := by
  unfold invM
  split
  · refine ⟨h.man, by simpa using h.len, fun x hx => ?_, h.up, h.wlt, h.off⟩
    rcases List.mem_or_eq_of_mem_set hx with hx | rfl
    · exact h.byt x hx
    · have := byteN_lt hr (s.pa + (id - 8192)).toNat; omega
  · exact h
theorem invM_fit {s : Lp} {n : Nat} (h : s.Fit n) (bs : List Int) (id : Int) : (invM s bs id).Fit n := by
  unfold invM
  split
  · exact ⟨h.hp, h.hq, h.mp, h.mq⟩
  · exact h
theorem u8_id {n : Nat} (h : n < 256) : IntKind.u8.wrap (n : Int) = n := by simp [IntKind.wrap, IntKind.signed, IntKind.bits]; omega
theorem inv_t (b m : Nat) (s : Lp) (bs : List Int) (hf : s.Fit bs.length) (id : Int) (hid : I64 id) : Tri P F.lpi_Lpis_Inv [ptrV b, ptrV m, .int .i64 id] [lpI b s, memI m bs]
    fun v L' => v = .int .i64 (if inB s.many id then 0 else 150) ∧ L' = [lpI b (invM s bs id), memI m bs] := by
  intro w S hS
  refine lpi_Lpis_Inv_cv ?_
  unfold lpi_Lpis_Inv
  have H := Own.start hS
  obtain ⟨hr, hl⟩ := mem_facts H (b := m) (bs := bs) (by repeat (first | exact Pick.here | apply Pick.there))
  refine call_p H (index_t b s id hid) (by repeat (first | exact Cut.nil | (apply Cut.cons; (repeat (first | exact Pick.here | apply Pick.there))))) fun wx H => ?_
  refine ⟨_, _, rfl, ?_⟩
  cases hi : inB s.many id
  · refine cnd_i (fun _ => ⟨_, ⟨rfl, rfl⟩, ?_⟩) (fun h => by cases h)
    unfold invM; rw [hi]; exact H
  refine cnd_i (fun h => by cases h) fun _ => ?_
  have hi' := inB_iff.1 hi
  obtain ⟨p, c, sb, h, H⟩ := lp_open H .here
  have hman := h.man
  have hmp := hf.mp
  have hlen := h.len
  dsimp only [nn]
  rw [W_id (by omega) (by omega)]
  repeat (first | refine ldI_o H (by repeat (first | exact Pick.here | apply Pick.there)) (by rfl) ?_ | refine ldL_o H (by repeat (first | exact Pick.here | apply Pick.there)) (by rfl) ?_ | refine ldB_o H (by repeat (first | exact Pick.here | apply Pick.there)) (by rfl) ?_ | refine ldP_o H (by repeat (first | exact Pick.here | apply Pick.there)) (by rfl) ?_ | refine ldS_o H (by repeat (first | exact Pick.here | apply Pick.there)) (by rfl) ?_)
  refine call_p H (read_t m bs s.pa s.ps (id - 8192) 1) (by repeat (first | exact Cut.nil | (apply Cut.cons; (repeat (first | exact Pick.here | apply Pick.there))))) fun wx H => ?_
  rw [read1 hr hl hf.hp (by omega) (by omega)]
  have hb := byteN_lt hr (s.pa + (id - 8192)).toNat
  refine ⟨_, _, rfl, ?_⟩
  repeat (first | refine ldI_o H (by repeat (first | exact Pick.here | apply Pick.there)) (by rfl) ?_ | refine ldL_o H (by repeat (first | exact Pick.here | apply Pick.there)) (by rfl) ?_ | refine ldB_o H (by repeat (first | exact Pick.here | apply Pick.there)) (by rfl) ?_ | refine ldP_o H (by repeat (first | exact Pick.here | apply Pick.there)) (by rfl) ?_ | refine ldS_o H (by repeat (first | exact Pick.here | apply Pick.there)) (by rfl) ?_)
  have hk : id - 8192 = (((id - 8192).toNat : Nat) : Int) := by omega
  rw [u8_id hb]
  have hok := invM_ok h hr id
  unfold invM at hok ⊢
  rw [hi] at hok ⊢
  simp only [if_true] at hok ⊢
  generalize (byteN bs (s.pa + (id - 8192)).toNat) = x at *
  generalize (id - 8192).toNat = k at *
  rw [hk]
  refine ix_i (by omega) ?_
  refine ost_o H (by repeat (first | exact Rep.here | apply Rep.there)) (by omega) fun wx H => ?_
  refine ⟨_, ⟨trivial, rfl⟩, lp_shut (s := { s with cfg := s.cfg.set k (x : Nat) }) (p := p) (c := c) (sb := sb) ?_ hok⟩
  unfold lpCells
  dsimp only
  rw [List.length_set, ← u8s_set]
  exact H
/-- all of it read, up to a number -/
def cfgTo (s : Lp) (bs : List Int) (i : Nat) : List Int := ((List.range i).map fun k : Nat => ((byteN bs (s.pa + (k : Int)).toNat : Nat) : Int)) ++ s.cfg.drop i
theorem cfgTo_len (s : Lp) (bs : List Int) {i : Nat} (h : i ≤ s.cfg.length) : (cfgTo s bs i).length = s.cfg.length := by simp [cfgTo]; omega
theorem cfgTo_next (s : Lp) (bs : List Int) {i : Nat} (h : i < s.cfg.length) : (cfgTo s bs i).set i (byteN bs (s.pa + (i : Int)).toNat : Nat) = cfgTo s bs (i + 1) := by
  unfold cfgTo
  rw [List.set_append_right _ _ (by simp), List.range_succ, List.map_append]
  simp only [List.length_map, List.length_range, Nat.sub_self]
  rw [List.drop_eq_getElem_cons h, List.set_cons_zero]
  simp
def allM (s : Lp) (bs : List Int) : Lp := { s with cfg := cfgTo s bs s.many.toNat }
def partM (s : Lp) (bs : List Int) (i : Nat) : Lp := { s with cfg := cfgTo s bs i }
theorem partM_ok {s : Lp} (h : s.Ok) {bs : List Int} (hr : ∀ x ∈ bs, 0 ≤ x ∧ x < 256) {i : Nat} (hi : i ≤ s.cfg.length) : (partM s bs i).Ok := by
  refine ⟨h.man, ?_, fun x hx => ?_, h.up, h.wlt, h.off⟩
  · show ((cfgTo s bs i).length : Int) = s.many
    rw [cfgTo_len s bs hi]; exact h.len
  · rcases List.mem_append.1 (show x ∈ cfgTo s bs i from hx) with hx | hx
    · obtain ⟨k, _, rfl⟩ := List.mem_map.1 hx
      have := byteN_lt hr (s.pa + (k : Int)).toNat; omega
    · exact h.byt x (List.mem_of_mem_drop hx)
theorem allM_ok {s : Lp} (h : s.Ok) {bs : List Int} (hr : ∀ x ∈ bs, 0 ≤ x ∧ x < 256) : (allM s bs).Ok := partM_ok h hr (by have := h.len; omega)
theorem allM_fit {s : Lp} {n : Nat} (h : s.Fit n) (bs : List Int) : (allM s bs).Fit n := ⟨h.hp, h.hq, h.mp, h.mq⟩
theorem lp_ok {w w0 : World} {S0 : Nat → Prop} {L F : List It} {b : Nat} {s : Lp} (H : X.Own w0 S0 L w) (hp : Pick L (lpI b s) F) : s.Ok := let ⟨_, _, _, h, _⟩ := lp_open H hp; h
theorem invAll_t (b m : Nat) (s : Lp) (bs : List Int) (hf : s.Fit bs.length) : Tri P F.lpi_Lpis_InvAll [ptrV b, ptrV m] [lpI b s, memI m bs] fun v L' => v = .tuple [].toArray ∧ L' = [lpI b (allM s bs), memI m bs] := by
  intro w S hS
  refine lpi_Lpis_InvAll_cv ?_
  unfold lpi_Lpis_InvAll
  have H := Own.start hS
  have h := lp_ok H .here
  have hman := h.man
  have hlen := h.len
  obtain ⟨p, c, sb, _, H⟩ := lp_open H .here
  dsimp only [nn]
  repeat (first | refine ldI_o H (by repeat (first | exact Pick.here | apply Pick.there)) (by rfl) ?_ | refine ldL_o H (by repeat (first | exact Pick.here | apply Pick.there)) (by rfl) ?_ | refine ldB_o H (by repeat (first | exact Pick.here | apply Pick.there)) (by rfl) ?_ | refine ldP_o H (by repeat (first | exact Pick.here | apply Pick.there)) (by rfl) ?_ | refine ldS_o H (by repeat (first | exact Pick.here | apply Pick.there)) (by rfl) ?_)
  have H := lp_shut H h
  refine loop_o (fun (st : Int) L => ∃ i : Nat, (i : Int) ≤ s.many ∧ st = i ∧ L = [lpI b (partM s bs i), memI m bs]) (fun (st : Int) => (s.many - st).toNat) H ⟨0, by omega, rfl, by unfold partM cfgTo; simp⟩ ?_
  rintro _ _ wx ⟨i, hi, rfl, rfl⟩ H
  unfold lpi_Lpis_InvAll_l0
  refine cnd_i (fun hc => ?_) fun hc => ?_
  · have hc := of_decide_eq_true hc
    rw [W_id (n := 8192 + (i : Int)) (by omega) (by omega)]
    refine call_o H (inv_t b m (partM s bs i) bs ⟨hf.hp, hf.hq, hf.mp, hf.mq⟩ (8192 + i) (by unfold I64; omega)) (by repeat (first | exact Cut.nil | (apply Cut.cons; (repeat (first | exact Pick.here | apply Pick.there))))) fun vx L' wx hq H => ?_
    obtain ⟨rfl, rfl⟩ := hq
    simp only [List.cons_append, List.nil_append] at H
    rw [W_id (by omega) (by omega)]
    refine ⟨_, rfl, ⟨_, ⟨i + 1, by omega, by push_cast; rfl, rfl⟩, ?_⟩, by omega⟩
    have e : invM (partM s bs i) bs (8192 + i) = partM s bs (i + 1) := by
      unfold invM partM
      dsimp only
      rw [if_pos (inB_iff.2 (by omega)), show (8192 + (i : Int) - 8192).toNat = i by omega, show s.pa + (8192 + (i : Int) - 8192) = s.pa + i by omega, cfgTo_next s bs (by omega)]
    rw [e] at H
    exact H
  · have hc := of_decide_eq_false hc
    have : i = s.many.toNat := by omega
    subst this
    exact ⟨_, ⟨rfl, rfl⟩, H⟩
def setupR (s : Lp) (id : Int) : Bool × Int := if inB s.many id then (decide (s.cfg.getD (id - 8192).toNat 0 % 2 = 1), s.cfg.getD (id - 8192).toNat 0 / 8 * 8) else (false, 0)
theorem low_fin : ∀ x : Fin 256, (bitX .and .u8 (x.val : Int) 1 == 1) = decide ((x.val : Int) % 2 = 1) := by decide +kernel
theorem real_fin : ∀ x : Fin 256, bitX .and .i64 (IntKind.i64.wrap (x.val : Int)) 248 = (x.val : Int) / 8 * 8 := by decide +kernel
theorem setup_t (b : Nat) (s : Lp) (id : Int) (hid : I64 id) : Tri P F.lpi_Lpis_Setup [ptrV b, .int .i64 id] [lpI b s] fun v L' => v = .tuple [.bool (setupR s id).1, .int .i64 (setupR s id).2].toArray ∧ L' = [lpI b s] := by
  intro w S hS
  refine lpi_Lpis_Setup_cv ?_
  unfold lpi_Lpis_Setup setupR
  have H := Own.start hS
  refine call_p H (index_t b s id hid) (by repeat (first | exact Cut.nil | (apply Cut.cons; (repeat (first | exact Pick.here | apply Pick.there))))) fun wx H => ?_
  refine ⟨_, _, rfl, ?_⟩
  cases hi : inB s.many id
  · exact cnd_i (fun _ => ⟨_, ⟨rfl, rfl⟩, H⟩) (fun h => by cases h)
  refine cnd_i (fun h => by cases h) fun _ => ?_
  have hi' := inB_iff.1 hi
  refine drw_o H fun wx H => ?_
  obtain ⟨p, c, sb, h, H⟩ := lp_open H .here
  have hman := h.man
  have hlen := h.len
  dsimp only [nn]
  rw [W_id (by omega) (by omega)]
  have hk : id - 8192 = (((id - 8192).toNat : Nat) : Int) := by omega
  have hkl : (id - 8192).toNat < s.cfg.length := by omega
  have hby := h.byt
  generalize (id - 8192).toNat = k at *
  obtain ⟨x, hx⟩ : ∃ x, s.cfg[k]? = some x := ⟨_, List.getElem?_eq_getElem hkl⟩
  have hxr := hby x (List.mem_of_getElem? hx)
  have hg : s.cfg.getD k 0 = x := by rw [List.getD_eq_getElem?_getD, hx]; rfl
  have hu : (u8s s.cfg)[k]? = some (.int .u8 x) := by simp [u8s, hx]
  rw [hk, hg]
  obtain ⟨a, rfl, hc⟩ := (H.sl (e := tByte) (p := p) (n := s.cfg.length) (c := c) (xs := u8s s.cfg) (by repeat (first | exact Pick.here | apply Pick.there))).1 k _ hu
  repeat (first | refine ldI_o H (by repeat (first | exact Pick.here | apply Pick.there)) (by rfl) ?_ | refine ldL_o H (by repeat (first | exact Pick.here | apply Pick.there)) (by rfl) ?_ | refine ldB_o H (by repeat (first | exact Pick.here | apply Pick.there)) (by rfl) ?_ | refine ldP_o H (by repeat (first | exact Pick.here | apply Pick.there)) (by rfl) ?_ | refine ldS_o H (by repeat (first | exact Pick.here | apply Pick.there)) (by rfl) ?_)
  refine ix_i hkl ⟨x, by rw [Nat.mul_one]; exact hc, ?_⟩
  repeat (first | refine ldI_o H (by repeat (first | exact Pick.here | apply Pick.there)) (by rfl) ?_ | refine ldL_o H (by repeat (first | exact Pick.here | apply Pick.there)) (by rfl) ?_ | refine ldB_o H (by repeat (first | exact Pick.here | apply Pick.there)) (by rfl) ?_ | refine ldP_o H (by repeat (first | exact Pick.here | apply Pick.there)) (by rfl) ?_ | refine ldS_o H (by repeat (first | exact Pick.here | apply Pick.there)) (by rfl) ?_)
  refine ix_i hkl ⟨x, by rw [Nat.mul_one]; exact hc, ?_⟩
  refine call_p H (tri_plain (V := .int .i64 (bitX .and .i64 (IntKind.i64.wrap x) 248)) fun w => prio_Real_cv (by unfold prio_Real; exact ⟨rfl, Below.refl _ _⟩)) .nil fun wx H => ?_
  refine ⟨_, rfl, ?_, ?_, ?_⟩
  · obtain ⟨a', ha, hc⟩ := (H.sl (e := tByte) (p := some a) (n := s.cfg.length) (c := c) (xs := u8s s.cfg) (by repeat (first | exact Pick.here | apply Pick.there))).1 k _ hu
    cases ha
    exact ⟨x, by rw [Nat.mul_one]; exact hc, rfl⟩
  · repeat (first | refine ldI_o H (by repeat (first | exact Pick.here | apply Pick.there)) (by rfl) ?_ | refine ldL_o H (by repeat (first | exact Pick.here | apply Pick.there)) (by rfl) ?_ | refine ldB_o H (by repeat (first | exact Pick.here | apply Pick.there)) (by rfl) ?_ | refine ldP_o H (by repeat (first | exact Pick.here | apply Pick.there)) (by rfl) ?_ | refine ldS_o H (by repeat (first | exact Pick.here | apply Pick.there)) (by rfl) ?_)
    rfl
  · have e1 := low_fin ⟨x.toNat, by omega⟩
    have e2 := real_fin ⟨x.toNat, by omega⟩
    have e3 : ((x.toNat : Nat) : Int) = x := by omega
    simp only [e3] at e1 e2
    rw [e1, e2]
    exact ⟨_, ⟨rfl, rfl⟩, lp_shut H h⟩
end Go.Proofs.YtgjddhpblpfneaaDoor
