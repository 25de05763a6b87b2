/-
  lpi: the reference.
-/
import Derived.Test.YtgjddhpblpfneaaDoorL8
namespace Go.Proofs.YtgjddhpblpfneaaDoor
open Go Go.RowKit X
set_option maxRecDepth 100000
set_option linter.unusedVariables false
set_option linter.unusedSimpArgs false
set_option maxHeartbeats 1000000
abbrev ilN (p : Option Addr) (c : Nat) (l : List Nat) : It := own tInt 1 (.slice p l.length c) l.length (i64s (natI l))
theorem ilI_eq (p : Option Addr) (c : Nat) (l : List Nat) : ilI p c (natI l) = ilN p c l := by unfold ilI; rw [natI_length]
theorem up_bound : ∀ {l : List Nat} {a M : Nat}, Up l → (∀ x ∈ l, a ≤ x ∧ x < M) → l.length ≤ M - a
  | [], _, _, _, _ => Nat.zero_le _
  | x :: r, a, M, hu, h => by
    obtain ⟨h1, h2⟩ := List.pairwise_cons.1 hu
    have hx := h x List.mem_cons_self
    have := up_bound (a := x + 1) (M := M) h2 fun y hy => ⟨h1 y hy, (h y (List.mem_cons_of_mem _ hy)).2⟩
    simp only [List.length_cons]
    omega
/-- right, but for what waits while it is not let in -/
structure Lp.Ok0 (s : Lp) : Prop where
  man : 1 ≤ s.many ∧ s.many ≤ 512
  len : (s.cfg.length : Int) = s.many
  byt : ∀ x ∈ s.cfg, 0 ≤ x ∧ x < 256
  up : Up s.wt
  wlt : ∀ x ∈ s.wt, (x : Int) < s.many
theorem Lp.Ok.z {s : Lp} (h : s.Ok) : s.Ok0 := ⟨h.man, h.len, h.byt, h.up, h.wlt⟩
theorem ok_on {s : Lp} (h : s.Ok0) : ({ s with on := true } : Lp).Ok := ⟨h.man, h.len, h.byt, h.up, h.wlt, fun h => by cases h⟩
theorem ok_off {s : Lp} (h : ({ s with on := true } : Lp).Ok) : s.Ok0 := ⟨h.man, h.len, h.byt, h.up, h.wlt⟩
theorem setMs_ok0 {s : Lp} (h : s.Ok0) (id : Int) (is : Bool) : (setMs s id is).Ok0 := by
  cases hon : s.on
  · unfold setMs
    rw [if_neg (by rw [hon]; simp)]; exact h
  · exact (setMs_ok (s := s) ⟨h.man, h.len, h.byt, h.up, h.wlt, fun h0 => by rw [hon] at h0; cases h0⟩ id is).z
theorem invM_ok0 {s : Lp} (h : s.Ok0) {bs : List Int} (hr : ∀ x ∈ bs, 0 ≤ x ∧ x < 256) (id : Int) : (invM s bs id).Ok0 := by
  have := invM_ok (ok_on h) hr id
  have e : invM ({ s with on := true } : Lp) bs id = { invM s bs id with on := true } := by unfold invM; split <;> rfl
  rw [e] at this
  exact ok_off this
theorem partM_ok0 {s : Lp} (h : s.Ok0) {bs : List Int} (hr : ∀ x ∈ bs, 0 ≤ x ∧ x < 256) {i : Nat} (hi : i ≤ s.cfg.length) : (partM s bs i).Ok0 := ok_off (partM_ok (ok_on h) hr hi)
theorem Lp.Ok0.wlen {s : Lp} (h : s.Ok0) : s.wt.length ≤ 512 := by
  have := up_bound (a := 0) (M := 512) h.up fun x hx => by have := h.wlt x hx; have := h.man; omega
  omega
theorem rPut_t {p : Option Addr} {c : Nat} {l : List Nat} (hup : Up l) (hl : l.length ≤ 20000) (m : Int) :
    Tri P F.crierref01_Put [.slice p l.length c, .int .i64 m] [ilN p c l] fun v L' => ∃ p' c', v = .slice p' (putL l m).length c' ∧ L' = [ilN p' c' (putL l m)] := by
  have := refPut_t (p := p) (c := c) hup hl m
  rw [ilI_eq] at this
  intro w S hS
  refine (this w S hS).mono ?_
  rintro v w' ⟨L', ⟨p', c', e1, e2⟩, H⟩
  rw [ilI_eq] at e2
  exact ⟨L', ⟨p', c', e1, e2⟩, H⟩
theorem rTake_t {p : Option Addr} {c : Nat} {l : List Nat} (hl : l.length ≤ 20000) (m : Int) :
    Tri P F.crierref01_Take [.slice p l.length c, .int .i64 m] [ilN p c l] fun v L' => ∃ p' c', v = .slice p' (takeL l m).length c' ∧ L' = [ilN p' c' (takeL l m), ilN p c l] := by
  have := refTake_t (ilN p c l) (p := p) (c := c) (l := l) own_sl hl m
  intro w S hS
  refine (this w S hS).mono ?_
  rintro v w' ⟨L', ⟨p', c', e1, e2⟩, H⟩
  rw [natI_length] at e1
  rw [ilI_eq] at e2
  exact ⟨L', ⟨p', c', e1, e2⟩, H⟩
abbrev rCells (s : Lp) (p : Option Addr) (c : Nat) (q : Option Addr) (c2 : Nat) : List Value := [.int .i64 s.many, .bool s.on, .int .i64 s.pa, .int .i64 s.ps, .int .i64 s.qa, .int .i64 s.qs, .slice p s.cfg.length c, .slice q s.wt.length c2]
abbrev rRows (b : Nat) (s : Lp) (a : (Option Addr × Nat) × (Option Addr × Nat)) : List It := [row b (rCells s a.1.1 a.1.2 a.2.1 a.2.2) T.t90, own tByte 1 (.slice a.1.1 s.cfg.length a.1.2) s.cfg.length (u8s s.cfg), ilN a.2.1 a.2.2 s.wt]
def rI (b : Nat) (s : Lp) : It := exI (fun a : (Option Addr × Nat) × (Option Addr × Nat) => s.Ok0) (rRows b s)
section
variable {w w0 : World} {S0 : Nat → Prop}
theorem r_open {L F : List It} {b : Nat} {s : Lp} (H : X.Own w0 S0 L w) (hp : Pick L (rI b s) F) : ∃ p c q c2, s.Ok0 ∧ X.Own w0 S0 (row b (rCells s p c q c2) T.t90 :: own tByte 1 (.slice p s.cfg.length c) s.cfg.length (u8s s.cfg) :: ilN q c2 s.wt :: F) w := by
  obtain ⟨⟨⟨p, c⟩, q, c2⟩, h2, H⟩ := ex_open H hp
  exact ⟨p, c, q, c2, h2, H⟩
theorem r_shut {F : List It} {b c c2 : Nat} {p q : Option Addr} {s : Lp} (H : X.Own w0 S0 (row b (rCells s p c q c2) T.t90 :: own tByte 1 (.slice p s.cfg.length c) s.cfg.length (u8s s.cfg) :: ilN q c2 s.wt :: F) w) (h : s.Ok0) : X.Own w0 S0 (rI b s :: F) w :=
  ex_shut (f := rRows b s) ((p, c), (q, c2)) h H
theorem r_ok {L F : List It} {b : Nat} {s : Lp} (H : X.Own w0 S0 L w) (hp : Pick L (rI b s) F) : s.Ok0 := let ⟨_, _, _, _, h, _⟩ := r_open H hp; h
end
theorem rOf_t (b : Nat) (s : Lp) (id : Int) : Tri P F.crierref15_Lpis_Of [ptrV b, .int .i64 id] [rI b s] fun v L' => v = .bool (inB s.many id) ∧ L' = [rI b s] := by
  intro w S hS
  refine crierref15_Lpis_Of_cv ?_
  unfold crierref15_Lpis_Of
  have H := Own.start hS
  refine join_o ?_
  obtain ⟨p, c, q, c2, h, H⟩ := r_open H .here
  have := h.man
  unfold crierref15_Lpis_Of_j0
  refine cnd_i (fun h1 => ?_) fun h1 => ?_
  · have h1 := of_decide_eq_true h1
    dsimp only [nn]
    repeat (first | refine ldI_o H (by repeat (first | exact Pick.here | apply Pick.there)) (by rfl) ?_ | refine ldL_o H (by repeat (first | exact Pick.here | apply Pick.there)) (by rfl) ?_ | refine ldB_o H (by repeat (first | exact Pick.here | apply Pick.there)) (by rfl) ?_ | refine ldP_o H (by repeat (first | exact Pick.here | apply Pick.there)) (by rfl) ?_ | refine ldS_o H (by repeat (first | exact Pick.here | apply Pick.there)) (by rfl) ?_)
    refine ⟨_, ⟨?_, rfl⟩, r_shut H h⟩
    rw [W_id (by omega) (by omega)]
    have : decide (id < 8192 + s.many) = inB s.many id := by
      rw [Bool.eq_iff_iff, inB_iff, decide_eq_true_eq]; omega
    rw [this]
  · have h1 := of_decide_eq_false h1
    refine ⟨_, ⟨?_, rfl⟩, r_shut H h⟩
    have : inB s.many id = false := by simp [inB]; omega
    rw [this]
theorem bit8_fin : ∀ (x : Fin 256) (j : Fin 8), (bitX .and .u8 (Int.fdiv (x.val : Int) (2 ^ min (Int.toNat (j.val : Int)) IntKind.u8.bits)) 1 == 1) = x.val.testBit j.val := by decide +kernel
theorem xor8_fin : ∀ (x : Fin 256) (j : Fin 8), bitX .xor .u8 (x.val : Int) (IntKind.u8.wrap (1 * 2 ^ min (Int.toNat (j.val : Int)) IntKind.u8.bits)) = ((setB x.val j.val (!x.val.testBit j.val) : Nat) : Int) := by decide +kernel
theorem bit8 {x j : Nat} (hx : x < 256) (hj : j < 8) : (bitX .and .u8 (Int.fdiv (x : Int) (2 ^ min (Int.toNat (j : Int)) IntKind.u8.bits)) 1 == 1) = x.testBit j := bit8_fin ⟨x, hx⟩ ⟨j, hj⟩
theorem xor8 {x j : Nat} (hx : x < 256) (hj : j < 8) : bitX .xor .u8 (x : Int) (IntKind.u8.wrap (1 * 2 ^ min (Int.toNat (j : Int)) IntKind.u8.bits)) = ((setB x j (!x.testBit j) : Nat) : Int) := xor8_fin ⟨x, hx⟩ ⟨j, hj⟩
theorem at_idx {s : Lp} {n : Nat} (hn : n ≤ 131072) (h : s.Fit n) {k : Nat} (hk : (k : Int) < s.many) (hm : s.many ≤ 512) : IntKind.i64.wrap (s.qa + IntKind.i64.wrap (Int.tdiv (k : Int) 8)) = ((at8 s.qa k : Nat) : Int) := by
  have h1 := holdsB_iff.1 h.hq
  have h2 := fit_at h hk
  rw [div8 (by omega)]
  unfold at8 at *
  rw [W_id (by omega) (by omega)]
  omega
theorem rBit_t (b m : Nat) (s : Lp) (bs : List Int) (hf : s.Fit bs.length) {k : Nat} (hk : (k : Int) < s.many) : Tri P F.crierref15_Lpis_bit [ptrV b, ptrV m, .int .i64 k] [rI b s, memI m bs] fun v L' => v = .bool (bitM bs s.qa k) ∧ L' = [rI b s, memI m bs] := by
  intro w S hS
  refine crierref15_Lpis_bit_cv ?_
  unfold crierref15_Lpis_bit
  have H := Own.start hS
  obtain ⟨hr, hl⟩ := mem_facts H (b := m) (bs := bs) (by repeat (first | exact Pick.here | apply Pick.there))
  refine drw_o H fun wx H => ?_
  obtain ⟨p, c, q, c2, h, H⟩ := r_open H .here
  have hman := h.man
  have hat := fit_at hf hk
  obtain ⟨d, cd, rest, tb, td, H, hc, _, _⟩ := mem_open H (b := m) (bs := bs) (by repeat (first | exact Pick.here | apply Pick.there))
  dsimp only [nn]
  repeat (first | refine ldI_o H (by repeat (first | exact Pick.here | apply Pick.there)) (by rfl) ?_ | refine ldL_o H (by repeat (first | exact Pick.here | apply Pick.there)) (by rfl) ?_ | refine ldB_o H (by repeat (first | exact Pick.here | apply Pick.there)) (by rfl) ?_ | refine ldP_o H (by repeat (first | exact Pick.here | apply Pick.there)) (by rfl) ?_ | refine ldS_o H (by repeat (first | exact Pick.here | apply Pick.there)) (by rfl) ?_)
  refine ⟨by omega, ?_⟩
  rw [at_idx hl hf hk hman.2]
  refine ix_i hat.2.1 ?_
  dsimp only
  rw [add_lit, Nat.mul_one, Nat.zero_add]
  have hb := byteN_get hr hat.2.1
  have hcell : (u8s bs ++ rest)[at8 s.qa k]? = some (.int .u8 (byteN bs (at8 s.qa k) : Nat)) := by
    rw [List.getElem?_append_left (by rw [u8s_length]; exact hat.2.1)]; simp [u8s, hb]
  refine ldI_o H (b := d) (t := td) (by repeat (first | exact Pick.here | apply Pick.there)) hcell ?_
  have hj := Nat.mod_lt k (show 8 > 0 by omega)
  have hby := byteN_lt hr (at8 s.qa k)
  rw [mod8]
  refine ⟨by omega, by omega, _, ⟨?_, rfl⟩, ?_⟩
  · rw [bit8 hby hj]; rfl
  · have H := mem_shut H rfl hc hr hl
    exact r_shut (H.perm (L1 := [row b (rCells s p c q c2) T.t90, own tByte 1 (.slice p s.cfg.length c) s.cfg.length (u8s s.cfg), ilN q c2 s.wt]) (by repeat (first | exact Cut.nil | (apply Cut.cons; (repeat (first | exact Pick.here | apply Pick.there)))))) h
theorem rStore_t (b m : Nat) (s : Lp) (bs : List Int) (hf : s.Fit bs.length) {k : Nat} (hk : (k : Int) < s.many) (is : Bool) : Tri P F.crierref15_Lpis_put [ptrV b, ptrV m, .int .i64 k, .bool is] [rI b s, memI m bs] fun v L' => v = .tuple [].toArray ∧ L' = [rI b s, memI m (stoM bs s.qa k is)] := by
  intro w S hS
  refine crierref15_Lpis_put_cv ?_
  unfold crierref15_Lpis_put
  have H := Own.start hS
  obtain ⟨hr, hl⟩ := mem_facts H (b := m) (bs := bs) (by repeat (first | exact Pick.here | apply Pick.there))
  obtain ⟨p, c, q, c2, h, H⟩ := r_open H .here
  have hman := h.man
  have hat := fit_at hf hk
  dsimp only [nn]
  repeat (first | refine ldI_o H (by repeat (first | exact Pick.here | apply Pick.there)) (by rfl) ?_ | refine ldL_o H (by repeat (first | exact Pick.here | apply Pick.there)) (by rfl) ?_ | refine ldB_o H (by repeat (first | exact Pick.here | apply Pick.there)) (by rfl) ?_ | refine ldP_o H (by repeat (first | exact Pick.here | apply Pick.there)) (by rfl) ?_ | refine ldS_o H (by repeat (first | exact Pick.here | apply Pick.there)) (by rfl) ?_)
  refine ⟨by omega, ?_⟩
  have H := r_shut H h
  refine call_p H (rBit_t b m s bs hf hk) (by repeat (first | exact Cut.nil | (apply Cut.cons; (repeat (first | exact Pick.here | apply Pick.there))))) fun wx H => ?_
  refine ⟨_, rfl, cnd_i (fun hc => ?_) fun hc => ?_⟩
  · have hne : bitM bs s.qa k = !is := by revert hc; cases bitM bs s.qa k <;> cases is <;> simp
    refine drw_o H fun wx H => ?_
    obtain ⟨d, cd, rest, tb, td, H, hc, _, _⟩ := mem_open H (b := m) (bs := bs) (by repeat (first | exact Pick.here | apply Pick.there))
    repeat (first | refine ldI_o H (by repeat (first | exact Pick.here | apply Pick.there)) (by rfl) ?_ | refine ldL_o H (by repeat (first | exact Pick.here | apply Pick.there)) (by rfl) ?_ | refine ldB_o H (by repeat (first | exact Pick.here | apply Pick.there)) (by rfl) ?_ | refine ldP_o H (by repeat (first | exact Pick.here | apply Pick.there)) (by rfl) ?_ | refine ldS_o H (by repeat (first | exact Pick.here | apply Pick.there)) (by rfl) ?_)
    rw [at_idx hl hf hk hman.2]
    refine ix_i hat.2.1 ?_
    dsimp only
    rw [add_lit, Nat.mul_one, Nat.zero_add]
    have hb := byteN_get hr hat.2.1
    have hcell : (u8s bs ++ rest)[at8 s.qa k]? = some (.int .u8 (byteN bs (at8 s.qa k) : Nat)) := by
      rw [List.getElem?_append_left (by rw [u8s_length]; exact hat.2.1)]; simp [u8s, hb]
    refine ldI_o H (b := d) (t := td) (by repeat (first | exact Pick.here | apply Pick.there)) hcell ?_
    have hj := Nat.mod_lt k (show 8 > 0 by omega)
    have hby := byteN_lt hr (at8 s.qa k)
    rw [mod8]
    refine ⟨by omega, by omega, ix_i hat.2.1 ?_⟩
    rw [add_lit, Nat.mul_one, Nat.zero_add, xor8 hby hj]
    refine st1_o H (b := d) (t := td) (cs := u8s bs ++ rest) (by repeat (first | exact Rep.here | apply Rep.there)) (by rw [List.length_append, u8s_length]; omega) fun wx H => ?_
    rw [mem_set hat.2.1] at H
    have e : bs.set (at8 s.qa k) ((setB (byteN bs (at8 s.qa k)) (k % 8) (!(byteN bs (at8 s.qa k)).testBit (k % 8)) : Nat) : Int) = stoM bs s.qa k is := by
      unfold stoM
      have : (byteN bs (at8 s.qa k)).testBit (k % 8) = !is := hne
      rw [this, Bool.not_not]
    rw [e] at H
    have H := mem_shut H (by rw [stoM_len]) (by rw [stoM_len]; exact hc) (stoM_range hr _ _ _) (by rw [stoM_len]; exact hl)
    exact ⟨_, ⟨rfl, rfl⟩, H.drop (by repeat (first | exact Cut.nil | (apply Cut.cons; (repeat (first | exact Pick.here | apply Pick.there)))))⟩
  · have heq : bitM bs s.qa k = is := by revert hc; cases bitM bs s.qa k <;> cases is <;> simp
    rw [stoM_same hr hat.2.1 heq]
    exact ⟨_, ⟨rfl, rfl⟩, H⟩
theorem rHas_t (b m : Nat) (s : Lp) (bs : List Int) (hf : s.Fit bs.length) (id : Int) (hid : I64 id) : Tri P F.crierref15_Lpis_Has [ptrV b, ptrV m, .int .i64 id] [rI b s, memI m bs] fun v L' => v = .bool (hasM s bs id) ∧ L' = [rI b s, memI m bs] := by
  intro w S hS
  refine crierref15_Lpis_Has_cv ?_
  unfold crierref15_Lpis_Has hasM
  have H := Own.start hS
  refine call_p H (rOf_t b s id) (by repeat (first | exact Cut.nil | (apply Cut.cons; (repeat (first | exact Pick.here | apply Pick.there))))) fun wx H => ?_
  refine ⟨_, rfl, ?_⟩
  cases hi : inB s.many id
  · exact cnd_i (fun _ => ⟨_, ⟨rfl, rfl⟩, H⟩) (fun h => by cases h)
  refine cnd_i (fun h => by cases h) fun _ => ?_
  have hi' := inB_iff.1 hi
  obtain ⟨p, c, q, c2, h, H⟩ := r_open H .here
  have hman := h.man
  have hwl := h.wlen
  dsimp only [nn]
  rw [W_id (by omega) (by omega)]
  have hk : id - 8192 = (((id - 8192).toNat : Nat) : Int) := by omega
  refine ldB_o H (by repeat (first | exact Pick.here | apply Pick.there)) (by rfl) (cnd_i (fun hon => ?_) fun hon => ?_)
  · skip
    repeat (first | refine ldI_o H (by repeat (first | exact Pick.here | apply Pick.there)) (by rfl) ?_ | refine ldL_o H (by repeat (first | exact Pick.here | apply Pick.there)) (by rfl) ?_ | refine ldB_o H (by repeat (first | exact Pick.here | apply Pick.there)) (by rfl) ?_ | refine ldP_o H (by repeat (first | exact Pick.here | apply Pick.there)) (by rfl) ?_ | refine ldS_o H (by repeat (first | exact Pick.here | apply Pick.there)) (by rfl) ?_)
    refine call_p H (refHas_t (ilN q c2 s.wt) (p := q) (c := c2) (l := s.wt) own_sl (by omega) (id - 8192)) (by repeat (first | exact Cut.nil | (apply Cut.cons; (repeat (first | exact Pick.here | apply Pick.there))))) fun wx H => ?_
    refine ⟨_, rfl, _, ⟨?_, rfl⟩, r_shut H h⟩
    rw [hon]; rfl
  · have H := r_shut H h
    rw [hk]
    refine call_p H (rBit_t b m s bs hf (k := (id - 8192).toNat) (by omega)) (by repeat (first | exact Cut.nil | (apply Cut.cons; (repeat (first | exact Pick.here | apply Pick.there))))) fun wx H => ?_
    refine ⟨_, rfl, _, ⟨?_, rfl⟩, H⟩
    rw [hon]; simp
    congr 1; omega
end Go.Proofs.YtgjddhpblpfneaaDoor
