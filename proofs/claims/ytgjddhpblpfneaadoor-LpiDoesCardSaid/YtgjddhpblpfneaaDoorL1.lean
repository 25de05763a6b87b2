/-
  lpi: a processor's part; bits of a table.
-/
import Derived.Test.YtgjddhpblpfneaaDoorCA
import Derived.Test.YtgjddhpblpfneaaDoorK11
import Derived.Test.YtgjddhpblpfneaaDoorMA
import Derived.Test.YtgjddhpblpfneaaDoorA6
import Derived.Test.YtgjddhpblpfneaaDoorA7
namespace Go.Proofs.YtgjddhpblpfneaaDoor
open Go Go.RowKit X
set_option maxRecDepth 100000
set_option linter.unusedVariables false
set_option linter.unusedSimpArgs false
set_option maxHeartbeats 1000000
structure Lp where
  many : Int
  on : Bool
  pa : Int
  ps : Int
  qa : Int
  qs : Int
  cfg : List Int
  wt : List Nat
structure Lp.Ok (s : Lp) : Prop where
  man : 1 ≤ s.many ∧ s.many ≤ 512
  len : (s.cfg.length : Int) = s.many
  byt : ∀ x ∈ s.cfg, 0 ≤ x ∧ x < 256
  up : Up s.wt
  wlt : ∀ x ∈ s.wt, (x : Int) < s.many
  off : s.on = false → s.wt = []
/-- its tables lie in a memory of n bytes -/
structure Lp.Fit (s : Lp) (n : Nat) : Prop where
  hp : holdsB n s.pa s.ps = true
  hq : holdsB n s.qa s.qs = true
  mp : s.many ≤ s.ps
  mq : (s.many + 7) / 8 ≤ s.qs
abbrev lpCells (s : Lp) (p : Option Addr) (c sb : Nat) : List Value := [.int .i64 s.many, .bool s.on, .int .i64 s.pa, .int .i64 s.ps, .int .i64 s.qa, .int .i64 s.qs, .slice p s.cfg.length c, ptrV sb]
abbrev lpRows (b : Nat) (s : Lp) (a : (Option Addr × Nat) × Nat) : List It := [row b (lpCells s a.1.1 a.1.2 a.2) T.t88, own tByte 1 (.slice a.1.1 s.cfg.length a.1.2) s.cfg.length (u8s s.cfg), setI a.2 s.wt]
def lpI (b : Nat) (s : Lp) : It := exI (fun a : (Option Addr × Nat) × Nat => s.Ok) (lpRows b s)
section
variable {w w0 : World} {S0 : Nat → Prop}
theorem lp_open {L F : List It} {b : Nat} {s : Lp} (H : X.Own w0 S0 L w) (hp : Pick L (lpI b s) F) : ∃ p c sb, s.Ok ∧ X.Own w0 S0 (row b (lpCells s p c sb) T.t88 :: own tByte 1 (.slice p s.cfg.length c) s.cfg.length (u8s s.cfg) :: setI sb s.wt :: F) w := by
  obtain ⟨⟨⟨p, c⟩, sb⟩, h2, H⟩ := ex_open H hp
  exact ⟨p, c, sb, h2, H⟩
theorem lp_shut {F : List It} {b c sb : Nat} {p : Option Addr} {s : Lp} (H : X.Own w0 S0 (row b (lpCells s p c sb) T.t88 :: own tByte 1 (.slice p s.cfg.length c) s.cfg.length (u8s s.cfg) :: setI sb s.wt :: F) w) (h : s.Ok) : X.Own w0 S0 (lpI b s :: F) w :=
  ex_shut (f := lpRows b s) ((p, c), sb) h H
theorem mem_facts {L F : List It} {b : Nat} {bs : List Int} (H : X.Own w0 S0 L w) (hp : Pick L (memI b bs) F) : (∀ x ∈ bs, 0 ≤ x ∧ x < 256) ∧ bs.length ≤ 131072 := by
  obtain ⟨d, c, rest, tb, td, _, _, h1, h2⟩ := mem_open H hp
  exact ⟨h1, h2⟩
end
def inB (many id : Int) : Bool := decide (8192 ≤ id ∧ id < 8192 + many)
theorem inB_iff {many id : Int} : inB many id = true ↔ 8192 ≤ id ∧ id < 8192 + many := by simp [inB]
theorem index_t (b : Nat) (s : Lp) (id : Int) (hid : -9223372036854775808 ≤ id ∧ id ≤ 9223372036854775807) : Tri P F.lpi_Lpis_index [ptrV b, .int .i64 id] [lpI b s] fun v L' => v = .tuple [.int .i64 (IntKind.i64.wrap (id - 8192)), .bool (inB s.many id)].toArray ∧ L' = [lpI b s] := by
  intro w S hS
  refine lpi_Lpis_index_cv ?_
  unfold lpi_Lpis_index
  have H := Own.start hS
  refine join_o ?_
  refine drw_o H fun wx H => ?_
  obtain ⟨p, c, sb, h, H⟩ := lp_open H .here
  have := h.man
  unfold lpi_Lpis_index_j0
  refine cnd_i (fun h1 => ?_) fun h1 => ?_
  · have h1 := of_decide_eq_true h1
    dsimp only [nn]
    repeat (first | refine ldI_o H (by repeat (first | exact Pick.here | apply Pick.there)) (by rfl) ?_ | refine ldL_o H (by repeat (first | exact Pick.here | apply Pick.there)) (by rfl) ?_ | refine ldB_o H (by repeat (first | exact Pick.here | apply Pick.there)) (by rfl) ?_ | refine ldP_o H (by repeat (first | exact Pick.here | apply Pick.there)) (by rfl) ?_ | refine ldS_o H (by repeat (first | exact Pick.here | apply Pick.there)) (by rfl) ?_)
    refine ⟨_, ⟨?_, rfl⟩, lp_shut H h⟩
    rw [W_id (by omega) (by omega)]
    have : decide (id - 8192 < s.many) = inB s.many id := by
      rw [Bool.eq_iff_iff, inB_iff, decide_eq_true_eq]; omega
    rw [this]
  · have h1 := of_decide_eq_false h1
    refine ⟨_, ⟨?_, rfl⟩, lp_shut H h⟩
    have : inB s.many id = false := by simp [inB]; omega
    rw [this]
theorem on_t (b : Nat) (s : Lp) : Tri P F.lpi_Lpis_On [ptrV b] [lpI b s] fun v L' => v = .bool s.on ∧ L' = [lpI b s] := by
  intro w S hS
  refine lpi_Lpis_On_cv ?_
  unfold lpi_Lpis_On
  have H := Own.start hS
  obtain ⟨p, c, sb, h, H⟩ := lp_open H .here
  dsimp only [nn]
  repeat (first | refine ldI_o H (by repeat (first | exact Pick.here | apply Pick.there)) (by rfl) ?_ | refine ldL_o H (by repeat (first | exact Pick.here | apply Pick.there)) (by rfl) ?_ | refine ldB_o H (by repeat (first | exact Pick.here | apply Pick.there)) (by rfl) ?_ | refine ldP_o H (by repeat (first | exact Pick.here | apply Pick.there)) (by rfl) ?_ | refine ldS_o H (by repeat (first | exact Pick.here | apply Pick.there)) (by rfl) ?_)
  exact ⟨_, ⟨rfl, rfl⟩, lp_shut H h⟩
theorem many_t (b : Nat) (s : Lp) : Tri P F.lpi_Lpis_Many [ptrV b] [lpI b s] fun v L' => v = .int .i64 s.many ∧ L' = [lpI b s] := by
  intro w S hS
  refine lpi_Lpis_Many_cv ?_
  unfold lpi_Lpis_Many
  have H := Own.start hS
  obtain ⟨p, c, sb, h, H⟩ := lp_open H .here
  dsimp only [nn]
  repeat (first | refine ldI_o H (by repeat (first | exact Pick.here | apply Pick.there)) (by rfl) ?_ | refine ldL_o H (by repeat (first | exact Pick.here | apply Pick.there)) (by rfl) ?_ | refine ldB_o H (by repeat (first | exact Pick.here | apply Pick.there)) (by rfl) ?_ | refine ldP_o H (by repeat (first | exact Pick.here | apply Pick.there)) (by rfl) ?_ | refine ldS_o H (by repeat (first | exact Pick.here | apply Pick.there)) (by rfl) ?_)
  exact ⟨_, ⟨rfl, rfl⟩, lp_shut H h⟩
/-! ### Bits -/
def byteN (bs : List Int) (j : Nat) : Nat := (bs.getD j 0).toNat
def at8 (q : Int) (k : Nat) : Nat := (q + (k / 8 : Nat)).toNat
def bitM (bs : List Int) (q : Int) (k : Nat) : Bool := (byteN bs (at8 q k)).testBit (k % 8)
def setB (x j : Nat) (is : Bool) : Nat := if is then andNot x (2 ^ j) ||| 2 ^ j else andNot x (2 ^ j)
def stoM (bs : List Int) (q : Int) (k : Nat) (is : Bool) : List Int := bs.set (at8 q k) (setB (byteN bs (at8 q k)) (k % 8) is : Nat)
theorem stoM_len (bs : List Int) (q : Int) (k : Nat) (is : Bool) : (stoM bs q k is).length = bs.length := by simp [stoM]
theorem setB_fin : ∀ (x : Fin 256) (j : Fin 8) (is : Bool), setB x j is < 256 ∧ ∀ i : Fin 8, (setB x j is).testBit i = if i = j then is else x.val.testBit i := by decide +kernel
theorem setB_lt {x j : Nat} (hx : x < 256) (hj : j < 8) (is : Bool) : setB x j is < 256 := (setB_fin ⟨x, hx⟩ ⟨j, hj⟩ is).1
theorem setB_bit {x j i : Nat} (hx : x < 256) (hj : j < 8) (hi : i < 8) (is : Bool) : (setB x j is).testBit i = if i = j then is else x.testBit i := by
  have := (setB_fin ⟨x, hx⟩ ⟨j, hj⟩ is).2 ⟨i, hi⟩
  simpa [Fin.ext_iff] using this
theorem byteN_lt {bs : List Int} (hr : ∀ x ∈ bs, 0 ≤ x ∧ x < 256) (j : Nat) : byteN bs j < 256 := by
  unfold byteN
  rw [List.getD_eq_getElem?_getD]
  cases h : bs[j]? with
  | none => simp
  | some x => have := hr x (List.mem_of_getElem? h); simp; omega
theorem byteN_get {bs : List Int} (hr : ∀ x ∈ bs, 0 ≤ x ∧ x < 256) {j : Nat} (hj : j < bs.length) : bs[j]? = some (byteN bs j : Nat) := by
  unfold byteN
  rw [List.getD_eq_getElem?_getD, List.getElem?_eq_getElem hj]
  have := hr bs[j] (List.getElem_mem hj)
  simp; omega
theorem stoM_range {bs : List Int} (hr : ∀ x ∈ bs, 0 ≤ x ∧ x < 256) (q : Int) (k : Nat) (is : Bool) : ∀ x ∈ stoM bs q k is, 0 ≤ x ∧ x < 256 := by
  intro x hx
  rcases List.mem_or_eq_of_mem_set hx with hx | rfl
  · exact hr x hx
  · have := setB_lt (byteN_lt hr (at8 q k)) (Nat.mod_lt k (by omega)) is
    omega
theorem byteN_set {bs : List Int} {i j x : Nat} (hi : i < bs.length) : byteN (bs.set i (x : Nat)) j = if i = j then x else byteN bs j := by
  unfold byteN
  rw [List.getD_eq_getElem?_getD, List.getD_eq_getElem?_getD, List.getElem?_set]
  by_cases h : i = j
  · rw [if_pos h, if_pos h, if_pos hi]; simp
  · rw [if_neg h, if_neg h]
theorem at8_inj {q : Int} (hq : 0 ≤ q) {k k' : Nat} : at8 q k = at8 q k' ↔ k / 8 = k' / 8 := by unfold at8; omega
theorem bitM_sto {bs : List Int} (hr : ∀ x ∈ bs, 0 ≤ x ∧ x < 256) {q : Int} (hq : 0 ≤ q) {k : Nat} (hk : at8 q k < bs.length) (is : Bool) (k' : Nat) : bitM (stoM bs q k is) q k' = if k' = k then is else bitM bs q k' := by
  unfold bitM stoM
  rw [byteN_set hk]
  have h1 := Nat.mod_lt k (show 8 > 0 by omega)
  have h2 := Nat.mod_lt k' (show 8 > 0 by omega)
  by_cases h : at8 q k = at8 q k'
  · rw [if_pos h, setB_bit (byteN_lt hr _) h1 h2]
    have := (at8_inj hq).1 h
    by_cases e : k' = k
    · subst e; rw [if_pos rfl, if_pos rfl]
    · rw [if_neg e, if_neg (by omega), h]
  · rw [if_neg h]
    rw [if_neg (fun e => h (by rw [e]))]
/-- bits of another table stay -/
theorem bitM_apart {bs : List Int} {q q' : Int} {k : Nat} (is : Bool) {k' : Nat} (hk : at8 q k < bs.length) (h : at8 q k ≠ at8 q' k') : bitM (stoM bs q k is) q' k' = bitM bs q' k' := by
  unfold bitM stoM
  rw [byteN_set hk, if_neg h]
theorem setB_same : ∀ (x : Fin 256) (j : Fin 8), setB x j (x.val.testBit j) = x := by decide +kernel
theorem stoM_same {bs : List Int} (hr : ∀ x ∈ bs, 0 ≤ x ∧ x < 256) {q : Int} {k : Nat} (hk : at8 q k < bs.length) {is : Bool} (h : bitM bs q k = is) : stoM bs q k is = bs := by
  subst h
  unfold stoM bitM
  rw [setB_same ⟨byteN bs (at8 q k), byteN_lt hr _⟩ ⟨k % 8, Nat.mod_lt k (by omega)⟩]
  have h1 := byteN_get hr hk
  obtain ⟨h2, h3⟩ := List.getElem?_eq_some_iff.1 h1
  show bs.set _ ((byteN bs (at8 q k) : Nat) : Int) = bs
  rw [← h3, List.set_getElem_self]
theorem fit_at {s : Lp} {n : Nat} (h : s.Fit n) {k : Nat} (hk : (k : Int) < s.many) : 0 ≤ s.qa ∧ at8 s.qa k < n ∧ (k / 8 : Nat) < s.qs := by
  have h1 := holdsB_iff.1 h.hq
  have h2 := h.mq
  unfold at8
  omega
theorem fit_errE {s : Lp} {n : Nat} (h : s.Fit n) (hn : n ≤ 131072) {k : Nat} (hk : (k : Int) < s.many) : errE n s.qa s.qs ((k / 8 : Nat) : Int) 1 = 0 := by
  have h1 := holdsB_iff.1 h.hq
  have h2 := fit_at h hk
  unfold errE mayE
  rw [if_pos h.hq, if_neg (by omega), if_neg (by simp), if_neg]
  rw [W_id (by omega) (by omega)]; omega
theorem div8 {k : Nat} (hk : k < 4611686018427387904) : IntKind.i64.wrap (Int.tdiv (k : Int) 8) = ((k / 8 : Nat) : Int) := i64_div (m := (k : Int)) (by omega) (by omega) 8 (by omega)
theorem mod8 (k : Nat) : Int.tmod (k : Int) 8 = ((k % 8 : Nat) : Int) := by rw [Int.tmod_eq_emod_of_nonneg (by omega)]; rfl
theorem read8 {bs : List Int} (hr : ∀ x ∈ bs, 0 ≤ x ∧ x < 256) (hn : bs.length ≤ 131072) {s : Lp} (h : s.Fit bs.length) {k : Nat} (hk : (k : Int) < s.many) : readV bs s.qa s.qs ((k / 8 : Nat) : Int) 1 = .tuple [.int .u64 (byteN bs (at8 s.qa k) : Nat), .int .i64 0].toArray := by
  have h2 := fit_at h hk
  unfold readV
  rw [if_pos (fit_errE h hn hk)]
  have e1 : (s.qa + ((k / 8 : Nat) : Int)).toNat = at8 s.qa k := rfl
  rw [e1]
  have e2 : cut bs (at8 s.qa k) (Int.toNat 1) = [(byteN bs (at8 s.qa k) : Int)] := by
    unfold cut
    have := byteN_get hr h2.2.1
    obtain ⟨g1, g2⟩ := List.getElem?_eq_some_iff.1 this
    rw [List.drop_eq_getElem_cons g1, g2]; rfl
  rw [e2]
  simp [le]
theorem pow8 {j : Nat} (hj : j < 8) : IntKind.u64.wrap (1 * 2 ^ min (Int.toNat (j : Int)) IntKind.u64.bits) = ((2 ^ j : Nat) : Int) := shl1_u64 (by omega)
theorem stored_t (b m : Nat) (s : Lp) (bs : List Int) (hf : s.Fit bs.length) {k : Nat} (hk : (k : Int) < s.many) : Tri P F.lpi_Lpis_stored [ptrV b, ptrV m, .int .i64 k] [lpI b s, memI m bs] fun v L' => v = .bool (bitM bs s.qa k) ∧ L' = [lpI b s, memI m bs] := by
  intro w S hS
  refine lpi_Lpis_stored_cv ?_
  unfold lpi_Lpis_stored
  have H := Own.start hS
  obtain ⟨hr, hl⟩ := mem_facts H (b := m) (bs := bs) (by repeat (first | exact Pick.here | apply Pick.there))
  obtain ⟨p, c, sb, h, H⟩ := lp_open H .here
  have := h.man
  dsimp only [nn]
  repeat (first | refine ldI_o H (by repeat (first | exact Pick.here | apply Pick.there)) (by rfl) ?_ | refine ldL_o H (by repeat (first | exact Pick.here | apply Pick.there)) (by rfl) ?_ | refine ldB_o H (by repeat (first | exact Pick.here | apply Pick.there)) (by rfl) ?_ | refine ldP_o H (by repeat (first | exact Pick.here | apply Pick.there)) (by rfl) ?_ | refine ldS_o H (by repeat (first | exact Pick.here | apply Pick.there)) (by rfl) ?_)
  refine ⟨by omega, ?_⟩
  rw [div8 (by omega)]
  refine call_p H (read_t m bs s.qa s.qs ((k / 8 : Nat) : Int) 1) (by repeat (first | exact Cut.nil | (apply Cut.cons; (repeat (first | exact Pick.here | apply Pick.there))))) fun wx H => ?_
  rw [read8 hr hl hf hk, mod8]
  have hj := Nat.mod_lt k (show 8 > 0 by omega)
  have hb := byteN_lt hr (at8 s.qa k)
  refine ⟨_, _, rfl, by omega, by omega, _, ⟨?_, rfl⟩, lp_shut H h⟩
  rw [shr_u64 _ (by omega), show (1 : Int) = ((1 : Nat) : Int) from rfl, and_u64 (Nat.lt_of_le_of_lt (Nat.div_le_self _ _) (by omega)) (by omega)]
  unfold bitM
  rw [← bit_test]
  congr 1
  rw [Bool.eq_iff_iff, beq_iff_eq, beq_iff_eq]
  omega
theorem store_t (b m : Nat) (s : Lp) (bs : List Int) (hf : s.Fit bs.length) {k : Nat} (hk : (k : Int) < s.many) (is : Bool) : Tri P F.lpi_Lpis_store [ptrV b, ptrV m, .int .i64 k, .bool is] [lpI b s, memI m bs] fun v L' => v = .tuple [].toArray ∧ L' = [lpI b s, memI m (stoM bs s.qa k is)] := by
  intro w S hS
  refine lpi_Lpis_store_cv ?_
  unfold lpi_Lpis_store
  have H := Own.start hS
  obtain ⟨hr, hl⟩ := mem_facts H (b := m) (bs := bs) (by repeat (first | exact Pick.here | apply Pick.there))
  obtain ⟨p, c, sb, h, H⟩ := lp_open H .here
  have := h.man
  dsimp only [nn]
  repeat (first | refine ldI_o H (by repeat (first | exact Pick.here | apply Pick.there)) (by rfl) ?_ | refine ldL_o H (by repeat (first | exact Pick.here | apply Pick.there)) (by rfl) ?_ | refine ldB_o H (by repeat (first | exact Pick.here | apply Pick.there)) (by rfl) ?_ | refine ldP_o H (by repeat (first | exact Pick.here | apply Pick.there)) (by rfl) ?_ | refine ldS_o H (by repeat (first | exact Pick.here | apply Pick.there)) (by rfl) ?_)
  refine ⟨by omega, ?_⟩
  rw [div8 (by omega)]
  refine call_p H (read_t m bs s.qa s.qs ((k / 8 : Nat) : Int) 1) (by repeat (first | exact Cut.nil | (apply Cut.cons; (repeat (first | exact Pick.here | apply Pick.there))))) fun wx H => ?_
  rw [read8 hr hl hf hk, mod8]
  have hj := Nat.mod_lt k (show 8 > 0 by omega)
  have hb := byteN_lt hr (at8 s.qa k)
  have hp : (2 : Nat) ^ (k % 8) < 2 ^ 64 := Nat.pow_lt_pow_right (by omega) (by omega)
  have fin : ∀ x wx, x = ((setB (byteN bs (at8 s.qa k)) (k % 8) is : Nat) : Int) → X.Own w S (row b (lpCells s p c sb) T.t88 :: own tByte 1 (.slice p s.cfg.length c) s.cfg.length (u8s s.cfg) :: setI sb s.wt :: [memI m bs]) wx →
      lpi_Lpis_store_j0 (some ⟨b, 0, none⟩) (some ⟨m, 0, none⟩) (k : Int) (fun v w' => ∃ L', (v = .tuple [].toArray ∧ L' = [lpI b s, memI m (stoM bs s.qa k is)]) ∧ X.Own w S L' w') x wx := by
    rintro _ wx rfl H
    unfold lpi_Lpis_store_j0
    dsimp only [nn]
    repeat (first | refine ldI_o H (by repeat (first | exact Pick.here | apply Pick.there)) (by rfl) ?_ | refine ldL_o H (by repeat (first | exact Pick.here | apply Pick.there)) (by rfl) ?_ | refine ldB_o H (by repeat (first | exact Pick.here | apply Pick.there)) (by rfl) ?_ | refine ldP_o H (by repeat (first | exact Pick.here | apply Pick.there)) (by rfl) ?_ | refine ldS_o H (by repeat (first | exact Pick.here | apply Pick.there)) (by rfl) ?_)
    refine ⟨by omega, ?_⟩
    rw [div8 (by omega)]
    refine call_o H (write_t m bs s.qa s.qs ((k / 8 : Nat) : Int) 1 ((setB (byteN bs (at8 s.qa k)) (k % 8) is : Nat) : Int)) (by repeat (first | exact Cut.nil | (apply Cut.cons; (repeat (first | exact Pick.here | apply Pick.there))))) fun vx L' wx hq H => ?_
    obtain ⟨rfl, rfl⟩ := hq
    simp only [List.cons_append, List.nil_append] at H
    have e : writeM bs s.qa s.qs ((k / 8 : Nat) : Int) 1 ((setB (byteN bs (at8 s.qa k)) (k % 8) is : Nat) : Int) = stoM bs s.qa k is := by
      unfold writeM stoM
      rw [if_pos (fit_errE hf hl hk)]
      have hlt := setB_lt hb hj is
      have e2 : byteI ((setB (byteN bs (at8 s.qa k)) (k % 8) is : Nat) : Int) 0 = ((setB (byteN bs (at8 s.qa k)) (k % 8) is : Nat) : Int) := by unfold byteI; omega
      show (wr bs _ _ 1) = _
      simp only [wr, e2]
      rfl
    rw [e] at H
    refine ⟨_, rfl, _, ⟨rfl, rfl⟩, ?_⟩
    exact lp_shut (H.drop (L1 := [row b (lpCells s p c sb) T.t88, own tByte 1 (.slice p s.cfg.length c) s.cfg.length (u8s s.cfg), setI sb s.wt, memI m (stoM bs s.qa k is)]) (by repeat (first | exact Cut.nil | (apply Cut.cons; (repeat (first | exact Pick.here | apply Pick.there)))))) h
  refine ⟨_, _, rfl, by omega, by omega, join_o ?_⟩
  rw [pow8 hj, andNot_u64 (by omega) hp]
  have ha : andNot (byteN bs (at8 s.qa k)) (2 ^ (k % 8)) < 2 ^ 64 := andNot_lt (by omega)
  cases is
  · exact cnd_i (fun h => by cases h) fun _ => fin _ _ rfl H
  · refine cnd_i (fun _ => ⟨by omega, by omega, fin _ _ ?_ H⟩) (fun h => by cases h)
    rw [or_u64 ha hp]; rfl
end Go.Proofs.YtgjddhpblpfneaaDoor
