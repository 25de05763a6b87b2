/-
  tables: the document's functions: they come to an end, and the memory keeps its shape.
-/
import Derived.Test.YthoieihffbahpaaL14
namespace Go.Proofs.Ythoieihffbahpaa
open Go Go.RowKit X
set_option maxRecDepth 100000
set_option linter.unusedVariables false
set_option linter.unusedSimpArgs false
set_option maxHeartbeats 1000000
theorem power_t (n : Int) : Tri P F.crierref18_power [.int .i64 n] [] fun v L' => (∃ x : Bool, v = .bool x ∧ (x = true → 8 ≤ n ∧ n ≤ 131072)) ∧ L' = [] := by
  intro w S hS
  refine crierref18_power_cv ?_
  unfold crierref18_power
  have H := Own.start hS
  refine loop_o (fun (st : Int) L => 8 ≤ st ∧ st ≤ 262144 ∧ L = []) (fun (st : Int) => (262145 - st).toNat) H ⟨by omega, by omega, rfl⟩ ?_
  rintro (st : Int) _ wx ⟨h1, h2, rfl⟩ H
  unfold crierref18_power_l0
  refine cnd_i (fun h => cnd_i (fun e => ?_) fun _ => ?_) fun _ => ⟨_, ⟨⟨false, rfl, (fun h => by cases h)⟩, rfl⟩, H⟩
  · have h := of_decide_eq_true h
    have e : st = n := by simpa using e
    exact ⟨_, ⟨⟨true, rfl, fun _ => by omega⟩, rfl⟩, H⟩
  · have h := of_decide_eq_true h
    rw [W_id (n := 2 * st) (by omega) (by omega)]
    exact ⟨⟨_, ⟨by omega, by omega, rfl⟩, H⟩, by omega⟩
theorem right18_t (b : Nat) (bs : List Int) (a s pg : Int) : Tri P F.crierref18_Table_Right [tabV a s pg, ptr b] [memI b bs] fun v L' => (∃ e : Int, v = .int .i64 e ∧ (e = 0 → pg = 0 ∨ 8 ≤ pg ∧ pg ≤ 131072)) ∧ L' = [memI b bs] := by
  intro w S hS
  refine crierref18_Table_Right_cv ?_
  unfold crierref18_Table_Right
  have H := Own.start hS
  refine alc_o H fun bx wx H => ?_
  repeat (first | refine ldI_o H (by repeat (first | exact Pick.here | apply Pick.there)) (by rfl) ?_ | refine ldL_o H (by repeat (first | exact Pick.here | apply Pick.there)) (by rfl) ?_ | refine ldB_o H (by repeat (first | exact Pick.here | apply Pick.there)) (by rfl) ?_ | refine ldP_o H (by repeat (first | exact Pick.here | apply Pick.there)) (by rfl) ?_ | refine ldS_o H (by repeat (first | exact Pick.here | apply Pick.there)) (by rfl) ?_)
  refine call_p H (refHolds_t b bs a s) (by repeat (first | exact Cut.nil | (apply Cut.cons; (repeat (first | exact Pick.here | apply Pick.there))))) fun wx H => ?_
  refine ⟨_, rfl, cnd_i (fun _ => ⟨_, ⟨⟨42, rfl, fun h => by omega⟩, rfl⟩, H.drop (by repeat (first | exact Cut.nil | (apply Cut.cons; (repeat (first | exact Pick.here | apply Pick.there)))))⟩) fun _ => join_o ?_⟩
  refine ldI_o H (by repeat (first | exact Pick.here | apply Pick.there)) (by rfl) (cnd_i (fun _ => ?_) fun h => ?_)
  · repeat (first | refine ldI_o H (by repeat (first | exact Pick.here | apply Pick.there)) (by rfl) ?_ | refine ldL_o H (by repeat (first | exact Pick.here | apply Pick.there)) (by rfl) ?_ | refine ldB_o H (by repeat (first | exact Pick.here | apply Pick.there)) (by rfl) ?_ | refine ldP_o H (by repeat (first | exact Pick.here | apply Pick.there)) (by rfl) ?_ | refine ldS_o H (by repeat (first | exact Pick.here | apply Pick.there)) (by rfl) ?_)
    refine call_o H (power_t pg) (by repeat (first | exact Cut.nil | (apply Cut.cons; (repeat (first | exact Pick.here | apply Pick.there))))) fun vx L' wx hq H => ?_
    obtain ⟨⟨x, rfl, hx⟩, rfl⟩ := hq
    simp only [List.cons_append, List.nil_append] at H
    refine ⟨_, rfl, ?_⟩
    unfold crierref18_Table_Right_j0
    refine cnd_i (fun _ => ⟨_, ⟨⟨1, rfl, fun h => by omega⟩, rfl⟩, H.drop (by repeat (first | exact Cut.nil | (apply Cut.cons; (repeat (first | exact Pick.here | apply Pick.there)))))⟩) fun h => ⟨_, ⟨⟨0, rfl, fun _ => .inr (hx (by simpa using h))⟩, rfl⟩, H.drop (by repeat (first | exact Cut.nil | (apply Cut.cons; (repeat (first | exact Pick.here | apply Pick.there)))))⟩
  · unfold crierref18_Table_Right_j0
    exact cnd_i (fun h => by cases h) fun _ => ⟨_, ⟨⟨0, rfl, fun _ => .inl (by simpa using h)⟩, rfl⟩, H.drop (by repeat (first | exact Cut.nil | (apply Cut.cons; (repeat (first | exact Pick.here | apply Pick.there)))))⟩
theorem entry18_t (b : Nat) (bs : List Int) (hn : bs.length ≤ 131072) (a s k : Int) : Tri P F.crierref18_entry [ptr b, winV a s, .int .i64 k] [memI b bs] fun v L' => (∃ (x : Int) (ok : Bool), v = .tuple [.int .i64 x, .bool ok].toArray ∧ (ok = true → 0 ≤ x ∧ x + 8 ≤ bs.length)) ∧ L' = [memI b bs] := by
  intro w S hS
  refine crierref18_entry_cv ?_
  unfold crierref18_entry
  have H := Own.start hS
  refine alc_o H fun b5 wx H => join_o ?_
  have out : ∀ x wx, X.Own w S [row b5 [.int .i64 a, .int .i64 s] T.t30, memI b bs] wx → (x = false → holdsB bs.length a s = true ∧ 0 ≤ k ∧ k < 131072 ∧ 8 * k + 8 ≤ s) →
      crierref18_entry_j0 k (fun v w' => ∃ L', ((∃ (x : Int) (ok : Bool), v = .tuple [.int .i64 x, .bool ok].toArray ∧ (ok = true → 0 ≤ x ∧ x + 8 ≤ bs.length)) ∧ L' = [memI b bs]) ∧ X.Own w S L' w') b5 x wx := by
    intro x wx H hx
    unfold crierref18_entry_j0
    refine cnd_i (fun _ => ⟨_, ⟨⟨0, false, rfl, (fun h => by cases h)⟩, rfl⟩, H.drop (by repeat (first | exact Cut.nil | (apply Cut.cons; (repeat (first | exact Pick.here | apply Pick.there)))))⟩) fun h => ?_
    obtain ⟨h1, h2, h3, h4⟩ := hx h
    have h5 := holdsB_iff.1 h1
    repeat (first | refine ldI_o H (by repeat (first | exact Pick.here | apply Pick.there)) (by rfl) ?_ | refine ldL_o H (by repeat (first | exact Pick.here | apply Pick.there)) (by rfl) ?_ | refine ldB_o H (by repeat (first | exact Pick.here | apply Pick.there)) (by rfl) ?_ | refine ldP_o H (by repeat (first | exact Pick.here | apply Pick.there)) (by rfl) ?_ | refine ldS_o H (by repeat (first | exact Pick.here | apply Pick.there)) (by rfl) ?_)
    rw [W_id (n := 8 * k) (by omega) (by omega), W_id (n := a + 8 * k) (by omega) (by omega)]
    exact ⟨_, ⟨⟨_, true, rfl, fun _ => by omega⟩, rfl⟩, H.drop (by repeat (first | exact Cut.nil | (apply Cut.cons; (repeat (first | exact Pick.here | apply Pick.there)))))⟩
  repeat (first | refine ldI_o H (by repeat (first | exact Pick.here | apply Pick.there)) (by rfl) ?_ | refine ldL_o H (by repeat (first | exact Pick.here | apply Pick.there)) (by rfl) ?_ | refine ldB_o H (by repeat (first | exact Pick.here | apply Pick.there)) (by rfl) ?_ | refine ldP_o H (by repeat (first | exact Pick.here | apply Pick.there)) (by rfl) ?_ | refine ldS_o H (by repeat (first | exact Pick.here | apply Pick.there)) (by rfl) ?_)
  refine call_p H (refHolds_t b bs a s) (by repeat (first | exact Cut.nil | (apply Cut.cons; (repeat (first | exact Pick.here | apply Pick.there))))) fun wx H => ?_
  refine ⟨_, rfl, cnd_i (fun _ => out _ _ H (fun h => by cases h)) fun h1 => cnd_i (fun _ => out _ _ H (fun h => by cases h)) fun h2 => cnd_i (fun _ => out _ _ H (fun h => by cases h)) fun h3 => ?_⟩
  have h1 : holdsB bs.length a s = true := by simpa using h1
  have h2 := of_decide_eq_false h2
  have h3 := of_decide_eq_false h3
  repeat (first | refine ldI_o H (by repeat (first | exact Pick.here | apply Pick.there)) (by rfl) ?_ | refine ldL_o H (by repeat (first | exact Pick.here | apply Pick.there)) (by rfl) ?_ | refine ldB_o H (by repeat (first | exact Pick.here | apply Pick.there)) (by rfl) ?_ | refine ldP_o H (by repeat (first | exact Pick.here | apply Pick.there)) (by rfl) ?_ | refine ldS_o H (by repeat (first | exact Pick.here | apply Pick.there)) (by rfl) ?_)
  rw [W_id (n := 8 * k) (by omega) (by omega), W_id (n := 8 * k + 8) (by omega) (by omega)]
  exact out _ _ H fun h => ⟨h1, by omega, by omega, by have := of_decide_eq_false h; omega⟩
theorem get18_t (b : Nat) (bs : List Int) (p : Int) (h0 : 0 ≤ p) (h1 : p + 8 ≤ bs.length) : Tri P F.crierref18_get [ptr b, .int .i64 p] [memI b bs] fun v L' => (∃ (x : Int) (ok : Bool), v = .tuple [.int .u64 x, .bool ok].toArray) ∧ L' = [memI b bs] := by
  intro w S hS
  refine crierref18_get_cv ?_
  unfold crierref18_get
  have H := Own.start hS
  obtain ⟨d, c, rest, tb, td, H, hc, hr, hl⟩ := mem_open H (b := b) (bs := bs) (by repeat (first | exact Pick.here | apply Pick.there))
  refine loop_o (fun (st : Int × Int) L => -1 ≤ st.2 ∧ st.2 ≤ 7 ∧ L = [row b [.slice (some ⟨d, 0, none⟩) bs.length c] tb, row d (u8s bs ++ rest) td]) (fun (st : Int × Int) => (st.2 + 1).toNat) H ⟨by omega, by omega, rfl⟩ ?_
  rintro ⟨n, i⟩ _ wx ⟨g1, g2, rfl⟩ H
  dsimp only at g1 g2
  unfold crierref18_get_l0
  dsimp only
  refine cnd_i (fun h => ?_) fun h => ?_
  · have h := of_decide_eq_true h
    dsimp only [nn]
    refine ldL_o H .here (by rfl) ?_
    rw [W_id (n := p + i) (by omega) (by omega)]
    refine ⟨⟨by omega, by omega⟩, ?_⟩
    have hk : (p + i).toNat < bs.length := by omega
    dsimp only [nn]
    rw [add_lit, Nat.mul_one, Nat.zero_add]
    refine ldI_o H (.there .here) (show (u8s bs ++ rest)[(p + i).toNat]? = some (.int .u8 bs[(p + i).toNat]) by rw [List.getElem?_append_left (by rw [u8s_length]; exact hk)]; simp [u8s, hk]) ?_
    rw [W_id (n := i - 1) (by omega) (by omega)]
    exact ⟨⟨_, ⟨by show -1 ≤ i - 1; omega, by show i - 1 ≤ 7; omega, rfl⟩, H⟩, by show (i - 1 + 1).toNat < (i + 1).toNat; omega⟩
  · exact ⟨_, ⟨⟨_, _, rfl⟩, rfl⟩, mem_shut H rfl hc hr hl⟩
theorem put18_t (b : Nat) (bs : List Int) (p v : Int) (h0 : 0 ≤ p) (h1 : p + 8 ≤ bs.length) : Tri P F.crierref18_put [ptr b, .int .i64 p, .int .u64 v] [memI b bs] fun x L' => x = .tuple [].toArray ∧ ∃ bs' : List Int, bs'.length = bs.length ∧ L' = [memI b bs'] := by
  intro w S hS
  refine crierref18_put_cv ?_
  unfold crierref18_put
  have H := Own.start hS
  obtain ⟨d, c, rest, tb, td, H, hc, hr, hl⟩ := mem_open H (b := b) (bs := bs) (by repeat (first | exact Pick.here | apply Pick.there))
  refine loop_o (fun (st : Int × Int) L => 0 ≤ st.2 ∧ st.2 ≤ 8 ∧ ∃ bs' : List Int, bs'.length = bs.length ∧ (∀ x ∈ bs', 0 ≤ x ∧ x < 256) ∧ L = [row b [.slice (some ⟨d, 0, none⟩) bs.length c] tb, row d (u8s bs' ++ rest) td]) (fun (st : Int × Int) => (8 - st.2).toNat) H ⟨by omega, by omega, bs, rfl, hr, rfl⟩ ?_
  rintro ⟨n, i⟩ _ wx ⟨g1, g2, bs', e1, e2, rfl⟩ H
  dsimp only at g1 g2
  unfold crierref18_put_l0
  dsimp only
  refine cnd_i (fun h => ?_) fun h => ?_
  · have h := of_decide_eq_true h
    dsimp only [nn]
    refine ldL_o H .here (by rfl) ⟨by omega, ?_⟩
    rw [W_id (n := p + i) (by omega) (by omega)]
    refine ⟨⟨by omega, by omega⟩, ?_⟩
    have hk : (p + i).toNat < bs'.length := by omega
    dsimp only [nn]
    rw [add_lit, Nat.mul_one, Nat.zero_add]
    refine st1_o H (by repeat (first | exact Rep.here | apply Rep.there)) (by rw [List.length_append, u8s_length]; omega) fun wx H => ⟨by omega, ?_⟩
    rw [W_id (n := i + 1) (by omega) (by omega)]
    have hb : 0 ≤ IntKind.u8.wrap (Int.tmod n 256) ∧ IntKind.u8.wrap (Int.tmod n 256) < 256 := by
      simp [IntKind.wrap, IntKind.signed, IntKind.bits]; omega
    rw [mem_set hk] at H
    refine ⟨⟨_, ⟨by show 0 ≤ i + 1; omega, by show i + 1 ≤ 8; omega, bs'.set (p + i).toNat (IntKind.u8.wrap (Int.tmod n 256)), by simp [e1], ?_, rfl⟩, H⟩, by show (8 - (i + 1)).toNat < (8 - i).toNat; omega⟩
    intro x hx
    rcases List.mem_or_eq_of_mem_set hx with hx | rfl
    · exact e2 x hx
    · exact hb
  · exact ⟨_, ⟨rfl, bs', e1, rfl⟩, mem_shut H e1.symm (by rw [e1]; exact hc) e2 (by rw [e1]; exact hl)⟩
theorem events18_t (v : Bool) (b a : Int) : Tri P F.crierref18_Device_Events [devV v b a] [] fun x L' => (∃ n : Int, x = .int .i64 n ∧ n ≤ 4294967296) ∧ L' = [] := by
  intro w S hS
  refine crierref18_Device_Events_cv ?_
  unfold crierref18_Device_Events
  have H := Own.start hS
  refine alc_o H fun b4 wx H => ?_
  refine loop_o (fun (st : Int × Int) L => 0 ≤ st.2 ∧ st.2 ≤ 31 ∧ 0 ≤ st.1 ∧ st.1 ≤ 2 * 2 ^ st.2.toNat ∧ L = [row b4 [.bool v, .int .i64 b, .int .i64 a] T.t91]) (fun (st : Int × Int) => (31 - st.2).toNat) H ⟨by omega, by omega, by omega, by decide, rfl⟩ ?_
  rintro ⟨n, i⟩ _ wx ⟨g1, g2, g3, g4, rfl⟩ H
  dsimp only at g1 g2 g3 g4
  unfold crierref18_Device_Events_l1
  dsimp only
  have g5 : (2 : Int) ^ i.toNat ≤ 2147483648 := by
    have : (2 : Nat) ^ i.toNat ≤ 2 ^ 31 := Nat.pow_le_pow_right (by omega) (by omega)
    have h : ((2 ^ i.toNat : Nat) : Int) ≤ 2147483648 := by omega
    rw [Int.natCast_pow] at h; exact h
  have out : ∀ x, (x = true → i < 31) → crierref18_Device_Events_j0 (fun x w' => ∃ L', ((∃ n : Int, x = .int .i64 n ∧ n ≤ 4294967296) ∧ L' = []) ∧ X.Own w S L' w') n i (fun st w' => (∃ L', (0 ≤ st.2 ∧ st.2 ≤ 31 ∧ 0 ≤ st.1 ∧ st.1 ≤ 2 * 2 ^ st.2.toNat ∧ L' = [row b4 [.bool v, .int .i64 b, .int .i64 a] T.t91]) ∧ X.Own w S L' w') ∧ (31 - st.2).toNat < (31 - i).toNat) x wx := by
    intro x hx
    unfold crierref18_Device_Events_j0
    refine cnd_i (fun h => ?_) fun h => ⟨_, ⟨⟨n, rfl, by omega⟩, rfl⟩, H.drop (by repeat (first | exact Cut.nil | (apply Cut.cons; (repeat (first | exact Pick.here | apply Pick.there)))))⟩
    have := hx h
    dsimp only
    rw [W_id (n := i + 1) (by omega) (by omega), W_id (n := 2 * n) (by omega) (by omega)]
    refine ⟨⟨_, ⟨by omega, by omega, by omega, ?_, rfl⟩, H⟩, by omega⟩
    rw [show (i + 1).toNat = i.toNat + 1 by omega, Int.pow_succ]; omega
  refine join_o (ldI_o H (by repeat (first | exact Pick.here | apply Pick.there)) (by rfl) (cnd_i (fun _ => out _ fun h => of_decide_eq_true h) fun _ => out _ (fun h => by cases h)))
theorem place18_t (b : Nat) (bs : List Int) (hn : bs.length ≤ 131072) (a s pg id : Int) (hp : pg = 0 ∨ 8 ≤ pg ∧ pg ≤ 131072) : Tri P F.crierref18_Table_place [tabV a s pg, ptr b, .int .i64 id] [memI b bs] fun v L' => (∃ (x : Int) (ok : Bool), v = .tuple [.int .i64 x, .bool ok].toArray ∧ (ok = true → 0 ≤ x ∧ x + 8 ≤ bs.length)) ∧ L' = [memI b bs] := by
  intro w S hS
  refine crierref18_Table_place_cv ?_
  unfold crierref18_Table_place
  have H := Own.start hS
  refine alc_o H fun b6 wx H => join_o ?_
  have out : ∀ x, crierref18_Table_place_j0 (some ⟨b, 0, none⟩) id (fun v w' => ∃ L', ((∃ (x : Int) (ok : Bool), v = .tuple [.int .i64 x, .bool ok].toArray ∧ (ok = true → 0 ≤ x ∧ x + 8 ≤ bs.length)) ∧ L' = [memI b bs]) ∧ X.Own w S L' w') b6 x wx := by
    intro x
    unfold crierref18_Table_place_j0
    refine cnd_i (fun _ => ⟨_, ⟨⟨0, false, rfl, (fun h => by cases h)⟩, rfl⟩, H.drop (by repeat (first | exact Cut.nil | (apply Cut.cons; (repeat (first | exact Pick.here | apply Pick.there)))))⟩) fun _ => ldI_o H (by repeat (first | exact Pick.here | apply Pick.there)) (by rfl) (cnd_i (fun _ => ?_) fun h => ?_)
    · repeat (first | refine ldI_o H (by repeat (first | exact Pick.here | apply Pick.there)) (by rfl) ?_ | refine ldL_o H (by repeat (first | exact Pick.here | apply Pick.there)) (by rfl) ?_ | refine ldB_o H (by repeat (first | exact Pick.here | apply Pick.there)) (by rfl) ?_ | refine ldP_o H (by repeat (first | exact Pick.here | apply Pick.there)) (by rfl) ?_ | refine ldS_o H (by repeat (first | exact Pick.here | apply Pick.there)) (by rfl) ?_)
      refine call_o H (entry18_t b bs hn a s id) (by repeat (first | exact Cut.nil | (apply Cut.cons; (repeat (first | exact Pick.here | apply Pick.there))))) fun vx L' wx hq H => ?_
      obtain ⟨⟨x, ok, rfl, hx⟩, rfl⟩ := hq
      simp only [List.cons_append, List.nil_append] at H
      exact ⟨_, _, rfl, _, ⟨⟨x, ok, rfl, hx⟩, rfl⟩, H.drop (by repeat (first | exact Cut.nil | (apply Cut.cons; (repeat (first | exact Pick.here | apply Pick.there)))))⟩
    · have h : pg ≠ 0 := by simpa using h
      have hp := hp.resolve_left h
      have ediv : IntKind.i64.wrap (Int.tdiv pg 8) = pg / 8 := by rw [Int.tdiv_eq_ediv_of_nonneg (by omega), W_id (by omega) (by omega)]
      refine drw_o H fun wx H => ?_
      repeat (first | refine ldI_o H (by repeat (first | exact Pick.here | apply Pick.there)) (by rfl) ?_ | refine ldL_o H (by repeat (first | exact Pick.here | apply Pick.there)) (by rfl) ?_ | refine ldB_o H (by repeat (first | exact Pick.here | apply Pick.there)) (by rfl) ?_ | refine ldP_o H (by repeat (first | exact Pick.here | apply Pick.there)) (by rfl) ?_ | refine ldS_o H (by repeat (first | exact Pick.here | apply Pick.there)) (by rfl) ?_)
      refine ⟨by omega, ?_⟩
      rw [ediv]
      refine ⟨by omega, ?_⟩
      refine call_o H (entry18_t b bs hn a s (IntKind.i64.wrap (Int.tdiv id (pg / 8)))) (by repeat (first | exact Cut.nil | (apply Cut.cons; (repeat (first | exact Pick.here | apply Pick.there))))) fun vx L' wx hq H => ?_
      obtain ⟨⟨x, ok, rfl, hx⟩, rfl⟩ := hq
      simp only [List.cons_append, List.nil_append] at H
      refine ⟨_, _, rfl, cnd_i (fun _ => ⟨_, ⟨⟨0, false, rfl, (fun h => by cases h)⟩, rfl⟩, H.drop (by repeat (first | exact Cut.nil | (apply Cut.cons; (repeat (first | exact Pick.here | apply Pick.there)))))⟩) fun hok => ?_⟩
      obtain ⟨x0, x1⟩ := hx (by simpa using hok)
      refine call_o H (get18_t b bs x x0 x1) (by repeat (first | exact Cut.nil | (apply Cut.cons; (repeat (first | exact Pick.here | apply Pick.there))))) fun vx L' wx hq H => ?_
      obtain ⟨⟨y, ok', rfl⟩, rfl⟩ := hq
      simp only [List.cons_append, List.nil_append] at H
      refine ⟨_, _, rfl, cnd_i (fun _ => ⟨_, ⟨⟨0, false, rfl, (fun h => by cases h)⟩, rfl⟩, H.drop (by repeat (first | exact Cut.nil | (apply Cut.cons; (repeat (first | exact Pick.here | apply Pick.there)))))⟩) fun _ => ?_⟩
      refine drw_o H fun wx H => ?_
      refine ⟨by omega, ?_⟩
      repeat (first | refine ldI_o H (by repeat (first | exact Pick.here | apply Pick.there)) (by rfl) ?_ | refine ldL_o H (by repeat (first | exact Pick.here | apply Pick.there)) (by rfl) ?_ | refine ldB_o H (by repeat (first | exact Pick.here | apply Pick.there)) (by rfl) ?_ | refine ldP_o H (by repeat (first | exact Pick.here | apply Pick.there)) (by rfl) ?_ | refine ldS_o H (by repeat (first | exact Pick.here | apply Pick.there)) (by rfl) ?_)
      refine ⟨by omega, ?_⟩
      rw [ediv]
      refine ⟨by omega, ?_⟩
      refine call_o H (entry18_t b bs hn (IntKind.i64.wrap (Int.tmod y 4294967296)) pg (Int.tmod id (pg / 8))) (by repeat (first | exact Cut.nil | (apply Cut.cons; (repeat (first | exact Pick.here | apply Pick.there))))) fun vx L' wx hq H => ?_
      obtain ⟨⟨z, ok2, rfl, hz⟩, rfl⟩ := hq
      simp only [List.cons_append, List.nil_append] at H
      exact ⟨_, _, rfl, _, ⟨⟨z, ok2, rfl, hz⟩, rfl⟩, H.drop (by repeat (first | exact Cut.nil | (apply Cut.cons; (repeat (first | exact Pick.here | apply Pick.there)))))⟩
  exact cnd_i (fun _ => out _) fun _ => out _
end Go.Proofs.Ythoieihffbahpaa
