/-
  lpi: the reference: the set-up, the best, what waits, moved.
-/
import Derived.Test.YtgjddhpblpfneaaDoorL10
namespace Go.Proofs.YtgjddhpblpfneaaDoor
open Go Go.RowKit X
set_option maxRecDepth 100000
set_option linter.unusedVariables false
set_option linter.unusedSimpArgs false
set_option maxHeartbeats 1000000
/-- the bits from 3 on, up to i, as a number -/
def upBits (x i : Nat) : Nat := x % 2 ^ i / 8 * 8
theorem upBits_fin : ∀ (x : Fin 256) (i : Fin 8), 3 ≤ i.val → upBits x.val (i.val + 1) = upBits x.val i.val + if x.val.testBit i.val then 2 ^ i.val else 0 := by decide +kernel
theorem upBits_lt : ∀ (x : Fin 256) (i : Fin 8), upBits x.val i.val < 256 := by decide +kernel
theorem upBits_end : ∀ x : Fin 256, upBits x.val 8 = x.val / 8 * 8 := by decide +kernel
theorem bit64_fin : ∀ (x : Fin 256) (i : Fin 8), (bitX .and .i64 (Int.fdiv (x.val : Int) (2 ^ min (Int.toNat (i.val : Int)) IntKind.i64.bits)) 1 == 1) = x.val.testBit i.val := by decide +kernel
theorem shl_fin : ∀ i : Fin 8, IntKind.i64.wrap (1 * 2 ^ min (Int.toNat (i.val : Int)) IntKind.i64.bits) = ((2 ^ i.val : Nat) : Int) := by decide +kernel
theorem rReal_t (x : Nat) (hx : x < 256) : Tri P F.crierref06_Real [.int .i64 x] [] fun v L' => v = .int .i64 ((x / 8 * 8 : Nat) : Int) ∧ L' = [] := by
  intro w S hS
  refine crierref06_Real_cv ?_
  unfold crierref06_Real
  have H := Own.start hS
  refine loop_o (fun (st : Int × Int) L => ∃ i : Nat, 3 ≤ i ∧ i ≤ 8 ∧ st = (((upBits x i : Nat) : Int), (i : Int)) ∧ L = []) (fun (st : Int × Int) => (8 - st.2).toNat) H ⟨3, by omega, by omega, by unfold upBits; rw [show x % 2 ^ 3 / 8 * 8 = 0 by omega]; rfl, rfl⟩ ?_
  rintro _ _ wx ⟨i, hi, hi8, rfl, rfl⟩ H
  unfold crierref06_Real_l1
  refine cnd_i (fun hc => join_o ?_) fun hc => ?_
  · have hc := of_decide_eq_true hc
    dsimp only at hc
    have hlt : i < 8 := by omega
    have hb := bit64_fin ⟨x, hx⟩ ⟨i, hlt⟩
    dsimp only at hb
    refine call_p H (tri_plain (V := .bool (x.testBit i)) fun w => crierref06_bit_cv (by unfold crierref06_bit; exact ⟨by omega, by rw [hb], Below.refl _ _⟩)) .nil fun wx H => ?_
    refine ⟨_, rfl, ?_⟩
    have hn := upBits_fin ⟨x, hx⟩ ⟨i, hlt⟩ hi
    dsimp only at hn
    have hle : upBits x i < 256 := upBits_lt ⟨x, hx⟩ ⟨i, hlt⟩
    have hp : (2 : Nat) ^ i < 256 := Nat.lt_of_lt_of_le (Nat.pow_lt_pow_right (by omega) hlt) (by omega)
    unfold crierref06_Real_j0
    refine cnd_i (fun h1 => ⟨by omega, ?_⟩) fun h1 => ?_
    · have hs : IntKind.i64.wrap (1 * 2 ^ min (Int.toNat (i : Int)) IntKind.i64.bits) = ((2 ^ i : Nat) : Int) := shl_fin ⟨i, hlt⟩
      have e1 : IntKind.i64.wrap (((upBits x i : Nat) : Int) + IntKind.i64.wrap (1 * 2 ^ min (Int.toNat (i : Int)) IntKind.i64.bits)) = ((upBits x i + 2 ^ i : Nat) : Int) := by
        rw [hs]
        clear hs hn
        generalize (2 : Nat) ^ i = y at *
        rw [W_id (by omega) (by omega)]; push_cast; rfl
      have e2 : IntKind.i64.wrap ((i : Int) + 1) = (i : Int) + 1 := W_id (by omega) (by omega)
      dsimp only
      rw [e1, e2]
      rw [if_pos h1] at hn
      exact ⟨⟨_, ⟨i + 1, by omega, by omega, by rw [hn]; push_cast; rfl, rfl⟩, H⟩, by show (8 - ((i : Int) + 1)).toNat < (8 - (i : Int)).toNat; omega⟩
    · dsimp only
      rw [W_id (by omega) (by omega)]
      rw [if_neg (by rw [h1]; decide), Nat.add_zero] at hn
      exact ⟨⟨_, ⟨i + 1, by omega, by omega, by rw [hn]; push_cast; rfl, rfl⟩, H⟩, by show (8 - ((i : Int) + 1)).toNat < (8 - (i : Int)).toNat; omega⟩
  · have hc := of_decide_eq_false hc
    dsimp only at hc
    have : i = 8 := by omega
    subst this
    have := upBits_end ⟨x, hx⟩
    dsimp only at this
    exact ⟨_, ⟨by dsimp only; rw [this], rfl⟩, H⟩
theorem rSetup_t (b : Nat) (s : Lp) (id : Int) (hid : I64 id) : Tri P F.crierref15_Lpis_Setup [ptrV b, .int .i64 id] [rI b s] fun v L' => v = .tuple [.bool (setupR s id).1, .int .i64 (setupR s id).2].toArray ∧ L' = [rI b s] := by
  intro w S hS
  refine crierref15_Lpis_Setup_cv ?_
  unfold crierref15_Lpis_Setup setupR
  have H := Own.start hS
  refine call_p H (rOf_t b s id) (by repeat (first | exact Cut.nil | (apply Cut.cons; (repeat (first | exact Pick.here | apply Pick.there))))) fun wx H => ?_
  refine ⟨_, rfl, ?_⟩
  cases hi : inB s.many id
  · exact cnd_i (fun _ => ⟨_, ⟨rfl, rfl⟩, H⟩) (fun h => by cases h)
  refine cnd_i (fun h => by cases h) fun _ => ?_
  have hi' := inB_iff.1 hi
  obtain ⟨p, c, q, c2, h, H⟩ := r_open H .here
  have hman := h.man
  have hlen := h.len
  dsimp only [nn]
  rw [W_id (by omega) (by omega)]
  have hk : id - 8192 = (((id - 8192).toNat : Nat) : Int) := by omega
  have hkl : (id - 8192).toNat < s.cfg.length := by omega
  have hby := h.byt
  generalize (id - 8192).toNat = k at *
  obtain ⟨x, hx⟩ : ∃ x, s.cfg[k]? = some x := ⟨_, List.getElem?_eq_getElem hkl⟩
  have hxr := hby x (List.mem_of_getElem? hx)
  have hg : s.cfg.getD k 0 = x := by rw [List.getD_eq_getElem?_getD, hx]; rfl
  have hu : (u8s s.cfg)[k]? = some (.int .u8 x) := by simp [u8s, hx]
  rw [hk, hg]
  obtain ⟨a, rfl, hc⟩ := (H.sl (e := tByte) (p := p) (n := s.cfg.length) (c := c) (xs := u8s s.cfg) (by repeat (first | exact Pick.here | apply Pick.there))).1 k _ hu
  repeat (first | refine ldI_o H (by repeat (first | exact Pick.here | apply Pick.there)) (by rfl) ?_ | refine ldL_o H (by repeat (first | exact Pick.here | apply Pick.there)) (by rfl) ?_ | refine ldB_o H (by repeat (first | exact Pick.here | apply Pick.there)) (by rfl) ?_ | refine ldP_o H (by repeat (first | exact Pick.here | apply Pick.there)) (by rfl) ?_ | refine ldS_o H (by repeat (first | exact Pick.here | apply Pick.there)) (by rfl) ?_)
  refine ix_i hkl ⟨x, by rw [Nat.mul_one]; exact hc, by omega, ?_⟩
  rw [W_id (n := x) (by omega) (by omega)]
  obtain ⟨x, rfl⟩ := Int.eq_ofNat_of_zero_le hxr.1
  refine call_p H (rReal_t x (by omega)) .nil fun wx H => ?_
  refine ⟨_, rfl, _, ⟨?_, rfl⟩, r_shut H h⟩
  rw [Int.tmod_eq_emod_of_nonneg (by omega)]
  have e1 : (((x : Int) % 2) == 1) = decide ((x : Int) % 2 = 1) := by
    rw [Bool.eq_iff_iff, beq_iff_eq, decide_eq_true_eq]
  have e2 : ((x / 8 * 8 : Nat) : Int) = (x : Int) / 8 * 8 := by push_cast; rfl
  rw [e2]
  exact congrArg (fun b => Value.tuple [.bool b, .int .i64 ((x : Int) / 8 * 8)].toArray) e1
theorem rBefore_t (p id q id2 : Int) : Tri P F.crierref06_Before [.int .i64 p, .int .i64 id, .int .i64 q, .int .i64 id2] [] fun v L' => v = .bool (befB p id q id2) ∧ L' = [] := by
  refine tri_plain fun w => crierref06_Before_cv ?_
  unfold crierref06_Before befB
  refine cnd_i (fun h => ⟨?_, Below.refl _ _⟩) fun h => ⟨?_, Below.refl _ _⟩
  · have h : p ≠ q := by simpa using h
    rw [show (p == q) = false by simpa using h]; simp
  · have h : p = q := by simpa using h
    subst h; simp
theorem rBest_t (b : Nat) (s : Lp) (hs : s.Ok) : Tri P F.crierref15_Lpis_Best [ptrV b] [rI b s] fun v L' => v = .agg (bestR s s.wt).cells.toArray ∧ L' = [rI b s] := by
  intro w S hS
  refine crierref15_Lpis_Best_cv ?_
  unfold crierref15_Lpis_Best
  have H := Own.start hS
  have hman := hs.man
  refine alc_o H fun b2 wx H => alc_o H fun b4 wx H => ?_
  refine loop_o (fun (st : Int) L => ∃ i : Nat, i ≤ s.wt.length ∧ st = i ∧ L = [row b4 (bestR s (s.wt.take i)).cells T.t43, row b2 [.int .i64 0, .int .i64 0, .int .i64 0, .bool false] T.t43, rI b s]) (fun (st : Int) => ((s.wt.length : Int) - st).toNat) H ⟨0, by omega, rfl, rfl⟩ ?_
  rintro _ _ wx ⟨i, hi, rfl, rfl⟩ H
  unfold crierref15_Lpis_Best_l3
  refine join_o ?_
  obtain ⟨p, c, q, c2, h, H⟩ := r_open H (b := b) (s := s) (by repeat (first | exact Pick.here | apply Pick.there))
  have hwl := h.wlen
  dsimp only [nn]
  have fin : s.wt.length ≤ i → ∀ wx, X.Own w S (row b (rCells s p c q c2) T.t90 :: own tByte 1 (.slice p s.cfg.length c) s.cfg.length (u8s s.cfg) :: ilN q c2 s.wt :: [row b4 (bestR s (s.wt.take i)).cells T.t43, row b2 [.int .i64 0, .int .i64 0, .int .i64 0, .bool false] T.t43]) wx →
      crierref15_Lpis_Best_j2 (some ⟨b, 0, none⟩) (fun v w' => ∃ L', (v = .agg (bestR s s.wt).cells.toArray ∧ L' = [rI b s]) ∧ X.Own w S L' w') b2 b4 (i : Int) (fun (s' : Int) w' => (∃ L', (∃ i : Nat, i ≤ s.wt.length ∧ s' = i ∧ L' = [row b4 (bestR s (s.wt.take i)).cells T.t43, row b2 [.int .i64 0, .int .i64 0, .int .i64 0, .bool false] T.t43, rI b s]) ∧ X.Own w S L' w') ∧ ((s.wt.length : Int) - s').toNat < ((s.wt.length : Int) - (i : Int)).toNat) false wx := by
    intro hl wx H
    unfold crierref15_Lpis_Best_j2
    refine cnd_i (fun h => by cases h) fun _ => ?_
    rw [List.take_of_length_le hl] at H
    unfold Can.cells at H
    repeat (first | refine ldI_o H (by repeat (first | exact Pick.here | apply Pick.there)) (by rfl) ?_ | refine ldL_o H (by repeat (first | exact Pick.here | apply Pick.there)) (by rfl) ?_ | refine ldB_o H (by repeat (first | exact Pick.here | apply Pick.there)) (by rfl) ?_ | refine ldP_o H (by repeat (first | exact Pick.here | apply Pick.there)) (by rfl) ?_ | refine ldS_o H (by repeat (first | exact Pick.here | apply Pick.there)) (by rfl) ?_)
    refine st1_o H (by repeat (first | exact Rep.here | apply Rep.there)) (by simp) fun wx H => ?_
    refine st1_o H (by repeat (first | exact Rep.here | apply Rep.there)) (by simp) fun wx H => ?_
    refine st1_o H (by repeat (first | exact Rep.here | apply Rep.there)) (by simp) fun wx H => ?_
    refine st1_o H (by repeat (first | exact Rep.here | apply Rep.there)) (by simp) fun wx H => ?_
    simp only [List.set_cons_zero, List.set_cons_succ] at H
    repeat (first | refine ldI_o H (by repeat (first | exact Pick.here | apply Pick.there)) (by rfl) ?_ | refine ldL_o H (by repeat (first | exact Pick.here | apply Pick.there)) (by rfl) ?_ | refine ldB_o H (by repeat (first | exact Pick.here | apply Pick.there)) (by rfl) ?_ | refine ldP_o H (by repeat (first | exact Pick.here | apply Pick.there)) (by rfl) ?_ | refine ldS_o H (by repeat (first | exact Pick.here | apply Pick.there)) (by rfl) ?_)
    exact ⟨_, ⟨rfl, rfl⟩, (r_shut H h).drop (L1 := [rI b s]) (by repeat (first | exact Cut.nil | (apply Cut.cons; (repeat (first | exact Pick.here | apply Pick.there)))))⟩
  refine ldL_o H (by repeat (first | exact Pick.here | apply Pick.there)) (by rfl) (cnd_i (fun hc => ?_) fun hc => ?_)
  · have hc := of_decide_eq_true hc
    have hil : i < s.wt.length := by omega
    have hon : s.on = true := by
      cases hon : s.on
      · rw [hs.off hon] at hil; simp at hil
      · rfl
    refine ldB_o H (by repeat (first | exact Pick.here | apply Pick.there)) (by rfl) ?_
    rw [hon]
    unfold crierref15_Lpis_Best_j2
    refine cnd_i (fun _ => join_o ?_) (fun h => by cases h)
    dsimp only [nn]
    repeat (first | refine ldI_o H (by repeat (first | exact Pick.here | apply Pick.there)) (by rfl) ?_ | refine ldL_o H (by repeat (first | exact Pick.here | apply Pick.there)) (by rfl) ?_ | refine ldB_o H (by repeat (first | exact Pick.here | apply Pick.there)) (by rfl) ?_ | refine ldP_o H (by repeat (first | exact Pick.here | apply Pick.there)) (by rfl) ?_ | refine ldS_o H (by repeat (first | exact Pick.here | apply Pick.there)) (by rfl) ?_)
    have hx : (natI s.wt)[i]? = some ((s.wt[i] : Nat) : Int) := by simp [natI, hil]
    refine rd_n H (by repeat (first | exact Pick.here | apply Pick.there)) (hx) ?_
    have hwlt := h.wlt _ (List.getElem_mem hil)
    have H := r_shut H h
    rw [W_id (n := 8192 + ((s.wt[i] : Nat) : Int)) (by omega) (by omega)]
    refine call_p H (rSetup_t b s (8192 + (s.wt[i] : Nat)) (by unfold I64; omega)) (by repeat (first | exact Cut.nil | (apply Cut.cons; (repeat (first | exact Pick.here | apply Pick.there))))) fun wx H => ?_
    refine ⟨_, _, rfl, join_o ?_⟩
    have hnext := bestR_next (s := s) hil
    unfold bstep at hnext
    generalize hc0 : bestR s (s.wt.take i) = c0 at *
    generalize hr0 : setupR s (8192 + (s.wt[i] : Nat)) = r0 at *
    have next : ∀ wx, X.Own w S [rI b s, row b4 (bestR s (s.wt.take (i + 1))).cells T.t43, row b2 [.int .i64 0, .int .i64 0, .int .i64 0, .bool false] T.t43] wx →
        crierref15_Lpis_Best_j0 (i : Int) (fun (s' : Int) w' => (∃ L', (∃ i : Nat, i ≤ s.wt.length ∧ s' = i ∧ L' = [row b4 (bestR s (s.wt.take i)).cells T.t43, row b2 [.int .i64 0, .int .i64 0, .int .i64 0, .bool false] T.t43, rI b s]) ∧ X.Own w S L' w') ∧ ((s.wt.length : Int) - s').toNat < ((s.wt.length : Int) - (i : Int)).toNat) wx := by
      intro wx H
      unfold crierref15_Lpis_Best_j0
      rw [W_id (by omega) (by omega)]
      exact ⟨⟨_, ⟨i + 1, by omega, by push_cast; rfl, rfl⟩, H.drop (by repeat (first | exact Cut.nil | (apply Cut.cons; (repeat (first | exact Pick.here | apply Pick.there)))))⟩, by omega⟩
    have H : X.Own w S [rI b s, row b4 c0.cells T.t43, row b2 [.int .i64 0, .int .i64 0, .int .i64 0, .bool false] T.t43] wx := H
    have turn : bestR s (s.wt.take (i + 1)) = ⟨8192 + (s.wt[i] : Nat), r0.2, 1, true⟩ → ∀ wx, X.Own w S [rI b s, row b4 c0.cells T.t43, row b2 [.int .i64 0, .int .i64 0, .int .i64 0, .bool false] T.t43] wx →
        crierref15_Lpis_Best_j1 b4 (fun s' w' => crierref15_Lpis_Best_j0 (i : Int) (fun (s' : Int) w' => (∃ L', (∃ i : Nat, i ≤ s.wt.length ∧ s' = i ∧ L' = [row b4 (bestR s (s.wt.take i)).cells T.t43, row b2 [.int .i64 0, .int .i64 0, .int .i64 0, .bool false] T.t43, rI b s]) ∧ X.Own w S L' w') ∧ ((s.wt.length : Int) - s').toNat < ((s.wt.length : Int) - (i : Int)).toNat) w') ((s.wt[i] : Nat) : Int) r0.2 true wx := by
      intro he wx H
      unfold crierref15_Lpis_Best_j1
      refine cnd_i (fun _ => ?_) (fun h => by cases h)
      rw [W_id (n := 8192 + ((s.wt[i] : Nat) : Int)) (by omega) (by omega)]
      unfold Can.cells at H
      refine st1_o H (by repeat (first | exact Rep.here | apply Rep.there)) (by simp) fun wx H => ?_
      refine st1_o H (by repeat (first | exact Rep.here | apply Rep.there)) (by simp) fun wx H => ?_
      refine st1_o H (by repeat (first | exact Rep.here | apply Rep.there)) (by simp) fun wx H => ?_
      refine st1_o H (by repeat (first | exact Rep.here | apply Rep.there)) (by simp) fun wx H => ?_
      simp only [List.set_cons_zero, List.set_cons_succ] at H
      refine next _ ?_
      rw [he]; exact H
    have stay : bestR s (s.wt.take (i + 1)) = c0 → ∀ wx, X.Own w S [rI b s, row b4 c0.cells T.t43, row b2 [.int .i64 0, .int .i64 0, .int .i64 0, .bool false] T.t43] wx →
        crierref15_Lpis_Best_j1 b4 (fun s' w' => crierref15_Lpis_Best_j0 (i : Int) (fun (s' : Int) w' => (∃ L', (∃ i : Nat, i ≤ s.wt.length ∧ s' = i ∧ L' = [row b4 (bestR s (s.wt.take i)).cells T.t43, row b2 [.int .i64 0, .int .i64 0, .int .i64 0, .bool false] T.t43, rI b s]) ∧ X.Own w S L' w') ∧ ((s.wt.length : Int) - s').toNat < ((s.wt.length : Int) - (i : Int)).toNat) w') ((s.wt[i] : Nat) : Int) r0.2 false wx := by
      intro he wx H
      unfold crierref15_Lpis_Best_j1
      refine cnd_i (fun h => by cases h) fun _ => next _ ?_
      rw [he]; exact H
    refine cnd_i (fun hin => ?_) fun hin => stay (by rw [hnext, hin]; rfl) _ H
    refine ldB_o H (i := 3) (cs := c0.cells) (t := T.t43) (b := b4) (by repeat (first | exact Pick.here | apply Pick.there)) (by rfl) ?_
    refine cnd_i (fun his => turn (by rw [hnext, hin, his]; rfl) _ H) fun his => ?_
    refine ldI_o H (i := 1) (cs := c0.cells) (t := T.t43) (b := b4) (by repeat (first | exact Pick.here | apply Pick.there)) (by rfl) ?_
    refine ldI_o H (i := 0) (cs := c0.cells) (t := T.t43) (b := b4) (by repeat (first | exact Pick.here | apply Pick.there)) (by rfl) ?_
    refine call_p H (rBefore_t r0.2 (8192 + (s.wt[i] : Nat)) c0.pri c0.id) .nil fun wx H => ?_
    refine ⟨_, rfl, ?_⟩
    rw [hin, his] at hnext
    simp only [Bool.true_and, Bool.false_or] at hnext
    cases hb : befB r0.2 (8192 + (s.wt[i] : Nat)) c0.pri c0.id
    · rw [hb] at hnext; exact stay hnext _ H
    · rw [hb] at hnext; exact turn hnext _ H
  · exact fin (by have := of_decide_eq_false hc; omega) _ H
theorem rWaiting_t (b m : Nat) (s : Lp) (bs : List Int) (hf : s.Fit bs.length) : Tri P F.crierref15_Lpis_Waiting [ptrV b, ptrV m] [rI b s, memI m bs]
    fun v L' => ∃ p c, v = .slice p (ids (waitL s bs)).length c ∧ L' = [own tInt 1 (.slice p (ids (waitL s bs)).length c) (ids (waitL s bs)).length (i64s (ids (waitL s bs))), rI b s, memI m bs] := by
  intro w S hS
  refine crierref15_Lpis_Waiting_cv ?_
  unfold crierref15_Lpis_Waiting
  have H := Own.start hS
  have h := r_ok H .here
  have hman := h.man
  have H := own_nil (e := tInt) (size := 1) H
  let wl : Nat → List Int := fun k => ids ((List.range k).filter fun k : Nat => hasM s bs (8192 + (k : Int)))
  have hwl : ∀ k, (wl k).length ≤ k := by
    intro k
    have := List.length_filter_le (fun k : Nat => hasM s bs (8192 + (k : Int))) (List.range k)
    rw [List.length_range] at this
    show (ids _).length ≤ k
    rw [ids_len]; exact this
  refine loop_o (fun (st : (Option Addr × Nat × Nat) × Int) L => ∃ (p : Option Addr) (c k : Nat), (k : Int) ≤ s.many ∧ st = ((p, (wl k).length, c), 8192 + (k : Int)) ∧ L = [own tInt 1 (.slice p (wl k).length c) (wl k).length (i64s (wl k)), rI b s, memI m bs]) (fun (st : (Option Addr × Nat × Nat) × Int) => (8192 + s.many - st.2).toNat) H
    ⟨none, 0, 0, by omega, rfl, rfl⟩ ?_
  rintro _ _ wx ⟨p, c, k, hk, rfl, rfl⟩ H
  unfold crierref15_Lpis_Waiting_l1
  obtain ⟨p0, c0, q0, c20, _, H⟩ := r_open H (b := b) (s := s) (by repeat (first | exact Pick.here | apply Pick.there))
  dsimp only [nn]
  have hw := hwl k
  refine ldI_o H (by repeat (first | exact Pick.here | apply Pick.there)) (by rfl) ?_
  rw [W_id (n := 8192 + s.many) (by omega) (by omega)]
  have H := r_shut H h
  have H := H.perm (L1 := [own tInt 1 (.slice p (wl k).length c) (wl k).length (i64s (wl k)), rI b s, memI m bs]) (by repeat (first | exact Cut.nil | (apply Cut.cons; (repeat (first | exact Pick.here | apply Pick.there)))))
  simp only [List.append_nil] at H
  refine cnd_i (fun hc => join_o ?_) fun hc => ?_
  · have hc := of_decide_eq_true hc
    refine call_p H (rHas_t b m s bs hf (8192 + k) (by unfold I64; omega)) (by repeat (first | exact Cut.nil | (apply Cut.cons; (repeat (first | exact Pick.here | apply Pick.there))))) fun wx H => ?_
    refine ⟨_, rfl, ?_⟩
    unfold crierref15_Lpis_Waiting_j0
    have hnext : wl (k + 1) = wl k ++ if hasM s bs (8192 + (k : Int)) then [8192 + (k : Int)] else [] := by
      show ids _ = ids _ ++ _
      rw [List.range_succ, List.filter_append]
      unfold ids
      rw [List.map_append]
      cases hh : hasM s bs (8192 + (k : Int)) <;> simp [hh]
    refine cnd_i (fun hb => ?_) fun hb => ?_
    · rw [if_pos hb] at hnext
      refine alc_o H fun b26 wx H => ?_
      refine app_n (m := 1) (b := b26) (ys := [8192 + (k : Int)]) (t := T.t3) H (by repeat (first | exact Pick.here | apply Pick.there)) .here rfl (by omega) fun p1 c1 wx H => ?_
      rw [← hnext] at H
      have e2 : (wl k).length + 1 = (wl (k + 1)).length := by rw [hnext]; simp
      rw [e2] at H ⊢
      rw [W_id (by omega) (by omega)]
      exact ⟨⟨_, ⟨p1, c1, k + 1, by omega, by push_cast; rw [show (8192 : Int) + ((k : Int) + 1) = 8192 + (k : Int) + 1 by omega], rfl⟩, H.drop (by repeat (first | exact Cut.nil | (apply Cut.cons; (repeat (first | exact Pick.here | apply Pick.there)))))⟩, by show (8192 + s.many - (8192 + (k : Int) + 1)).toNat < (8192 + s.many - (8192 + (k : Int))).toNat; omega⟩
    · rw [hb] at hnext
      simp only [Bool.false_eq_true, if_false, List.append_nil] at hnext
      rw [W_id (by omega) (by omega)]
      refine ⟨⟨_, ⟨p, c, k + 1, by omega, by rw [hnext]; push_cast; rw [show (8192 : Int) + ((k : Int) + 1) = 8192 + (k : Int) + 1 by omega], rfl⟩, ?_⟩, by show (8192 + s.many - (8192 + (k : Int) + 1)).toNat < (8192 + s.many - (8192 + (k : Int))).toNat; omega⟩
      rw [hnext]; exact H
  · have hc := of_decide_eq_false hc
    have : k = s.many.toNat := by omega
    subst this
    exact ⟨_, ⟨p, c, rfl, rfl⟩, H⟩
end Go.Proofs.YtgjddhpblpfneaaDoor
