/-
  lpi: whether both are alike; LpiDoes.
-/
import Derived.Test.YtgjddhpblpfneaaDoorL18
namespace Go.Proofs.YtgjddhpblpfneaaDoor
open Go Go.RowKit X
set_option maxRecDepth 100000
set_option linter.unusedVariables false
set_option linter.unusedSimpArgs false
set_option maxHeartbeats 2000000
theorem alike_l3_t {W : World} (hT : TabAt W) {w0 : World} {S0 : Nat → Prop} {wx : World} (pb lx ly m dx dy r : Nat) (cs : List Value) (k : Nat) (hk : k ≤ 1) (c0 : cs[0]? = some (ptrV m)) (c1 : cs[1]? = some (ptrV r)) (c2 : cs[2 + k]? = some (ptrV lx)) (c4 : cs[4 + k]? = some (ptrV dx))
    (S : LS) (h : LsOk S) (H : X.Own w0 S0 (row pb cs T.t51 :: (lsL lx ly m S ++ (rsL dx dy r S ++ [keep W]))) wx) {Q : Value → World → Prop} {A : Int → World → Prop}
    (hA : ∀ w', X.Own w0 S0 (row pb cs T.t51 :: (lsL lx ly m S ++ (rsL dx dy r S ++ [keep W]))) w' → A ((k : Int) + 1) w') :
    crierlaw15_alike_l3 (some ⟨pb, 0, none⟩) Q (k : Int) wx A := by
  unfold crierlaw15_alike_l3
  simp only [List.cons_append, List.nil_append] at H hA
  have a2 : Addr.add (Addr.add (⟨pb, 0, none⟩ : Addr) 2) (k * 1) = ⟨pb, 2 + k, none⟩ := by rw [add_lit, add_lit]; simp
  have a4 : Addr.add (Addr.add (⟨pb, 0, none⟩ : Addr) 4) (k * 1) = ⟨pb, 4 + k, none⟩ := by rw [add_lit, add_lit]; simp
  have hman := h.ok1.man
  have hf := h.fit.f
  have hwl := waitL_len S.1 S.2.2 h.ok1
  refine cnd_i (fun _ => ?_) fun hc => absurd (of_decide_eq_false hc) (by omega)
  refine drw_o H fun wx H => ?_
  dsimp only [nn]
  refine ix_i (show k < 2 by omega) ?_
  rw [a2]
  refine ldP_o H (b := pb) (cs := cs) (t := T.t51) (by repeat (first | exact Pick.here | apply Pick.there)) c2 (ix_i (show k < 2 by omega) ?_)
  rw [a4]
  refine ldP_o H (b := pb) (cs := cs) (t := T.t51) (by repeat (first | exact Pick.here | apply Pick.there)) c4 (join_o ?_)
  refine drw_o H fun wx H => ?_
  -- what the reference's record holds
  have rdB : ∀ {wx : World} {L F : List It} {K : Bool → Prop}, X.Own w0 S0 L wx → Pick L (rI dx S.1) F → K S.1.on → ldB (⟨dx, 1, none⟩ : Addr) wx K := by
    intro wx L F K H hp hK
    obtain ⟨p, c, q, c2, _, H⟩ := r_open H hp
    exact ldB_o H .here (by rfl) hK
  have rdI : ∀ {wx : World} {L F : List It} {K : Int → Prop}, X.Own w0 S0 L wx → Pick L (rI dx S.1) F → K S.1.many → ldI .i64 (⟨dx, 0, none⟩ : Addr) wx K := by
    intro wx L F K H hp hK
    obtain ⟨p, c, q, c2, _, H⟩ := r_open H hp
    exact ldI_o H .here (by rfl) hK
  refine rdB H (by repeat (first | exact Pick.here | apply Pick.there)) ?_
  refine call_p H (on_t lx S.1) (by repeat (first | exact Cut.nil | (apply Cut.cons; (repeat (first | exact Pick.here | apply Pick.there))))) fun wx H => ?_
  refine ⟨_, rfl, rdB H (by repeat (first | exact Pick.here | apply Pick.there)) rfl, cnd_i (fun hh => by simp at hh) fun _ => ?_⟩
  refine rdI H (by repeat (first | exact Pick.here | apply Pick.there)) ?_
  refine call_p H (many_t lx S.1) (by repeat (first | exact Cut.nil | (apply Cut.cons; (repeat (first | exact Pick.here | apply Pick.there))))) fun wx H => ?_
  refine ⟨_, rfl, rdI H (by repeat (first | exact Pick.here | apply Pick.there)) rfl, cnd_i (fun hh => by simp at hh) fun _ => ?_⟩
  refine call_p H (best_t hT lx S.1) (by repeat (first | exact Cut.nil | (apply Cut.cons; (repeat (first | exact Pick.here | apply Pick.there))))) fun wx H => ?_
  refine ⟨_, _, _, _, rfl, ?_⟩
  refine call_p H (rBest_t dx S.1 h.ok1) (by repeat (first | exact Cut.nil | (apply Cut.cons; (repeat (first | exact Pick.here | apply Pick.there))))) fun wx H => ?_
  refine ⟨_, _, _, _, rfl, can_ne (cnd_i (fun hh => by simp at hh) fun _ => ?_)⟩
  refine ldP_o H (b := pb) (cs := cs) (t := T.t51) (by repeat (first | exact Pick.here | apply Pick.there)) c0 ?_
  refine ldP_o H (i := 1) (b := pb) (cs := cs) (t := T.t51) (by repeat (first | exact Pick.here | apply Pick.there)) c1 ?_
  refine call_o H (waiting_t lx m) (by repeat (first | exact Cut.nil | (apply Cut.cons; (repeat (first | exact Pick.here | apply Pick.there))))) fun vx L' wx hq H => ?_
  obtain ⟨g3, g5, rfl, rfl⟩ := hq
  unfold waitE at H
  simp only [List.cons_append, List.nil_append] at H
  refine ⟨_, rfl, ldP_o H (i := 1) (b := pb) (cs := cs) (t := T.t51) (by repeat (first | exact Pick.here | apply Pick.there)) c1 rfl, ?_⟩
  refine call_o H (list_t g3 g5 lx m S.1 S.2.2 h.ok1 hf) (by repeat (first | exact Cut.nil | (apply Cut.cons; (repeat (first | exact Pick.here | apply Pick.there))))) fun vx L' wx hq H => ?_
  obtain ⟨p1, q1, rfl, rfl⟩ := hq
  simp only [List.cons_append, List.nil_append] at H
  refine ⟨_, _, _, rfl, ldP_o H (i := 1) (b := pb) (cs := cs) (t := T.t51) (by repeat (first | exact Pick.here | apply Pick.there)) c1 rfl, ?_⟩
  refine call_o H (rWaiting_t dx r S.1 S.2.2 hf) (by repeat (first | exact Cut.nil | (apply Cut.cons; (repeat (first | exact Pick.here | apply Pick.there))))) fun vx L' wx hq H => ?_
  obtain ⟨p2, q2, rfl, rfl⟩ := hq
  simp only [List.cons_append, List.nil_append] at H
  refine ⟨_, _, _, rfl, ?_⟩
  refine call_p H (refSame_t (n := 0) (idsI p1 q1 (waitL S.1 S.2.2)) (p := p1) (q := p2) (c := q1) (d := q2) (xs := ids (waitL S.1 S.2.2)) (ys := ids (waitL S.1 S.2.2)) own_sl (idsI p2 q2 (waitL S.1 S.2.2)) own_sl (by rw [ids_len]; omega)) (by repeat (first | exact Cut.nil | (apply Cut.cons; (repeat (first | exact Pick.here | apply Pick.there))))) fun wx H => ?_
  refine ⟨_, rfl, ?_⟩
  unfold crierlaw15_alike_j2
  refine cnd_i (fun hh => by simp at hh) fun _ => ?_
  let R : List It := row pb cs T.t51 :: (lsL lx ly m S ++ (rsL dx dy r S ++ [keep W]))
  refine loop_o (fun (st : Int) L => ∃ i : Nat, (i : Int) ≤ S.1.many + 2 ∧ st = 8191 + (i : Int) ∧ L = R) (fun (st : Int) => (8193 + S.1.many - st).toNat) (H.drop (by dsimp only [R]; simp only [List.cons_append, List.nil_append]; exact (by repeat (first | exact Cut.nil | (apply Cut.cons; (repeat (first | exact Pick.here | apply Pick.there))))))) ⟨0, by omega, rfl, rfl⟩ ?_
  rintro _ _ wx ⟨i, hi, rfl, rfl⟩ H
  dsimp only [R] at H
  simp only [List.cons_append, List.nil_append] at H
  unfold crierlaw15_alike_l1
  dsimp only [nn]
  refine rdI H (by repeat (first | exact Pick.here | apply Pick.there)) ?_
  rw [W_id (n := 8192 + S.1.many) (by omega) (by omega)]
  refine cnd_i (fun hc => ?_) fun hc => ?_
  · have hc := of_decide_eq_true hc
    have hid : I64 (8191 + (i : Int)) := by unfold I64; omega
    refine call_p H (setup_t lx S.1 (8191 + i) hid) (by repeat (first | exact Cut.nil | (apply Cut.cons; (repeat (first | exact Pick.here | apply Pick.there))))) fun wx H => ?_
    refine ⟨_, _, rfl, ?_⟩
    refine call_p H (rSetup_t dx S.1 (8191 + i) hid) (by repeat (first | exact Cut.nil | (apply Cut.cons; (repeat (first | exact Pick.here | apply Pick.there))))) fun wx H => ?_
    refine ⟨_, _, rfl, join_o ?_⟩
    refine drw_o H fun wx H => ?_
    refine cnd_i (fun hh => by simp at hh) fun _ => cnd_i (fun hh => by simp at hh) fun _ => ?_
    refine ldP_o H (b := pb) (cs := cs) (t := T.t51) (by repeat (first | exact Pick.here | apply Pick.there)) c0 ?_
    refine ldP_o H (i := 1) (b := pb) (cs := cs) (t := T.t51) (by repeat (first | exact Pick.here | apply Pick.there)) c1 ?_
    refine call_p H (hasP_t lx m S.1 S.2.2 hf (8191 + i) hid) (by repeat (first | exact Cut.nil | (apply Cut.cons; (repeat (first | exact Pick.here | apply Pick.there))))) fun wx H => ?_
    refine ⟨_, rfl, ldP_o H (i := 1) (b := pb) (cs := cs) (t := T.t51) (by repeat (first | exact Pick.here | apply Pick.there)) c1 rfl, ?_⟩
    refine call_p H (rHas_t dx r S.1 S.2.2 hf (8191 + i) hid) (by repeat (first | exact Cut.nil | (apply Cut.cons; (repeat (first | exact Pick.here | apply Pick.there))))) fun wx H => ?_
    refine ⟨_, rfl, ?_⟩
    unfold crierlaw15_alike_j0
    refine cnd_i (fun hh => by simp at hh) fun _ => ?_
    rw [W_id (by omega) (by omega)]
    exact ⟨⟨_, ⟨i + 1, by omega, by push_cast; omega, rfl⟩, H⟩, by omega⟩
  · rw [W_id (by omega) (by omega)]
    exact hA _ H
theorem alike_t {W : World} (hT : TabAt W) (pb : Nat) (p : Pr) (S : LS) (h : LsOk S) : Tri P F.crierlaw15_alike [ptrV pb] (prL pb p S W) fun v L' => v = .bool true ∧ L' = prL pb p S W := by
  intro w Sp hS
  refine crierlaw15_alike_cv ?_
  unfold crierlaw15_alike
  have H := Own.start hS
  refine loop_o (fun (st : Int) L => ∃ k : Nat, k ≤ 2 ∧ st = k ∧ L = prL pb p S W) (fun (st : Int) => (2 - st).toNat) H ⟨0, by omega, rfl, rfl⟩ ?_
  rintro _ _ wx ⟨k, hk, rfl, rfl⟩ H
  rcases (show k = 0 ∨ k = 1 ∨ k = 2 by omega) with rfl | rfl | rfl
  · refine alike_l3_t hT pb p.l0 p.l1 p.m p.d0 p.d1 p.r p.cells 0 (by omega) rfl rfl rfl rfl S h H fun w' H => ?_
    exact ⟨⟨_, ⟨1, by omega, rfl, rfl⟩, H⟩, by decide⟩
  · have H : X.Own w Sp (row pb p.cells T.t51 :: (lsL p.l1 p.l0 p.m (swapS S) ++ (rsL p.d1 p.d0 p.r (swapS S) ++ [keep W]))) wx := H.drop (by repeat (first | exact Cut.nil | (apply Cut.cons; (repeat (first | exact Pick.here | apply Pick.there)))))
    refine alike_l3_t hT pb p.l1 p.l0 p.m p.d1 p.d0 p.r p.cells 1 (by omega) rfl rfl rfl rfl (swapS S) (swap_ok h) H fun w' H => ?_
    exact ⟨⟨_, ⟨2, by omega, rfl, rfl⟩, H.drop (by repeat (first | exact Cut.nil | (apply Cut.cons; (repeat (first | exact Pick.here | apply Pick.there)))))⟩, by decide⟩
  · unfold crierlaw15_alike_l3
    refine cnd_i (fun h => by cases h) fun _ => ?_
    refine drw_o H fun wx H => ?_
    dsimp only [nn]
    refine ldP_o H (b := pb) (cs := p.cells) (t := T.t51) (by repeat (first | exact Pick.here | apply Pick.there)) (by rfl) ?_
    refine ldP_o H (i := 1) (b := pb) (cs := p.cells) (t := T.t51) (by repeat (first | exact Pick.here | apply Pick.there)) (by rfl) ?_
    refine call_p H (same_t p.m p.r S.2.2) (by repeat (first | exact Cut.nil | (apply Cut.cons; (repeat (first | exact Pick.here | apply Pick.there))))) fun wx H => ?_
    exact ⟨_, rfl, _, ⟨rfl, rfl⟩, H⟩
theorem lpiDoes_cv {W : World} (hT : TabAt W) {q : Option Addr} {c : Nat} {xs : List Int} (hq0 : Sl W q (u8s xs)) (hc : xs.length ≤ c) (hx : ∀ x ∈ xs, 0 ≤ x ∧ x < 256) {a b : Int} (ha : 0 ≤ a ∧ a ≤ 255) (hb : 0 ≤ b ∧ b ≤ 255)
    {q2 : Option Addr} {c2 : Nat} {ys : List Act15} (hq2 : Slots W q2 5 (ys.map Act15.cells)) (hy : ∀ y ∈ ys, y.Good) (hl : ys.length ≤ 9223372036854775807) :
    CV P F.crierlaw15_LpiDoes [.int .u8 a, .int .u8 b, .slice q xs.length c, .slice q2 ys.length c2] W fun r w' => r = .bool true ∧ Below W.heap.size W w' := by
  refine crierlaw15_LpiDoes_cv ?_
  unfold crierlaw15_LpiDoes
  have H := keep_start W
  refine call_o H (awake_t hT) (by repeat (first | exact Cut.nil | (apply Cut.cons; (repeat (first | exact Pick.here | apply Pick.there))))) fun vx L' wx hq H => ?_
  obtain ⟨rfl, rfl⟩ := hq
  simp only [List.cons_append, List.nil_append] at H
  refine ⟨_, rfl, cnd_i (fun h => by cases h) fun _ => ?_⟩
  refine call_o H (begun_t hq0 hc hx ha hb) (by repeat (first | exact Cut.nil | (apply Cut.cons; (repeat (first | exact Pick.here | apply Pick.there))))) fun vx L' wx hq H => ?_
  obtain ⟨p, rfl, rfl⟩ := hq
  simp only [List.cons_append, List.nil_append] at H
  refine ⟨_, _, _, _, _, _, _, rfl, alc_o H fun b21 wx H => ?_⟩
  refine st1_o H (by repeat (first | exact Rep.here | apply Rep.there)) (by simp) fun wx H => ?_
  refine st1_o H (by repeat (first | exact Rep.here | apply Rep.there)) (by simp) fun wx H => ?_
  refine st1_o H (by repeat (first | exact Rep.here | apply Rep.there)) (by simp) fun wx H => ?_
  refine st1_o H (by repeat (first | exact Rep.here | apply Rep.there)) (by simp) fun wx H => ?_
  refine st1_o H (by repeat (first | exact Rep.here | apply Rep.there)) (by simp) fun wx H => ?_
  refine st1_o H (by repeat (first | exact Rep.here | apply Rep.there)) (by simp) fun wx H => ?_
  refine st1_o H (by repeat (first | exact Rep.here | apply Rep.there)) (by simp) fun wx H => ?_
  simp only [List.set_cons_zero, List.set_cons_succ] at H
  have hS := begS_ok ha hb hx
  refine join_o (cnd_i (fun h => by cases h) fun _ => ?_)
  have H : X.Own W (fun k => k < W.heap.size) (prL b21 p (begS a b xs) W) wx := H
  generalize begS a b xs = S at *
  refine ldB_o (n := true) (i := 6) (cs := p.cells) (t := T.t51) (b := b21) H (by repeat (first | exact Pick.here | apply Pick.there)) (by rfl) (cnd_i (fun h => by cases h) fun _ => ?_)
  refine call_p H (alike_t hT b21 p S hS) (by repeat (first | exact Cut.nil | (apply Cut.cons; (repeat (first | exact Pick.here | apply Pick.there))))) fun wx H => ?_
  refine ⟨_, rfl, ?_⟩
  unfold crierlaw15_LpiDoes_j4
  refine cnd_i (fun h => by cases h) fun _ => ?_
  refine loop_o (fun (st : Int) L => ∃ (i : Nat) (p : Pr) (S : LS), i ≤ ys.length ∧ st = i ∧ LsOk S ∧ L = prL b21 p S W) (fun (st : Int) => ((ys.length : Int) - st).toNat) H ⟨0, p, S, by omega, rfl, hS, rfl⟩ ?_
  rintro _ _ wx ⟨i, p, S, hi, rfl, hS, rfl⟩ H
  unfold crierlaw15_LpiDoes_l3
  refine cnd_i (fun hcc => ?_) fun hcc => ⟨rfl, keep_done H (by repeat (first | exact Pick.here | apply Pick.there))⟩
  have hcc := of_decide_eq_true hcc
  have hil : i < ys.length := by omega
  have hk : ys[i]? = some ys[i] := List.getElem?_eq_getElem hil
  have hyg := hy _ (List.getElem_mem hil)
  generalize ys[i] = x at *
  refine ix_i hil ?_
  obtain ⟨a1, ha1, e0, e1, e2, e3, e4⟩ := act_at (Own.rdS H (i := keep W) (by repeat (first | exact Pick.here | apply Pick.there)) (keep_slots hq2)) hk
  subst ha1
  refine ⟨_, e0, _, e1, _, e2, _, e3, _, e4, alc_o H fun b44 wx H => ?_⟩
  refine st1_o H (by repeat (first | exact Rep.here | apply Rep.there)) (by simp) fun wx H => ?_
  refine st1_o H (by repeat (first | exact Rep.here | apply Rep.there)) (by simp) fun wx H => ?_
  refine st1_o H (by repeat (first | exact Rep.here | apply Rep.there)) (by simp) fun wx H => ?_
  refine st1_o H (by repeat (first | exact Rep.here | apply Rep.there)) (by simp) fun wx H => ?_
  refine st1_o H (by repeat (first | exact Rep.here | apply Rep.there)) (by simp) fun wx H => ?_
  simp only [List.set_cons_zero, List.set_cons_succ] at H
  -- behind a copy, if there is one
  have go : ∀ (p : Pr) wx, X.Own W (fun k => k < W.heap.size) (row b44 x.cells T.t70 :: prL b21 p S W) wx →
      crierlaw15_LpiDoes_j1 (fun r w' => r = .bool true ∧ Below W.heap.size W w') b21 (i : Int) (fun (s' : Int) w' => (∃ L', (∃ (i : Nat) (p : Pr) (S : LS), i ≤ ys.length ∧ s' = i ∧ LsOk S ∧ L' = prL b21 p S W) ∧ X.Own W (fun k => k < W.heap.size) L' w') ∧ ((ys.length : Int) - s').toNat < ((ys.length : Int) - (i : Int)).toNat) b44 wx := by
    intro p wx H
    unfold crierlaw15_LpiDoes_j1
    refine join_o ?_
    refine drw_o H fun wx H => ?_
    unfold Act15.cells at H
    refine ldI_o (b := b44) (i := 0) H .here (by rfl) (ldI_o (b := b44) (i := 1) H .here (by rfl) (ldB_o (b := b44) (i := 2) H .here (by rfl) (ldB_o (b := b44) (i := 3) H .here (by rfl) (ldI_o (b := b44) (i := 4) H .here (by rfl) ?_))))
    refine call_o H (does_t hT b21 p S hS x hyg) (by repeat (first | exact Cut.nil | (apply Cut.cons; (repeat (first | exact Pick.here | apply Pick.there))))) fun vx L' wx hq H => ?_
    obtain ⟨rfl, rfl⟩ := hq
    simp only [List.cons_append, List.nil_append] at H
    have hS' := (stepS_ok hS x).1
    generalize stepS S x = S' at *
    refine ⟨_, rfl, cnd_i (fun h => by cases h) fun _ => ?_⟩
    refine call_p H (alike_t hT b21 p S' hS') (by repeat (first | exact Cut.nil | (apply Cut.cons; (repeat (first | exact Pick.here | apply Pick.there))))) fun wx H => ?_
    refine ⟨_, rfl, cnd_i (fun h => by cases h) fun _ => ?_⟩
    refine ix_i (i := 0) (by omega) ?_
    refine ldP_o (b := b21) (i := 2) (cs := p.cells) H (by repeat (first | exact Pick.here | apply Pick.there)) (by rfl) ?_
    refine ldP_o (b := b21) (i := 0) (cs := p.cells) H (by repeat (first | exact Pick.here | apply Pick.there)) (by rfl) ?_
    refine ldI_o (b := b44) (i := 1) H (by repeat (first | exact Pick.here | apply Pick.there)) (by rfl) ?_
    refine ix_i (i := 0) (by omega) ?_
    refine ldP_o (b := b21) (i := 4) (cs := p.cells) H (by repeat (first | exact Pick.here | apply Pick.there)) (by rfl) ?_
    refine ldP_o (b := b21) (i := 1) (cs := p.cells) H (by repeat (first | exact Pick.here | apply Pick.there)) (by rfl) ?_
    refine ldI_o (b := b44) (i := 1) H (by repeat (first | exact Pick.here | apply Pick.there)) (by rfl) ?_
    refine call_p H (hasP_t p.l0 p.m S'.1 S'.2.2 hS'.fit.f x.id hyg.1) (by repeat (first | exact Cut.nil | (apply Cut.cons; (repeat (first | exact Pick.here | apply Pick.there))))) fun wx H => ?_
    refine ⟨_, rfl, ldI_o (b := b44) (i := 1) H (by repeat (first | exact Pick.here | apply Pick.there)) (by rfl) rfl, ldP_o (b := b21) (i := 1) (cs := p.cells) H (by repeat (first | exact Pick.here | apply Pick.there)) (by rfl) rfl, ldP_o (b := b21) (i := 4) (cs := p.cells) H (by repeat (first | exact Pick.here | apply Pick.there)) (by rfl) rfl, ?_⟩
    refine call_p H (rHas_t p.d0 p.r S'.1 S'.2.2 hS'.fit.f x.id hyg.1) (by repeat (first | exact Cut.nil | (apply Cut.cons; (repeat (first | exact Pick.here | apply Pick.there))))) fun wx H => ?_
    refine ⟨_, rfl, ?_⟩
    rw [beq_self_eq_true]
    unfold crierlaw15_LpiDoes_j0
    refine cnd_i (fun h => by cases h) fun _ => ?_
    rw [W_id (by omega) (by omega)]
    exact ⟨⟨_, ⟨i + 1, p, S', by omega, by push_cast; rfl, hS', rfl⟩, H.drop (by repeat (first | exact Cut.nil | (apply Cut.cons; (repeat (first | exact Pick.here | apply Pick.there)))))⟩, by omega⟩
  refine join_o ?_
  refine ldI_o (b := b44) (i := 0) H .here (by rfl) (cnd_i (fun _ => ?_) fun _ => go p _ H)
  refine drw_o H fun wx H => ?_
  refine ix_i (i := 0) (by omega) ?_
  refine ldP_o (b := b21) (i := 2) (cs := p.cells) H (by repeat (first | exact Pick.here | apply Pick.there)) (by rfl) ?_
  refine ldP_o (b := b21) (i := 0) (cs := p.cells) H (by repeat (first | exact Pick.here | apply Pick.there)) (by rfl) ?_
  refine call_o H (copyP_t p.l0 S.1) (by repeat (first | exact Cut.nil | (apply Cut.cons; (repeat (first | exact Pick.here | apply Pick.there))))) fun vx L' wx hq H => ?_
  obtain ⟨l', rfl, rfl⟩ := hq
  simp only [List.cons_append, List.nil_append] at H
  refine ⟨_, rfl, ldP_o (b := b21) (i := 0) (cs := p.cells) H (by repeat (first | exact Pick.here | apply Pick.there)) (by rfl) rfl, ?_⟩
  refine call_o H (copy_t p.m S.2.2) (by repeat (first | exact Cut.nil | (apply Cut.cons; (repeat (first | exact Pick.here | apply Pick.there))))) fun vx L' wx hq H => ?_
  obtain ⟨m', rfl, rfl⟩ := hq
  simp only [List.cons_append, List.nil_append] at H
  refine ⟨_, rfl, join_o (cnd_i (fun h => by cases h) fun _ => ?_)⟩
  unfold crierlaw15_LpiDoes_j2
  refine cnd_i (fun h => by cases h) fun _ => ?_
  have hf := hS.fit.f
  refine ix_i (i := 0) (by omega) ?_
  refine ldP_o (b := b21) (i := 2) (cs := p.cells) H (by repeat (first | exact Pick.here | apply Pick.there)) (by rfl) ?_
  refine ldP_o (b := b21) (i := 0) (cs := p.cells) H (by repeat (first | exact Pick.here | apply Pick.there)) (by rfl) ?_
  refine ldB_o (b := b44) (i := 2) H (by repeat (first | exact Pick.here | apply Pick.there)) (by rfl) ?_
  refine call_o H (set_t p.l0 p.m S.1 S.2.2 hf 8192 (by unfold I64; omega) x.is) (by repeat (first | exact Cut.nil | (apply Cut.cons; (repeat (first | exact Pick.here | apply Pick.there))))) fun vx L' wx hq H => ?_
  obtain ⟨rfl, rfl⟩ := hq
  simp only [List.cons_append, List.nil_append] at H
  have hf2 : (setMs S.1 8192 x.is).Fit (setMb S.1 S.2.2 8192 x.is).length := by rw [setMb_len]; exact setMs_fit hf _ _
  generalize setMs S.1 8192 x.is = s2 at *
  generalize setMb S.1 S.2.2 8192 x.is = v2 at *
  refine ⟨_, _, rfl, ?_⟩
  refine ix_i (i := 0) (by omega) ?_
  refine ldP_o (b := b21) (i := 2) (cs := p.cells) H (by repeat (first | exact Pick.here | apply Pick.there)) (by rfl) ?_
  refine ldP_o (b := b21) (i := 0) (cs := p.cells) H (by repeat (first | exact Pick.here | apply Pick.there)) (by rfl) ?_
  refine call_o H (disable_t hT p.l0 p.m s2 v2 hf2) (by repeat (first | exact Cut.nil | (apply Cut.cons; (repeat (first | exact Pick.here | apply Pick.there))))) fun vx L' wx hq H => ?_
  obtain ⟨rfl, rfl⟩ := hq
  simp only [List.cons_append, List.nil_append] at H
  refine ⟨rfl, ?_⟩
  refine ix_i (i := 0) (by omega) ?_
  refine ldP_o (b := b21) (i := 2) (cs := p.cells) H (by repeat (first | exact Pick.here | apply Pick.there)) (by rfl) ?_
  refine ldP_o (b := b21) (i := 0) (cs := p.cells) H (by repeat (first | exact Pick.here | apply Pick.there)) (by rfl) ?_
  refine call_o H (invAll_t p.l0 p.m (diM s2) (diB v2 s2.qa s2.wt) (by rw [diB_len]; exact fit_of hf2 rfl rfl rfl rfl rfl)) (by repeat (first | exact Cut.nil | (apply Cut.cons; (repeat (first | exact Pick.here | apply Pick.there))))) fun vx L' wx hq H => ?_
  obtain ⟨rfl, rfl⟩ := hq
  simp only [List.cons_append, List.nil_append] at H
  refine ⟨rfl, ?_⟩
  refine ix_i (i := 0) (by omega) ?_
  refine st1_o (b := b21) (i := 2) (cs := p.cells) (t := T.t51) (v := ptrV l') H (by repeat (first | exact Rep.here | apply Rep.there)) (by simp [Pr.cells]) fun wx H => ?_
  refine st1_o (b := b21) (i := 0) (cs := p.cells.set 2 (ptrV l')) (t := T.t51) (v := ptrV m') H (by repeat (first | exact Rep.here | apply Rep.there)) (by simp [Pr.cells]) fun wx H => ?_
  refine go ⟨m', p.r, l', p.l1, p.d0, p.d1⟩ _ ?_
  have e : (p.cells.set 2 (ptrV l')).set 0 (ptrV m') = (⟨m', p.r, l', p.l1, p.d0, p.d1⟩ : Pr).cells := rfl
  rw [e] at H
  exact H.drop (by repeat (first | exact Cut.nil | (apply Cut.cons; (repeat (first | exact Pick.here | apply Pick.there)))))
end Go.Proofs.YtgjddhpblpfneaaDoor
