/-
  lpi: let in, and not.
-/
import Derived.Test.YtgjddhpblpfneaaDoorL2
import Derived.Test.YtgjddhpblpfneaaDoorA8
namespace Go.Proofs.YtgjddhpblpfneaaDoor
open Go Go.RowKit X
set_option maxRecDepth 100000
set_option linter.unusedVariables false
set_option linter.unusedSimpArgs false
set_option maxHeartbeats 1000000
def enB (bs : List Int) (q : Int) : Nat → List Int
  | 0 => bs
  | i + 1 => if bitM (enB bs q i) q i then stoM (enB bs q i) q i false else enB bs q i
def enW (bs : List Int) (q : Int) : Nat → List Nat
  | 0 => []
  | i + 1 => if bitM (enB bs q i) q i then putL (enW bs q i) (i : Int) else enW bs q i
theorem enB_len (bs : List Int) (q : Int) : ∀ i, (enB bs q i).length = bs.length
  | 0 => rfl
  | i + 1 => by
    unfold enB
    split
    · rw [stoM_len]; exact enB_len bs q i
    · exact enB_len bs q i
theorem enW_up (bs : List Int) (q : Int) : ∀ i, Up (enW bs q i)
  | 0 => List.Pairwise.nil
  | i + 1 => by
    unfold enW
    split
    · exact putL_up (enW_up bs q i)
    · exact enW_up bs q i
theorem enW_lt (bs : List Int) (q : Int) : ∀ i, ∀ x ∈ enW bs q i, x < i
  | 0, x, h => by cases h
  | i + 1, x, h => by
    unfold enW at h
    split at h
    · rcases mem_putL.1 h with h | ⟨_, h⟩
      · have := enW_lt bs q i x h; omega
      · omega
    · have := enW_lt bs q i x h; omega
def enS (s : Lp) (bs : List Int) (i : Nat) : Lp := { s with on := true, wt := enW bs s.qa i }
theorem enS_ok {s : Lp} (h : s.Ok) (bs : List Int) {i : Nat} (hi : (i : Int) ≤ s.many) : (enS s bs i).Ok :=
  ⟨h.man, h.len, h.byt, enW_up _ _ _, fun x hx => by have := enW_lt bs s.qa i x hx; show (x : Int) < s.many; omega, fun h => by cases h⟩
def enM (s : Lp) (bs : List Int) : Lp × List Int := if s.on then (s, bs) else (allM (enS s bs s.many.toNat) (enB bs s.qa s.many.toNat), enB bs s.qa s.many.toNat)
theorem fit_of {s t : Lp} {n : Nat} (h : s.Fit n) (h1 : t.many = s.many) (h2 : t.pa = s.pa) (h3 : t.ps = s.ps) (h4 : t.qa = s.qa) (h5 : t.qs = s.qs) : t.Fit n :=
  ⟨by rw [h2, h3]; exact h.hp, by rw [h4, h5]; exact h.hq, by rw [h1, h3]; exact h.mp, by rw [h1, h5]; exact h.mq⟩
theorem enable_t (b m : Nat) (s : Lp) (bs : List Int) (hf : s.Fit bs.length) : Tri P F.lpi_Lpis_Enable [ptrV b, ptrV m] [lpI b s, memI m bs] fun v L' => v = .tuple [].toArray ∧ L' = [lpI b (enM s bs).1, memI m (enM s bs).2] := by
  intro w S hS
  refine lpi_Lpis_Enable_cv ?_
  unfold lpi_Lpis_Enable enM
  have H := Own.start hS
  obtain ⟨p, c, sb, h, H⟩ := lp_open H .here
  dsimp only [nn]
  refine ldB_o H (by repeat (first | exact Pick.here | apply Pick.there)) (by rfl) (cnd_i (fun hon => ?_) fun hon => ?_)
  · rw [if_pos hon]
    exact ⟨_, ⟨rfl, rfl⟩, lp_shut H h⟩
  · rw [if_neg (by rw [hon]; decide)]
    have hw := h.off hon
    refine st1_o H (by repeat (first | exact Rep.here | apply Rep.there)) (by simp) fun wx H => ?_
    repeat (first | refine ldI_o H (by repeat (first | exact Pick.here | apply Pick.there)) (by rfl) ?_ | refine ldL_o H (by repeat (first | exact Pick.here | apply Pick.there)) (by rfl) ?_ | refine ldB_o H (by repeat (first | exact Pick.here | apply Pick.there)) (by rfl) ?_ | refine ldP_o H (by repeat (first | exact Pick.here | apply Pick.there)) (by rfl) ?_ | refine ldS_o H (by repeat (first | exact Pick.here | apply Pick.there)) (by rfl) ?_)
    have H := lp_shut (p := p) (c := c) (sb := sb) (s := enS s bs 0) (F := [memI m bs]) (H.drop (L1 := [row b (lpCells (enS s bs 0) p c sb) T.t88, own tByte 1 (.slice p s.cfg.length c) s.cfg.length (u8s s.cfg), setI sb [], memI m bs]) (by rw [hw]; exact (by repeat (first | exact Cut.nil | (apply Cut.cons; (repeat (first | exact Pick.here | apply Pick.there))))))) (enS_ok h bs (by have := h.man; omega))
    have hman := h.man
    refine loop_o (fun (st : Int) L => ∃ i : Nat, (i : Int) ≤ s.many ∧ st = i ∧ L = [lpI b (enS s bs i), memI m (enB bs s.qa i)]) (fun (st : Int) => (s.many - st).toNat) H ⟨0, by omega, rfl, rfl⟩ ?_
    rintro _ _ wx ⟨i, hi, rfl, rfl⟩ H
    unfold lpi_Lpis_Enable_l1
    have hle := enB_len bs s.qa i
    have hfi : (enS s bs i).Fit (enB bs s.qa i).length := by rw [hle]; exact fit_of hf rfl rfl rfl rfl rfl
    refine cnd_i (fun hc => join_o ?_) fun hc => ?_
    · have hc := of_decide_eq_true hc
      refine call_p H (stored_t b m (enS s bs i) (enB bs s.qa i) hfi (k := i) hc) (by repeat (first | exact Cut.nil | (apply Cut.cons; (repeat (first | exact Pick.here | apply Pick.there))))) fun wx H => ?_
      refine ⟨_, rfl, ?_⟩
      unfold lpi_Lpis_Enable_j0
      rw [W_id (by omega) (by omega)]
      refine cnd_i (fun hb => ?_) fun hb => ?_
      · have hb : bitM (enB bs s.qa i) s.qa i = true := hb
        have e1 : enB bs s.qa (i + 1) = stoM (enB bs s.qa i) s.qa i false := by rw [enB, if_pos hb]
        have e2 : enW bs s.qa (i + 1) = putL (enW bs s.qa i) (i : Int) := by rw [enW, if_pos hb]
        obtain ⟨p, c, sb, h2, H⟩ := lp_open H .here
        dsimp only [nn]
        repeat (first | refine ldI_o H (by repeat (first | exact Pick.here | apply Pick.there)) (by rfl) ?_ | refine ldL_o H (by repeat (first | exact Pick.here | apply Pick.there)) (by rfl) ?_ | refine ldB_o H (by repeat (first | exact Pick.here | apply Pick.there)) (by rfl) ?_ | refine ldP_o H (by repeat (first | exact Pick.here | apply Pick.there)) (by rfl) ?_ | refine ldS_o H (by repeat (first | exact Pick.here | apply Pick.there)) (by rfl) ?_)
        refine call_o H (putS_t sb (enS s bs i).wt i) (by repeat (first | exact Cut.nil | (apply Cut.cons; (repeat (first | exact Pick.here | apply Pick.there))))) fun vx L' wx hq H => ?_
        obtain ⟨rfl, rfl⟩ := hq
        rw [putL_has' (enS s bs i).wt h2.up] at H
        simp only [List.cons_append, List.nil_append] at H
        refine ⟨_, rfl, ?_⟩
        have H := lp_shut (p := p) (c := c) (sb := sb) (s := enS s bs (i + 1)) (F := [memI m (enB bs s.qa i)]) (H.drop (L1 := [row b (lpCells (enS s bs (i + 1)) p c sb) T.t88, own tByte 1 (.slice p s.cfg.length c) s.cfg.length (u8s s.cfg), setI sb (enW bs s.qa (i + 1)), memI m (enB bs s.qa i)]) (by rw [e2]; exact (by repeat (first | exact Cut.nil | (apply Cut.cons; (repeat (first | exact Pick.here | apply Pick.there))))))) (enS_ok h bs (by omega))
        refine call_o H (store_t b m (enS s bs (i + 1)) (enB bs s.qa i) (by rw [hle]; exact fit_of hf rfl rfl rfl rfl rfl) (k := i) hc false) (by repeat (first | exact Cut.nil | (apply Cut.cons; (repeat (first | exact Pick.here | apply Pick.there))))) fun vx L' wx hq H => ?_
        obtain ⟨rfl, rfl⟩ := hq
        simp only [List.cons_append, List.nil_append] at H
        refine ⟨rfl, ⟨_, ⟨i + 1, by omega, by push_cast; rfl, rfl⟩, ?_⟩, by omega⟩
        rw [e1]; exact H
      · have hb : ¬ bitM (enB bs s.qa i) s.qa i = true := by rw [show bitM (enB bs s.qa i) s.qa i = false from hb]; decide
        have e1 : enB bs s.qa (i + 1) = enB bs s.qa i := by rw [enB, if_neg hb]
        have e2 : enW bs s.qa (i + 1) = enW bs s.qa i := by rw [enW, if_neg hb]
        refine ⟨⟨_, ⟨i + 1, by omega, by push_cast; rfl, rfl⟩, ?_⟩, by omega⟩
        unfold enS
        rw [e1, e2]; exact H
    · have hc := of_decide_eq_false hc
      have : i = s.many.toNat := by omega
      subst this
      refine call_o H (invAll_t b m (enS s bs s.many.toNat) (enB bs s.qa s.many.toNat) hfi) (by repeat (first | exact Cut.nil | (apply Cut.cons; (repeat (first | exact Pick.here | apply Pick.there))))) fun vx L' wx hq H => ?_
      obtain ⟨rfl, rfl⟩ := hq
      simp only [List.cons_append, List.nil_append] at H
      exact ⟨rfl, _, ⟨rfl, rfl⟩, H⟩
theorem enM_ok {s : Lp} (h : s.Ok) {bs : List Int} (hr : ∀ x ∈ bs, 0 ≤ x ∧ x < 256) : (enM s bs).1.Ok ∧ (∀ x ∈ (enM s bs).2, 0 ≤ x ∧ x < 256) := by
  have hrb : ∀ i, ∀ x ∈ enB bs s.qa i, 0 ≤ x ∧ x < 256 := by
    intro i
    induction i with
    | zero => exact hr
    | succ i ih =>
      unfold enB
      split
      · exact stoM_range ih _ _ _
      · exact ih
  unfold enM
  split
  · exact ⟨h, hr⟩
  · exact ⟨allM_ok (enS_ok h bs (by have := h.man; omega)) (hrb _), hrb _⟩
theorem enM_fit {s : Lp} {n : Nat} (h : s.Fit n) (bs : List Int) : (enM s bs).1.Fit n := by
  unfold enM
  split
  · exact h
  · exact fit_of h rfl rfl rfl rfl rfl
theorem enM_len (s : Lp) (bs : List Int) : (enM s bs).2.length = bs.length := by
  unfold enM
  split
  · rfl
  · exact enB_len _ _ _
/-! ### Not let in -/
def diB (bs : List Int) (q : Int) (l : List Nat) : List Int := l.foldl (fun b k => stoM b q k true) bs
theorem diB_len (q : Int) : ∀ (l : List Nat) (bs : List Int), (diB bs q l).length = bs.length
  | [], bs => rfl
  | k :: r, bs => by
    show (diB (stoM bs q k true) q r).length = _
    rw [diB_len q r, stoM_len]
theorem diB_range (q : Int) : ∀ (l : List Nat) (bs : List Int), (∀ x ∈ bs, 0 ≤ x ∧ x < 256) → ∀ x ∈ diB bs q l, 0 ≤ x ∧ x < 256
  | [], bs, h => h
  | k :: r, bs, h => diB_range q r _ (stoM_range h _ _ _)
theorem diB_snoc {bs : List Int} {q : Int} {l : List Nat} {k : Nat} (h : k < l.length) : stoM (diB bs q (l.take k)) q l[k] true = diB bs q (l.take (k + 1)) := by
  rw [List.take_succ_eq_append_getElem h]
  unfold diB
  rw [List.foldl_append]; rfl
def diM (s : Lp) : Lp := { s with on := false, wt := [] }
theorem diM_ok {s : Lp} (h : s.Ok) : (diM s).Ok := ⟨h.man, h.len, h.byt, List.Pairwise.nil, fun x hx => by (cases hx), fun _ => rfl⟩
theorem drop_ok {s : Lp} (h : s.Ok) (k : Nat) : ({ s with wt := s.wt.drop k } : Lp).Ok :=
  ⟨h.man, h.len, h.byt, h.up.sublist (List.drop_sublist _ _), fun x hx => h.wlt x (List.mem_of_mem_drop hx), fun ho => by show s.wt.drop k = []; rw [h.off ho]; simp⟩
theorem take_drop {l : List Nat} (hl : Up l) {k : Nat} (h : k < l.length) : takeL (l.drop k) (l[k] : Nat) = l.drop (k + 1) := by
  have h1 := hl.sublist (List.drop_sublist k l)
  rw [List.drop_eq_getElem_cons h] at h1 ⊢
  obtain ⟨h2, h3⟩ := List.pairwise_cons.1 h1
  unfold takeL
  rw [List.filter_cons, if_neg (by simp), List.filter_eq_self]
  intro x hx
  have := h2 x hx
  simp; omega
theorem disable_t {W : World} (hT : TabAt W) (b m : Nat) (s : Lp) (bs : List Int) (hf : s.Fit bs.length) : Tri P F.lpi_Lpis_Disable [ptrV b, ptrV m] [lpI b s, memI m bs, keep W] fun v L' => v = .tuple [].toArray ∧ L' = [lpI b (diM s), memI m (diB bs s.qa s.wt), keep W] := by
  intro w S hS
  refine lpi_Lpis_Disable_cv ?_
  unfold lpi_Lpis_Disable
  have H := Own.start hS
  refine alc_o H fun b3 wx H => alc_o H fun b5 wx H => ?_
  repeat (first | refine ldI_o H (by repeat (first | exact Pick.here | apply Pick.there)) (by rfl) ?_ | refine ldL_o H (by repeat (first | exact Pick.here | apply Pick.there)) (by rfl) ?_ | refine ldB_o H (by repeat (first | exact Pick.here | apply Pick.there)) (by rfl) ?_ | refine ldP_o H (by repeat (first | exact Pick.here | apply Pick.there)) (by rfl) ?_ | refine ldS_o H (by repeat (first | exact Pick.here | apply Pick.there)) (by rfl) ?_)
  dsimp only [nn]
  obtain ⟨p, c, sb, h, H⟩ := lp_open H (b := b) (s := s) (by repeat (first | exact Pick.here | apply Pick.there))
  repeat (first | refine ldI_o H (by repeat (first | exact Pick.here | apply Pick.there)) (by rfl) ?_ | refine ldL_o H (by repeat (first | exact Pick.here | apply Pick.there)) (by rfl) ?_ | refine ldB_o H (by repeat (first | exact Pick.here | apply Pick.there)) (by rfl) ?_ | refine ldP_o H (by repeat (first | exact Pick.here | apply Pick.there)) (by rfl) ?_ | refine ldS_o H (by repeat (first | exact Pick.here | apply Pick.there)) (by rfl) ?_)
  refine call_o H (all_t sb s.wt) (by repeat (first | exact Cut.nil | (apply Cut.cons; (repeat (first | exact Pick.here | apply Pick.there))))) fun vx L' wx hq H => ?_
  obtain ⟨g1, g2, ws, p2, c2, t, t2, e1, h2, h3, rfl, rfl⟩ := hq
  simp only [List.cons_append, List.nil_append] at H
  have H := H.perm (L1 := [row b (lpCells s p c sb) T.t88, own tByte 1 (.slice p s.cfg.length c) s.cfg.length (u8s s.cfg), setI sb s.wt]) (by unfold fromE; simp only [List.cons_append, List.nil_append]; exact (by repeat (first | exact Cut.nil | (apply Cut.cons; (repeat (first | exact Pick.here | apply Pick.there))))))
  have H := lp_shut H h
  refine ⟨_, rfl, ?_⟩
  let rows : Nat → List It := fun k => [lpI b { s with wt := s.wt.drop k }, memI m (diB bs s.qa (s.wt.take k)), row b5 [ptrV m] T.t25, row b3 [ptrV b] T.t29]
  have H : X.Own w S (rows 0 ++ (fromE g1 g2 ws p2 c2 0 t t2 ++ [keep W])) wx := H.drop (by dsimp only [rows]; unfold fromE; simp only [List.cons_append, List.nil_append]; exact (by repeat (first | exact Cut.nil | (apply Cut.cons; (repeat (first | exact Pick.here | apply Pick.there))))))
  have hen : enters P F.sets_Set_int_From_1 = true := by kernel_rfl
  have hit := from_it hT (g1 := g1) (g2 := g2) (ws := ws) (p := p2) (c := c2) (m := 0) (t := t) (t2 := t2) h2 h3
  rw [e1, loL_zero] at hit
  have hman := h.man
  refine rf_o (fun k Li => Li = rows k) (fun _ _ => False) hen hit (i1s_len _) H rfl ?_ ?_ ?_
  · rintro k x _ F l r d wx Q2 hx rfl H hgo hdone
    obtain ⟨hk, rfl⟩ := i1s_get hx
    have hwlt := h.wlt _ (List.getElem_mem hk)
    unfold lpi_Lpis_Disable_r0
    dsimp only [X.b1]
    dsimp only [rows] at H
    simp only [List.cons_append, List.nil_append] at H
    refine ⟨_, rfl, rec_o H .here fun wx H => ?_⟩
    repeat (first | refine ldI_o H (by repeat (first | exact Pick.here | apply Pick.there)) (by rfl) ?_ | refine ldL_o H (by repeat (first | exact Pick.here | apply Pick.there)) (by rfl) ?_ | refine ldB_o H (by repeat (first | exact Pick.here | apply Pick.there)) (by rfl) ?_ | refine ldP_o H (by repeat (first | exact Pick.here | apply Pick.there)) (by rfl) ?_ | refine ldS_o H (by repeat (first | exact Pick.here | apply Pick.there)) (by rfl) ?_)
    dsimp only [nn]
    obtain ⟨p, c, sb, h', H⟩ := lp_open H (b := b) (by repeat (first | exact Pick.here | apply Pick.there))
    repeat (first | refine ldI_o H (by repeat (first | exact Pick.here | apply Pick.there)) (by rfl) ?_ | refine ldL_o H (by repeat (first | exact Pick.here | apply Pick.there)) (by rfl) ?_ | refine ldB_o H (by repeat (first | exact Pick.here | apply Pick.there)) (by rfl) ?_ | refine ldP_o H (by repeat (first | exact Pick.here | apply Pick.there)) (by rfl) ?_ | refine ldS_o H (by repeat (first | exact Pick.here | apply Pick.there)) (by rfl) ?_)
    refine call_o H (takeS_t sb (s.wt.drop k) (s.wt[k] : Nat)) (by repeat (first | exact Cut.nil | (apply Cut.cons; (repeat (first | exact Pick.here | apply Pick.there))))) fun vx L' wx hq H => ?_
    obtain ⟨rfl, rfl⟩ := hq
    rw [take_drop h.up hk] at H
    simp only [List.cons_append, List.nil_append] at H
    have H := lp_shut (s := { s with wt := s.wt.drop (k + 1) }) (p := p) (c := c) (sb := sb) (H.perm (L1 := [row b (lpCells { s with wt := s.wt.drop (k + 1) } p c sb) T.t88, own tByte 1 (.slice p s.cfg.length c) s.cfg.length (u8s s.cfg), setI sb (s.wt.drop (k + 1))]) (by repeat (first | exact Cut.nil | (apply Cut.cons; (repeat (first | exact Pick.here | apply Pick.there)))))) (drop_ok h (k + 1))
    refine ⟨_, rfl, ?_⟩
    repeat (first | refine ldI_o H (by repeat (first | exact Pick.here | apply Pick.there)) (by rfl) ?_ | refine ldL_o H (by repeat (first | exact Pick.here | apply Pick.there)) (by rfl) ?_ | refine ldB_o H (by repeat (first | exact Pick.here | apply Pick.there)) (by rfl) ?_ | refine ldP_o H (by repeat (first | exact Pick.here | apply Pick.there)) (by rfl) ?_ | refine ldS_o H (by repeat (first | exact Pick.here | apply Pick.there)) (by rfl) ?_)
    refine call_o H (store_t b m { s with wt := s.wt.drop (k + 1) } (diB bs s.qa (s.wt.take k)) (by rw [diB_len]; exact fit_of hf rfl rfl rfl rfl rfl) (k := s.wt[k]) hwlt true) (by repeat (first | exact Cut.nil | (apply Cut.cons; (repeat (first | exact Pick.here | apply Pick.there))))) fun vx L' wx hq H => ?_
    obtain ⟨rfl, rfl⟩ := hq
    rw [diB_snoc hk] at H
    simp only [List.cons_append, List.nil_append] at H
    refine ⟨rfl, rec_o H (by repeat (first | exact Rep.here | apply Rep.there)) fun wx H => hgo (rows (k + 1)) wx rfl ?_⟩
    exact H.perm (L1 := [recI l r .ready none, defI d, lpI b { s with wt := s.wt.drop (k + 1) }, memI m (diB bs s.qa (s.wt.take (k + 1)))]) (by repeat (first | exact Cut.nil | (apply Cut.cons; (repeat (first | exact Pick.here | apply Pick.there)))))
  · rintro d _ wx rfl H
    dsimp only [jmpX]
    dsimp only [rows] at H
    rw [i1s_length, List.drop_length, List.take_length] at H
    simp only [List.cons_append, List.nil_append] at H
    repeat (first | refine ldI_o H (by repeat (first | exact Pick.here | apply Pick.there)) (by rfl) ?_ | refine ldL_o H (by repeat (first | exact Pick.here | apply Pick.there)) (by rfl) ?_ | refine ldB_o H (by repeat (first | exact Pick.here | apply Pick.there)) (by rfl) ?_ | refine ldP_o H (by repeat (first | exact Pick.here | apply Pick.there)) (by rfl) ?_ | refine ldS_o H (by repeat (first | exact Pick.here | apply Pick.there)) (by rfl) ?_)
    dsimp only [nn]
    obtain ⟨p, c, sb, h', H⟩ := lp_open H (b := b) (by repeat (first | exact Pick.here | apply Pick.there))
    refine st1_o H (by repeat (first | exact Rep.here | apply Rep.there)) (by simp) fun wx H => ?_
    have H := lp_shut (s := diM s) (p := p) (c := c) (sb := sb) (H.perm (L1 := [row b (lpCells (diM s) p c sb) T.t88, own tByte 1 (.slice p s.cfg.length c) s.cfg.length (u8s s.cfg), setI sb []]) (by repeat (first | exact Cut.nil | (apply Cut.cons; (repeat (first | exact Pick.here | apply Pick.there)))))) (diM_ok h)
    refine take_o H (by repeat (first | exact Pick.here | apply Pick.there)) fun wx H => ⟨_, ⟨rfl, rfl⟩, H.drop (by unfold fromE; simp only [List.cons_append, List.nil_append]; exact (by repeat (first | exact Cut.nil | (apply Cut.cons; (repeat (first | exact Pick.here | apply Pick.there))))))⟩
  · rintro d c _ wx hD H
    exact hD.elim
end Go.Proofs.YtgjddhpblpfneaaDoor
