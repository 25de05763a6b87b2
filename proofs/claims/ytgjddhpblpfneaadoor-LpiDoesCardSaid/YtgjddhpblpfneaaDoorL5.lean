/-
  lpi: the best; moved; all moved.
-/
import Derived.Test.YtgjddhpblpfneaaDoorL4
namespace Go.Proofs.YtgjddhpblpfneaaDoor
open Go Go.RowKit X
set_option maxRecDepth 100000
set_option linter.unusedVariables false
set_option linter.unusedSimpArgs false
set_option maxHeartbeats 1000000
structure Can where
  id : Int
  pri : Int
  grp : Int
  is : Bool
def Can.cells (c : Can) : List Value := [.int .i64 c.id, .int .i64 c.pri, .int .i64 c.grp, .bool c.is]
def befB (p id q id2 : Int) : Bool := decide (p < q) || (p == q && decide (id < id2))
def bstep (s : Lp) (c : Can) (k : Nat) : Can :=
  if (setupR s (8192 + k)).1 && (!c.is || befB (setupR s (8192 + k)).2 (8192 + k) c.pri c.id) then ⟨8192 + k, (setupR s (8192 + k)).2, 1, true⟩ else c
def bestR (s : Lp) (l : List Nat) : Can := l.foldl (bstep s) ⟨0, 0, 0, false⟩
theorem bestR_next {s : Lp} {l : List Nat} {k : Nat} (h : k < l.length) : bestR s (l.take (k + 1)) = bstep s (bestR s (l.take k)) l[k] := by
  unfold bestR
  rw [List.take_succ_eq_append_getElem h, List.foldl_append]; rfl
theorem before_t (p id q id2 : Int) : Tri P F.prio_Before [.int .i64 p, .int .i64 id, .int .i64 q, .int .i64 id2] [] fun v L' => v = .bool (befB p id q id2) ∧ L' = [] := by
  refine tri_plain fun w => prio_Before_cv ?_
  unfold prio_Before
  refine join_o ?_
  unfold prio_Before_j0 befB
  refine cnd_i (fun h => ?_) fun h => cnd_i (fun h2 => ?_) fun h2 => ?_
  · rw [h]; exact ⟨rfl, Below.refl _ _⟩
  · rw [h, h2]; exact ⟨by simp, Below.refl _ _⟩
  · rw [h, h2]; exact ⟨rfl, Below.refl _ _⟩
theorem best_t {W : World} (hT : TabAt W) (b : Nat) (s : Lp) : Tri P F.lpi_Lpis_Best [ptrV b] [lpI b s, keep W] fun v L' => v = .agg (bestR s s.wt).cells.toArray ∧ L' = [lpI b s, keep W] := by
  intro w S hS
  refine lpi_Lpis_Best_cv ?_
  unfold lpi_Lpis_Best
  have H := Own.start hS
  refine alc_o H fun b2 wx H => alc_o H fun b4 wx H => alc_o H fun b6 wx H => ?_
  repeat (first | refine ldI_o H (by repeat (first | exact Pick.here | apply Pick.there)) (by rfl) ?_ | refine ldL_o H (by repeat (first | exact Pick.here | apply Pick.there)) (by rfl) ?_ | refine ldB_o H (by repeat (first | exact Pick.here | apply Pick.there)) (by rfl) ?_ | refine ldP_o H (by repeat (first | exact Pick.here | apply Pick.there)) (by rfl) ?_ | refine ldS_o H (by repeat (first | exact Pick.here | apply Pick.there)) (by rfl) ?_)
  dsimp only [nn]
  obtain ⟨p, c, sb, h, H⟩ := lp_open H (b := b) (s := s) (by repeat (first | exact Pick.here | apply Pick.there))
  repeat (first | refine ldI_o H (by repeat (first | exact Pick.here | apply Pick.there)) (by rfl) ?_ | refine ldL_o H (by repeat (first | exact Pick.here | apply Pick.there)) (by rfl) ?_ | refine ldB_o H (by repeat (first | exact Pick.here | apply Pick.there)) (by rfl) ?_ | refine ldP_o H (by repeat (first | exact Pick.here | apply Pick.there)) (by rfl) ?_ | refine ldS_o H (by repeat (first | exact Pick.here | apply Pick.there)) (by rfl) ?_)
  refine call_o H (all_t sb s.wt) (by repeat (first | exact Cut.nil | (apply Cut.cons; (repeat (first | exact Pick.here | apply Pick.there))))) fun vx L' wx hq H => ?_
  obtain ⟨g1, g2, ws, p2, c2, t, t2, e1, h2, h3, rfl, rfl⟩ := hq
  simp only [List.cons_append, List.nil_append] at H
  have H := H.perm (L1 := [row b (lpCells s p c sb) T.t88, own tByte 1 (.slice p s.cfg.length c) s.cfg.length (u8s s.cfg), setI sb s.wt]) (by unfold fromE; simp only [List.cons_append, List.nil_append]; exact (by repeat (first | exact Cut.nil | (apply Cut.cons; (repeat (first | exact Pick.here | apply Pick.there))))))
  have H := lp_shut H h
  refine ⟨_, rfl, ?_⟩
  let rows : Nat → List It := fun k => [lpI b s, row b6 (bestR s (s.wt.take k)).cells T.t43, row b4 [.int .i64 0, .int .i64 0, .int .i64 0, .bool false] T.t43, row b2 [ptrV b] T.t29]
  have H : X.Own w S (rows 0 ++ (fromE g1 g2 ws p2 c2 0 t t2 ++ [keep W])) wx := H.drop (by dsimp only [rows]; unfold fromE; simp only [List.cons_append, List.nil_append]; exact (by repeat (first | exact Cut.nil | (apply Cut.cons; (repeat (first | exact Pick.here | apply Pick.there))))))
  have hen : enters P F.sets_Set_int_From_1 = true := by kernel_rfl
  have hit := from_it hT (g1 := g1) (g2 := g2) (ws := ws) (p := p2) (c := c2) (m := 0) (t := t) (t2 := t2) h2 h3
  rw [e1, loL_zero] at hit
  have hman := h.man
  refine rf_o (fun k Li => Li = rows k) (fun _ _ => False) hen hit (i1s_len _) H rfl ?_ ?_ ?_
  · rintro k x _ F l r d wx Q2 hx rfl H hgo hdone
    obtain ⟨hk, rfl⟩ := i1s_get hx
    have hwlt := h.wlt _ (List.getElem_mem hk)
    have hnext := bestR_next (s := s) hk
    unfold lpi_Lpis_Best_r2
    dsimp only [X.b1]
    dsimp only [rows] at H
    simp only [List.cons_append, List.nil_append] at H
    refine ⟨_, rfl, rec_o H .here fun wx H => join_o ?_⟩
    repeat (first | refine ldI_o H (by repeat (first | exact Pick.here | apply Pick.there)) (by rfl) ?_ | refine ldL_o H (by repeat (first | exact Pick.here | apply Pick.there)) (by rfl) ?_ | refine ldB_o H (by repeat (first | exact Pick.here | apply Pick.there)) (by rfl) ?_ | refine ldP_o H (by repeat (first | exact Pick.here | apply Pick.there)) (by rfl) ?_ | refine ldS_o H (by repeat (first | exact Pick.here | apply Pick.there)) (by rfl) ?_)
    rw [W_id (n := 8192 + ((s.wt[k] : Nat) : Int)) (by omega) (by omega)]
    refine call_p H (setup_t b s (8192 + (s.wt[k] : Nat)) (by unfold I64; omega)) (by repeat (first | exact Cut.nil | (apply Cut.cons; (repeat (first | exact Pick.here | apply Pick.there))))) fun wx H => ?_
    refine ⟨_, _, rfl, join_o ?_⟩
    unfold bstep at hnext
    generalize hc0 : bestR s (s.wt.take k) = c0 at *
    generalize hr0 : setupR s (8192 + (s.wt[k] : Nat)) = r0 at *
    have keepc : ∀ wx, bestR s (s.wt.take (k + 1)) = c0 → X.Own w S (recI l r .busy none :: defI d :: lpI b s :: row b6 c0.cells T.t43 :: row b4 [.int .i64 0, .int .i64 0, .int .i64 0, .bool false] T.t43 :: row b2 [ptrV b] T.t29 :: (fromE g1 g2 ws p2 c2 0 t t2 ++ [keep W] ++ F)) wx →
        lpi_Lpis_Best_j0 l r Q2 wx := by
      intro wx he H
      unfold lpi_Lpis_Best_j0
      refine rec_o H (by repeat (first | exact Rep.here | apply Rep.there)) fun wx H => hgo (rows (k + 1)) wx rfl ?_
      dsimp only [rows]
      rw [he]; exact H
    have turn : ∀ wx, bestR s (s.wt.take (k + 1)) = ⟨8192 + (s.wt[k] : Nat), r0.2, 1, true⟩ → X.Own w S (recI l r .busy none :: defI d :: lpI b s :: row b6 c0.cells T.t43 :: row b4 [.int .i64 0, .int .i64 0, .int .i64 0, .bool false] T.t43 :: row b2 [ptrV b] T.t29 :: (fromE g1 g2 ws p2 c2 0 t t2 ++ [keep W] ++ F)) wx →
        lpi_Lpis_Best_j1 b6 ((s.wt[k] : Nat) : Int) (fun s w => lpi_Lpis_Best_j0 l r Q2 w) r0.2 true wx := by
      intro wx he H
      unfold lpi_Lpis_Best_j1
      refine cnd_i (fun _ => ?_) (fun h => by cases h)
      rw [W_id (n := 8192 + ((s.wt[k] : Nat) : Int)) (by omega) (by omega)]
      unfold Can.cells at H
      refine st1_o H (by repeat (first | exact Rep.here | apply Rep.there)) (by simp) fun wx H => ?_
      refine st1_o H (by repeat (first | exact Rep.here | apply Rep.there)) (by simp) fun wx H => ?_
      refine st1_o H (by repeat (first | exact Rep.here | apply Rep.there)) (by simp) fun wx H => ?_
      refine st1_o H (by repeat (first | exact Rep.here | apply Rep.there)) (by simp) fun wx H => ?_
      simp only [List.set_cons_zero, List.set_cons_succ] at H
      show lpi_Lpis_Best_j0 _ _ _ _
      unfold lpi_Lpis_Best_j0
      refine rec_o H (by repeat (first | exact Rep.here | apply Rep.there)) fun wx H => hgo (rows (k + 1)) wx rfl ?_
      dsimp only [rows]
      rw [he]; exact H
    have stay : ∀ wx, bestR s (s.wt.take (k + 1)) = c0 → X.Own w S (recI l r .busy none :: defI d :: lpI b s :: row b6 c0.cells T.t43 :: row b4 [.int .i64 0, .int .i64 0, .int .i64 0, .bool false] T.t43 :: row b2 [ptrV b] T.t29 :: (fromE g1 g2 ws p2 c2 0 t t2 ++ [keep W] ++ F)) wx →
        lpi_Lpis_Best_j1 b6 ((s.wt[k] : Nat) : Int) (fun s w => lpi_Lpis_Best_j0 l r Q2 w) r0.2 false wx := by
      intro wx he H
      unfold lpi_Lpis_Best_j1
      exact cnd_i (fun h => by cases h) fun _ => keepc wx he H
    refine cnd_i (fun hin => ?_) fun hin => stay _ (by rw [hnext, hin]; rfl) H
    refine ldB_o H (i := 3) (cs := c0.cells) (t := T.t43) (b := b6) (by repeat (first | exact Pick.here | apply Pick.there)) (by rfl) ?_
    refine cnd_i (fun his => turn _ (by rw [hnext, hin, his]; rfl) H) fun his => ?_
    refine ldI_o H (i := 1) (cs := c0.cells) (t := T.t43) (b := b6) (by repeat (first | exact Pick.here | apply Pick.there)) (by rfl) ?_
    refine ldI_o H (i := 0) (cs := c0.cells) (t := T.t43) (b := b6) (by repeat (first | exact Pick.here | apply Pick.there)) (by rfl) ?_
    refine call_p H (before_t r0.2 (8192 + (s.wt[k] : Nat)) c0.pri c0.id) .nil fun wx H => ?_
    refine ⟨_, rfl, ?_⟩
    rw [hin, his] at hnext
    simp only [Bool.true_and, Bool.false_or] at hnext
    cases hb : befB r0.2 (8192 + (s.wt[k] : Nat)) c0.pri c0.id
    · rw [hb] at hnext; exact stay _ hnext H
    · rw [hb] at hnext; exact turn _ hnext H
  · rintro d _ wx rfl H
    dsimp only [jmpX]
    dsimp only [rows] at H
    rw [i1s_length, List.take_length] at H
    unfold Can.cells at H
    simp only [List.cons_append, List.nil_append] at H
    repeat (first | refine ldI_o H (by repeat (first | exact Pick.here | apply Pick.there)) (by rfl) ?_ | refine ldL_o H (by repeat (first | exact Pick.here | apply Pick.there)) (by rfl) ?_ | refine ldB_o H (by repeat (first | exact Pick.here | apply Pick.there)) (by rfl) ?_ | refine ldP_o H (by repeat (first | exact Pick.here | apply Pick.there)) (by rfl) ?_ | refine ldS_o H (by repeat (first | exact Pick.here | apply Pick.there)) (by rfl) ?_)
    refine st1_o H (by repeat (first | exact Rep.here | apply Rep.there)) (by simp) fun wx H => ?_
    refine st1_o H (by repeat (first | exact Rep.here | apply Rep.there)) (by simp) fun wx H => ?_
    refine st1_o H (by repeat (first | exact Rep.here | apply Rep.there)) (by simp) fun wx H => ?_
    refine st1_o H (by repeat (first | exact Rep.here | apply Rep.there)) (by simp) fun wx H => ?_
    simp only [List.set_cons_zero, List.set_cons_succ] at H
    refine take_o H (by repeat (first | exact Pick.here | apply Pick.there)) fun wx H => ?_
    repeat (first | refine ldI_o H (by repeat (first | exact Pick.here | apply Pick.there)) (by rfl) ?_ | refine ldL_o H (by repeat (first | exact Pick.here | apply Pick.there)) (by rfl) ?_ | refine ldB_o H (by repeat (first | exact Pick.here | apply Pick.there)) (by rfl) ?_ | refine ldP_o H (by repeat (first | exact Pick.here | apply Pick.there)) (by rfl) ?_ | refine ldS_o H (by repeat (first | exact Pick.here | apply Pick.there)) (by rfl) ?_)
    exact ⟨_, ⟨rfl, rfl⟩, H.drop (by unfold fromE; simp only [List.cons_append, List.nil_append]; exact (by repeat (first | exact Cut.nil | (apply Cut.cons; (repeat (first | exact Pick.here | apply Pick.there))))))⟩
  · rintro d c _ wx hD H
    exact hD.elim
/-! ### Moved -/
theorem lp_bare {w w0 : World} {S0 : Nat → Prop} {L F : List It} {b : Nat} {s : Lp} (H : X.Own w0 S0 L w) (hp : Pick L (lpI b s) F) : bare w b := by
  obtain ⟨p, c, sb, h, H⟩ := lp_open H hp
  have := H.row (b := b) .here
  exact ⟨_, _, this⟩
theorem eq_ptrs {w w0 : World} {S0 : Nat → Prop} {L F : List It} {b b' : Nat} {s s' : Lp} {K : Bool → Prop} (H : X.Own w0 S0 L w) (hc : Cut L [lpI b s, lpI b' s'] F) (hK : K false) : eqPP P T.t29 (some ⟨b, 0, none⟩) (some ⟨b', 0, none⟩) w K := by
  have H := H.perm hc
  have h1 := lp_bare H .here
  have h2 := lp_bare (b := b') (s := s') H (.there .here)
  obtain ⟨p, c, sb, h, H⟩ := lp_open H (b := b) .here
  have H := H.perm (L1 := [lpI b' s']) (.cons (.there (.there (.there .here))) .nil)
  obtain ⟨p', c', sb', h', H⟩ := lp_open H (b := b') (s := s') .here
  have hne : b' ≠ b := row_ne H (.there (.there .here))
  unfold eqPP
  dsimp only
  rw [if_neg (by rw [show P.underlying T.t29 = some (.pointer T.t88) by kernel_rfl]; show ¬ sizeT P T.t88 = 0; rw [show sizeT P T.t88 = 8 by kernel_rfl]; decide)]
  refine ⟨.inr ⟨h1, h2⟩, ?_⟩
  have : ((⟨b, 0, none⟩ : Addr) == ⟨b', 0, none⟩) = false := by
    rw [beq_eq_false_iff_ne]; intro e; cases e; exact hne rfl
  rw [this]; exact hK
theorem eq_self {w : World} {b : Nat} {K : Bool → Prop} (hK : K true) : eqPP P T.t29 (some ⟨b, 0, none⟩) (some ⟨b, 0, none⟩) w K := by
  unfold eqPP
  dsimp only
  rw [if_neg (by rw [show P.underlying T.t29 = some (.pointer T.t88) by kernel_rfl]; show ¬ sizeT P T.t88 = 0; rw [show sizeT P T.t88 = 8 by kernel_rfl]; decide)]
  refine ⟨.inl rfl, ?_⟩
  rw [beq_self_eq_true]; exact hK
/-- two parts and their memory -/
abbrev LS := Lp × Lp × List Int
def mvB (S : LS) (id : Int) : Bool := hasM S.1 S.2.2 id && inB S.2.1.many id
def mvS (S : LS) (id : Int) : LS := if mvB S id then (setMs S.1 id false, setMs S.2.1 id true, setMb S.2.1 (setMb S.1 S.2.2 id false) id true) else S
abbrev lsL (b b' m : Nat) (S : LS) : List It := [lpI b S.1, lpI b' S.2.1, memI m S.2.2]
structure LsFit (S : LS) : Prop where
  f : S.1.Fit S.2.2.length
  g : S.2.1.Fit S.2.2.length
theorem mvS_fit {S : LS} (h : LsFit S) (id : Int) : LsFit (mvS S id) := by
  unfold mvS
  split
  · refine ⟨?_, ?_⟩
    · show (setMs S.1 id false).Fit (setMb S.2.1 (setMb S.1 S.2.2 id false) id true).length
      rw [setMb_len, setMb_len]; exact setMs_fit h.f _ _
    · show (setMs S.2.1 id true).Fit (setMb S.2.1 (setMb S.1 S.2.2 id false) id true).length
      rw [setMb_len, setMb_len]; exact setMs_fit h.g _ _
  · exact h
theorem move_t (b b' m : Nat) (S : LS) (hf : LsFit S) (id : Int) (hid : I64 id) : Tri P F.lpi_Move [ptrV m, .int .i64 id, ptrV b, ptrV b'] (lsL b b' m S) fun v L' => v = .bool (mvB S id) ∧ L' = lsL b b' m (mvS S id) := by
  intro w Sp hS
  obtain ⟨s, t, bs⟩ := S
  refine lpi_Move_cv ?_
  unfold lpi_Move mvS mvB
  dsimp only [lsL]
  have H := Own.start hS
  refine join_o (eq_ptrs H (.cons .here (.cons .here .nil)) (cnd_i (fun h => by cases h) fun _ => ?_))
  have hff : s.Fit bs.length := hf.f
  have hfg : t.Fit bs.length := hf.g
  refine call_p H (hasP_t b m s bs hff id hid) (by repeat (first | exact Cut.nil | (apply Cut.cons; (repeat (first | exact Pick.here | apply Pick.there))))) fun wx H => ?_
  refine ⟨_, rfl, ?_⟩
  unfold lpi_Move_j0
  cases hh : hasM s bs id
  · exact cnd_i (fun _ => ⟨_, ⟨rfl, rfl⟩, H⟩) (fun h => by cases h)
  refine cnd_i (fun h => by cases h) fun _ => ?_
  refine call_p H (index_t b' t id hid) (by repeat (first | exact Cut.nil | (apply Cut.cons; (repeat (first | exact Pick.here | apply Pick.there))))) fun wx H => ?_
  refine ⟨_, _, rfl, ?_⟩
  cases hi : inB t.many id
  · exact cnd_i (fun _ => ⟨_, ⟨rfl, rfl⟩, H⟩) (fun h => by cases h)
  refine cnd_i (fun h => by cases h) fun _ => ?_
  refine call_o H (set_t b m s bs hff id hid false) (by repeat (first | exact Cut.nil | (apply Cut.cons; (repeat (first | exact Pick.here | apply Pick.there))))) fun vx L' wx hq H => ?_
  obtain ⟨rfl, rfl⟩ := hq
  simp only [List.cons_append, List.nil_append] at H
  refine ⟨_, _, rfl, ?_⟩
  refine call_o H (set_t b' m t (setMb s bs id false) (by rw [setMb_len]; exact hfg) id hid true) (by repeat (first | exact Cut.nil | (apply Cut.cons; (repeat (first | exact Pick.here | apply Pick.there))))) fun vx L' wx hq H => ?_
  obtain ⟨rfl, rfl⟩ := hq
  simp only [List.cons_append, List.nil_append] at H
  exact ⟨_, _, rfl, _, ⟨rfl, rfl⟩, H.drop (by repeat (first | exact Cut.nil | (apply Cut.cons; (repeat (first | exact Pick.here | apply Pick.there)))))⟩
theorem move_self_t (b m : Nat) (id : Int) : Tri P F.lpi_Move [ptrV m, .int .i64 id, ptrV b, ptrV b] [] fun v L' => v = .bool false ∧ L' = [] := by
  intro w Sp hS
  refine lpi_Move_cv ?_
  unfold lpi_Move
  have H := Own.start hS
  refine join_o (eq_self (cnd_i (fun _ => ?_) (fun h => by cases h)))
  unfold lpi_Move_j0
  exact cnd_i (fun _ => ⟨_, ⟨rfl, rfl⟩, H⟩) (fun h => by cases h)
end Go.Proofs.YtgjddhpblpfneaaDoor
