/-
  lpi: what waits is gone through; the best.
-/
import Derived.Test.YtgjddhpblpfneaaDoorL3
namespace Go.Proofs.YtgjddhpblpfneaaDoor
open Go Go.RowKit X
set_option maxRecDepth 100000
set_option linter.unusedVariables false
set_option linter.unusedSimpArgs false
set_option maxHeartbeats 1000000
def waitV (g3 g5 : Nat) : Value := .func (.func F.lpi_Lpis_Waiting_1) [].toArray [ptrV g3, ptrV g5].toArray
def waitE (g3 g5 b m : Nat) : List It := [row g5 [ptrV m] T.t25, row g3 [ptrV b] T.t29]
theorem wait_enters : enters P F.lpi_Lpis_Waiting_1 = true := by kernel_rfl
theorem waiting_t (b m : Nat) : Tri P F.lpi_Lpis_Waiting [ptrV b, ptrV m] [] fun v L' => ∃ g3 g5, v = waitV g3 g5 ∧ L' = waitE g3 g5 b m := by
  intro w S hS
  refine lpi_Lpis_Waiting_cv ?_
  unfold lpi_Lpis_Waiting
  have H := Own.start hS
  refine alc_o H fun b3 wx H => alc_o H fun b5 wx H => ?_
  exact ⟨_, ⟨b3, b5, rfl, rfl⟩, H⟩
/-- numbers of those that a loop yields -/
def idsL (l : List Nat) : List (List Value) := l.map fun (k : Nat) => [.int .i64 (8192 + (k : Int))]
theorem idsL_len (l : List Nat) : ∀ x ∈ idsL l, x.length = 1 := by
  intro x hx
  obtain ⟨y, _, rfl⟩ := List.mem_map.1 hx
  rfl
theorem idsL_length (l : List Nat) : (idsL l).length = l.length := by simp [idsL]
theorem idsL_at {l : List Nat} {k : Nat} {x : List Value} (h : (idsL l)[k]? = some x) : ∃ u : Nat, l[k]? = some u ∧ x = [.int .i64 (8192 + (u : Int))] := by
  unfold idsL at h
  rw [List.getElem?_map] at h
  cases hu : l[k]? with
  | none => rw [hu] at h; cases h
  | some u => rw [hu] at h; exact ⟨u, rfl, by cases h; rfl⟩
theorem range_filter_at {M k : Nat} {p : Nat → Bool} (hk : k < M) (hp : p k = true) : ((List.range M).filter p)[((List.range k).filter p).length]? = some k := by
  have := filter_at (p := p) (l := List.range M) (k := k) (x := k) (List.getElem?_range hk) hp
  rwa [List.take_range, Nat.min_eq_left (Nat.le_of_lt hk)] at this
/-- the loop over what waits, while its rounds turn the part and the memory: st: how they are behind so many rounds -/
theorem waiting_it (g3 g5 b m : Nat) (M : Nat) (hM : M ≤ 512) (p : Nat → Bool) (st : Nat → Lp × List Int) (hm : ∀ j, (st j).1.many = M) (hf : ∀ j, (st j).1.Fit (st j).2.length)
    (hp : ∀ k, k < M → hasM (st ((List.range k).filter p).length).1 (st ((List.range k).filter p).length).2 (8192 + (k : Int)) = p k) :
    IterC P F.lpi_Lpis_Waiting_1 [ptrV g3, ptrV g5] (waitE g3 g5 b m) (idsL ((List.range M).filter p)) fun j => [lpI b (st j).1, memI m (st j).2] := by
  intro y w0 S0 L0 w Q I D hy H h0 hC hstep hend hstop
  refine lpi_Lpis_Waiting_1_cv ?_
  unfold lpi_Lpis_Waiting_1
  refine ldP_o H (pick_right (F := waitE g3 g5 b m) (.there .here) L0) (by rfl) ?_
  obtain ⟨F0, hF0⟩ := hC 0 L0 h0
  have H1 := H.perm (hF0.right (waitE g3 g5 b m))
  obtain ⟨q, c, sb, h, H2⟩ := lp_open H1 .here
  dsimp only [nn]
  refine ldI_o H2 .here (by rfl) ?_
  rw [hm 0]
  refine loop_o (fun (s : Int) L' => ∃ (k : Nat) (L : List It), k ≤ M ∧ s = k ∧ I ((List.range k).filter p).length L ∧ L' = L ++ waitE g3 g5 b m) (fun (s : Int) => ((M : Int) - s).toNat) H ⟨0, L0, by omega, rfl, h0, rfl⟩ ?_
  clear H H1 H2 hF0 h
  rintro _ _ wx ⟨k, L, hk, rfl, hI, rfl⟩ H
  unfold lpi_Lpis_Waiting_1_l1
  refine cnd_i (fun hc => join_o ?_) fun hc => ?_
  · have hc := of_decide_eq_true hc
    have hkM : k < M := by omega
    refine ldP_o H (pick_right (F := waitE g3 g5 b m) (.there .here) L) (by rfl) ?_
    refine ldP_o H (pick_right (F := waitE g3 g5 b m) .here L) (by rfl) ?_
    rw [W_id (n := 8192 + (k : Int)) (by omega) (by omega)]
    obtain ⟨F1, hF1⟩ := hC _ L hI
    refine call_p H (hasP_t b m (st ((List.range k).filter p).length).1 (st ((List.range k).filter p).length).2 (hf _) (8192 + (k : Int)) (by unfold I64; omega)) (hF1.right (waitE g3 g5 b m)) fun wx H => ?_
    rw [hp k hkM]
    refine ⟨_, rfl, ?_⟩
    unfold lpi_Lpis_Waiting_1_j0
    have hnext : ((List.range (k + 1)).filter p).length = ((List.range k).filter p).length + if p k then 1 else 0 := by
      rw [List.range_succ, List.filter_append, List.length_append]
      cases hpk : p k <;> simp [hpk]
    rw [W_id (n := (k : Int) + 1) (by omega) (by omega)]
    refine cnd_i (fun hb => ?_) fun hb => ?_
    · have hx : (idsL ((List.range M).filter p))[((List.range k).filter p).length]? = some [.int .i64 (8192 + (k : Int))] := by
        rw [idsL, List.getElem?_map, range_filter_at hkM hb]; rfl
      refine callVal_mono (hstep _ _ L [] wx hx hI (by rw [List.append_nil]; exact H)) ?_
      rintro _ w' ⟨bo, rfl, L', hL', H'⟩
      rw [List.append_nil] at H'
      refine ⟨_, rfl, ?_⟩
      cases bo
      · exact cnd_i (fun _ => hstop L' w' (by simpa using hL') H') (fun h => by cases h)
      · refine cnd_i (fun h => by cases h) fun _ => ?_
        refine ⟨⟨_, ⟨k + 1, L', by omega, by push_cast; rfl, ?_, rfl⟩, H'⟩, by omega⟩
        rw [hnext, if_pos hb]
        simpa using hL'
    · refine cnd_i (fun h => by cases h) fun _ => ?_
      refine ⟨⟨_, ⟨k + 1, L, by omega, by push_cast; rfl, ?_, rfl⟩, H⟩, by omega⟩
      rw [hnext, hb]
      exact hI
  · have hc := of_decide_eq_false hc
    have : k = M := by omega
    subst this
    refine hend L wx ?_ H
    rw [idsL_length]
    exact hI
/-- what waits -/
def waitL (s : Lp) (bs : List Int) : List Nat := (List.range s.many.toNat).filter fun k => hasM s bs (8192 + (k : Int))
theorem waiting_it0 (g3 g5 b m : Nat) (s : Lp) (bs : List Int) (hok : s.Ok) (hf : s.Fit bs.length) : IterC P F.lpi_Lpis_Waiting_1 [ptrV g3, ptrV g5] (waitE g3 g5 b m) (idsL (waitL s bs)) fun _ => [lpI b s, memI m bs] :=
  waiting_it g3 g5 b m s.many.toNat (by have := hok.man; omega) _ (fun _ => (s, bs)) (fun _ => by have := hok.man; show s.many = _; omega) (fun _ => hf) fun k _ => rfl
def ids (l : List Nat) : List Int := l.map fun (k : Nat) => 8192 + (k : Int)
theorem ids_len (l : List Nat) : (ids l).length = l.length := by simp [ids]
theorem waitL_len (s : Lp) (bs : List Int) (h : s.Ok) : (waitL s bs).length ≤ 512 := by
  have := List.length_filter_le (fun k : Nat => hasM s bs (8192 + (k : Int))) (List.range s.many.toNat)
  rw [List.length_range] at this
  have := h.man
  unfold waitL
  omega
/-- the law's list of what waits -/
theorem list_t (g3 g5 b m : Nat) (s : Lp) (bs : List Int) (hok : s.Ok) (hf : s.Fit bs.length) : Tri P F.crierlaw15_list [waitV g3 g5] (lpI b s :: memI m bs :: waitE g3 g5 b m)
    fun v L' => ∃ p c, v = .slice p (ids (waitL s bs)).length c ∧ L' = [own tInt 1 (.slice p (ids (waitL s bs)).length c) (ids (waitL s bs)).length (i64s (ids (waitL s bs))), lpI b s, memI m bs] := by
  intro w S hS
  refine crierlaw15_list_cv ?_
  unfold crierlaw15_list waitV
  have H := Own.start hS
  have hwl := waitL_len s bs hok
  dsimp only [oneK]
  refine alc_o H fun b2 wx H => join_o ?_
  have H := own_nil (e := tInt) (size := 1) H
  let rows : Nat → Option Addr → Nat → List It := fun k p c => [own tInt 1 (.slice p k c) k (i64s (ids ((waitL s bs).take k))), row b2 [.slice p k c] T.t37, lpI b s, memI m bs]
  have H : X.Own w S (rows 0 none 0 ++ waitE g3 g5 b m) wx := H
  refine rf_c (fun k Li => ∃ p c, Li = rows k p c) (fun _ _ => False) wait_enters (waiting_it0 g3 g5 b m s bs hok hf) (fun k L ⟨p, c, e⟩ => by subst e; exact ⟨_, .cons (.there (.there .here)) (.cons (.there (.there .here)) .nil)⟩) (idsL_len _) H ⟨none, 0, rfl⟩ ?_ ?_ ?_
  · rintro k x _ F l r d wx Q2 hx ⟨p, c, rfl⟩ H hgo hdone
    obtain ⟨u, hu, rfl⟩ := idsL_at hx
    have hk' := (List.getElem?_eq_some_iff.1 hu).1
    unfold crierlaw15_list_r1
    dsimp only [X.b1]
    dsimp only [rows] at H
    simp only [List.cons_append, List.nil_append] at H
    refine ⟨_, rfl, rec_o H .here fun wx H => ?_⟩
    repeat (first | refine ldI_o H (by repeat (first | exact Pick.here | apply Pick.there)) (by rfl) ?_ | refine ldL_o H (by repeat (first | exact Pick.here | apply Pick.there)) (by rfl) ?_ | refine ldB_o H (by repeat (first | exact Pick.here | apply Pick.there)) (by rfl) ?_ | refine ldP_o H (by repeat (first | exact Pick.here | apply Pick.there)) (by rfl) ?_ | refine ldS_o H (by repeat (first | exact Pick.here | apply Pick.there)) (by rfl) ?_)
    refine alc_o H fun b3 wx H => ?_
    refine app_n (m := 1) (b := b3) (ys := [8192 + (u : Int)]) (t := T.t3) H (by repeat (first | exact Pick.here | apply Pick.there)) .here rfl (by omega) fun p1 c1 wx H => ?_
    refine st1_o H (by repeat (first | exact Rep.here | apply Rep.there)) (by simp) fun wx H => ?_
    simp only [List.set_cons_zero, List.set_cons_succ] at H
    repeat (first | refine ldI_o H (by repeat (first | exact Pick.here | apply Pick.there)) (by rfl) ?_ | refine ldL_o H (by repeat (first | exact Pick.here | apply Pick.there)) (by rfl) ?_ | refine ldB_o H (by repeat (first | exact Pick.here | apply Pick.there)) (by rfl) ?_ | refine ldP_o H (by repeat (first | exact Pick.here | apply Pick.there)) (by rfl) ?_ | refine ldS_o H (by repeat (first | exact Pick.here | apply Pick.there)) (by rfl) ?_)
    refine cnd_i (fun hc => absurd (of_decide_eq_true hc) (by omega)) fun _ => ?_
    refine rec_o H (by repeat (first | exact Rep.here | apply Rep.there)) fun wx H => ?_
    have e : ids ((waitL s bs).take k) ++ [8192 + (u : Int)] = ids ((waitL s bs).take (k + 1)) := by
      rw [List.take_add_one, hu]; simp [ids]
    rw [e] at H
    refine hgo (rows (k + 1) p1 c1) wx ⟨p1, c1, rfl⟩ ?_
    have H := H.rest (L1 := [row b3 (i64s [8192 + (u : Int)]) T.t3]) (by repeat (first | exact Cut.nil | (apply Cut.cons; (repeat (first | exact Pick.here | apply Pick.there)))))
    exact H.perm (L1 := [recI l r .ready none, defI d, own tInt 1 (.slice p1 (k + 1) c1) (k + 1) (i64s (ids ((waitL s bs).take (k + 1)))), row b2 [.slice p1 (k + 1) c1] T.t37]) (by repeat (first | exact Cut.nil | (apply Cut.cons; (repeat (first | exact Pick.here | apply Pick.there)))))
  · rintro d _ wx ⟨p, c, rfl⟩ H
    dsimp only [jmpX]
    unfold crierlaw15_list_j0
    dsimp only [rows] at H
    rw [idsL_length, List.take_length, ← ids_len (waitL s bs)] at H
    simp only [List.cons_append, List.nil_append] at H
    repeat (first | refine ldI_o H (by repeat (first | exact Pick.here | apply Pick.there)) (by rfl) ?_ | refine ldL_o H (by repeat (first | exact Pick.here | apply Pick.there)) (by rfl) ?_ | refine ldB_o H (by repeat (first | exact Pick.here | apply Pick.there)) (by rfl) ?_ | refine ldP_o H (by repeat (first | exact Pick.here | apply Pick.there)) (by rfl) ?_ | refine ldS_o H (by repeat (first | exact Pick.here | apply Pick.there)) (by rfl) ?_)
    refine take_o H (by repeat (first | exact Pick.here | apply Pick.there)) fun wx H => ?_
    exact ⟨_, ⟨p, c, rfl, rfl⟩, H.drop (by repeat (first | exact Cut.nil | (apply Cut.cons; (repeat (first | exact Pick.here | apply Pick.there)))))⟩
  · rintro d c _ wx hD H
    exact hD.elim
end Go.Proofs.YtgjddhpblpfneaaDoor
