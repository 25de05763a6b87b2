/-
  lpi: all moved.
-/
import Derived.Test.YtgjddhpblpfneaaDoorL5
namespace Go.Proofs.YtgjddhpblpfneaaDoor
open Go Go.RowKit X
set_option maxRecDepth 100000
set_option linter.unusedVariables false
set_option linter.unusedSimpArgs false
set_option maxHeartbeats 1000000
theorem setMs_same (s : Lp) (id : Int) (is : Bool) : (setMs s id is).many = s.many ∧ (setMs s id is).on = s.on ∧ (setMs s id is).qa = s.qa ∧ (setMs s id is).cfg = s.cfg ∧ (setMs s id is).pa = s.pa ∧ (setMs s id is).ps = s.ps ∧ (setMs s id is).qs = s.qs := by
  unfold setMs; split <;> exact ⟨rfl, rfl, rfl, rfl, rfl, rfl, rfl⟩
def Apart (s t : Lp) : Prop := ∀ k k' : Nat, (k : Int) < s.many → (k' : Int) < t.many → at8 s.qa k ≠ at8 t.qa k'
theorem Apart.symm {s t : Lp} (h : Apart s t) : Apart t s := fun k k' h1 h2 e => h k' k h2 h1 e.symm
theorem Apart.of {s t s' t' : Lp} (h : Apart s t) (h1 : s'.many = s.many) (h2 : s'.qa = s.qa) (h3 : t'.many = t.many) (h4 : t'.qa = t.qa) : Apart s' t' := by
  unfold Apart at *
  rw [h1, h2, h3, h4]; exact h
theorem setMb_range {s : Lp} {bs : List Int} (hr : ∀ x ∈ bs, 0 ≤ x ∧ x < 256) (id : Int) (is : Bool) : ∀ x ∈ setMb s bs id is, 0 ≤ x ∧ x < 256 := by
  unfold setMb; split
  · exact stoM_range hr _ _ _
  · exact hr
/-- what another part's table holds is another matter -/
theorem has_apart {s t : Lp} {bs : List Int} (hg : t.Fit bs.length) (ha : Apart s t) (id : Int) (is : Bool) (id' : Int) : hasM s (setMb t bs id is) id' = hasM s bs id' := by
  unfold hasM
  cases hi : inB s.many id'
  · rfl
  · cases hon : s.on
    · simp only [Bool.true_and, Bool.false_eq_true, if_false]
      unfold setMb
      split
      · rename_i hc
        simp only [Bool.and_eq_true] at hc
        have h1 := inB_iff.1 hi
        have h2 := inB_iff.1 hc.1
        refine bitM_apart is (fit_at hg (k := (id - 8192).toNat) (by omega)).2.1 ?_
        exact (ha (id' - 8192).toNat (id - 8192).toNat (by omega) (by omega)).symm
      · rfl
    · rfl
theorem hasL_put {l : List Nat} {m x : Int} : hasL (putL l m) x = (hasL l x || (mayL m && decide (x = m))) := by
  rw [Bool.eq_iff_iff]
  simp only [Bool.or_eq_true, Bool.and_eq_true, decide_eq_true_eq]
  rw [hasL_iff, hasL_iff, mem_putL]
  constructor
  · rintro ⟨h1, h2 | ⟨h2, h3⟩⟩
    · exact .inl ⟨h1, h2⟩
    · exact .inr ⟨h2, by omega⟩
  · rintro (⟨h1, h2⟩ | ⟨h1, rfl⟩)
    · exact ⟨h1, .inl h2⟩
    · have := mayL_iff.1 h1
      exact ⟨this.1, .inr ⟨h1, by omega⟩⟩
theorem hasL_take {l : List Nat} {m x : Int} : hasL (takeL l m) x = (hasL l x && !decide (x = m)) := by
  rw [Bool.eq_iff_iff]
  simp only [Bool.and_eq_true, Bool.not_eq_true', decide_eq_false_iff_not]
  rw [hasL_iff, hasL_iff, mem_takeL]
  constructor
  · rintro ⟨h1, h2, h3⟩; exact ⟨⟨h1, h2⟩, by omega⟩
  · rintro ⟨⟨h1, h2⟩, h3⟩; exact ⟨h1, h2, by omega⟩
/-- what waits behind a change -/
theorem has_set {s : Lp} {bs : List Int} (hr : ∀ x ∈ bs, 0 ≤ x ∧ x < 256) (hf : s.Fit bs.length) (hm : s.many ≤ 512) {id : Int} (hi : inB s.many id = true) (is : Bool) (id' : Int) :
    hasM (setMs s id is) (setMb s bs id is) id' = if id' = id then is else hasM s bs id' := by
  have h1 := inB_iff.1 hi
  have hsm := setMs_same s id is
  unfold hasM
  rw [hsm.1, hsm.2.1, hsm.2.2.1]
  cases hi' : inB s.many id'
  · rw [if_neg (show ¬ id' = id by rintro rfl; rw [hi] at hi'; cases hi')]; rfl
  · have h2 := inB_iff.1 hi'
    cases hon : s.on
    · simp only [Bool.true_and, Bool.false_eq_true, if_false]
      unfold setMb
      rw [hi, hon]
      simp only [Bool.not_false, Bool.and_self, if_true]
      have hat := fit_at hf (k := (id - 8192).toNat) (by omega)
      rw [bitM_sto hr hat.1 hat.2.1]
      by_cases e : id' = id
      · rw [if_pos (by rw [e]), if_pos e]
      · rw [if_neg (by omega), if_neg e]
    · simp only [Bool.true_and, if_true]
      unfold setMs
      rw [hi, hon]
      simp only [Bool.and_self, if_true]
      have hmay : mayL (id - 8192) = true := mayL_iff.2 (by omega)
      cases is
      · simp only [Bool.false_eq_true, if_false]
        rw [hasL_take]
        by_cases e : id' = id
        · rw [if_pos e, e]; simp
        · rw [if_neg e, decide_eq_false (by omega)]; simp
      · simp only [if_true]
        rw [hasL_put, hmay]
        by_cases e : id' = id
        · rw [if_pos e, e]; simp
        · rw [if_neg e, decide_eq_false (by omega)]; simp
structure LsOk (S : LS) : Prop where
  fit : LsFit S
  ok1 : S.1.Ok
  ok2 : S.2.1.Ok
  rng : ∀ x ∈ S.2.2, 0 ≤ x ∧ x < 256
  len : S.2.2.length ≤ 131072
  apt : Apart S.1 S.2.1
theorem mvS_ok {S : LS} (h : LsOk S) (id : Int) : LsOk (mvS S id) := by
  refine ⟨mvS_fit h.fit id, ?_, ?_, ?_, ?_, ?_⟩ <;> unfold mvS <;> split
  · exact setMs_ok h.ok1 _ _
  · exact h.ok1
  · exact setMs_ok h.ok2 _ _
  · exact h.ok2
  · exact setMb_range (setMb_range h.rng _ _) _ _
  · exact h.rng
  · show (setMb _ (setMb _ _ _ _) _ _).length ≤ _
    rw [setMb_len, setMb_len]; exact h.len
  · exact h.len
  · exact h.apt.of (setMs_same _ _ _).1 (setMs_same _ _ _).2.2.1 (setMs_same _ _ _).1 (setMs_same _ _ _).2.2.1
  · exact h.apt
theorem mvS_same (S : LS) (id : Int) : (mvS S id).1.many = S.1.many ∧ (mvS S id).2.1.many = S.2.1.many := by
  unfold mvS; split
  · exact ⟨(setMs_same _ _ _).1, (setMs_same _ _ _).1⟩
  · exact ⟨rfl, rfl⟩
/-- what waits in the first part behind a move -/
theorem has_mv1 {S : LS} (h : LsOk S) (id id' : Int) : hasM (mvS S id).1 (mvS S id).2.2 id' = if mvB S id ∧ id' = id then false else hasM S.1 S.2.2 id' := by
  unfold mvS
  split
  · rename_i hb0
    have hb := hb0
    unfold mvB at hb
    simp only [Bool.and_eq_true] at hb
    have hi : inB S.1.many id = true := by have := hb.1; unfold hasM at this; simp only [Bool.and_eq_true] at this; exact this.1
    show hasM (setMs S.1 id false) (setMb S.2.1 (setMb S.1 S.2.2 id false) id true) id' = _
    rw [has_apart (by rw [setMb_len]; exact h.fit.g) (h.apt.of (setMs_same _ _ _).1 (setMs_same _ _ _).2.2.1 rfl rfl), has_set h.rng h.fit.f h.ok1.man.2 hi]
    by_cases e : id' = id
    · rw [if_pos e, if_pos ⟨hb0, e⟩]
    · rw [if_neg e, if_neg fun hh => e hh.2]
  · rename_i hb
    rw [if_neg fun hh => hb hh.1]
/-- .. in the second one -/
theorem has_mv2 {S : LS} (h : LsOk S) (id id' : Int) : hasM (mvS S id).2.1 (mvS S id).2.2 id' = if mvB S id ∧ id' = id then true else hasM S.2.1 S.2.2 id' := by
  unfold mvS
  split
  · rename_i hb0
    have hb := hb0
    unfold mvB at hb
    simp only [Bool.and_eq_true] at hb
    show hasM (setMs S.2.1 id true) (setMb S.2.1 (setMb S.1 S.2.2 id false) id true) id' = _
    rw [has_set (setMb_range h.rng _ _) (by rw [setMb_len]; exact h.fit.g) h.ok2.man.2 hb.2, has_apart h.fit.f h.apt.symm]
    by_cases e : id' = id
    · rw [if_pos e, if_pos ⟨hb0, e⟩]
    · rw [if_neg e, if_neg fun hh => e hh.2]
  · rename_i hb
    rw [if_neg fun hh => hb hh.1]
def mvA (x : LS × Nat) (k : Nat) : LS × Nat := (mvS x.1 (8192 + k), if mvB x.1 (8192 + k) then x.2 + 1 else x.2)
def mvAll (S : LS) (l : List Nat) : LS × Nat := l.foldl mvA (S, 0)
theorem mvAll_next {S : LS} {l : List Nat} {k : Nat} {u : Nat} (h : l[k]? = some u) : mvAll S (l.take (k + 1)) = mvA (mvAll S (l.take k)) u := by
  unfold mvAll
  rw [List.take_add_one, h, List.foldl_append]; rfl
theorem mvAll_snoc (S : LS) (l : List Nat) (u : Nat) : mvAll S (l ++ [u]) = mvA (mvAll S l) u := by
  unfold mvAll
  rw [List.foldl_append]; rfl
theorem snoc_ind {p : List Nat → Prop} (h0 : p []) (h1 : ∀ l u, p l → p (l ++ [u])) (l : List Nat) : p l := by
  rw [← List.reverse_reverse l]
  induction l.reverse with
  | nil => exact h0
  | cons u r ih => rw [List.reverse_cons]; exact h1 _ _ ih
theorem mvAll_ok {S : LS} (h : LsOk S) (l : List Nat) : LsOk (mvAll S l).1 ∧ (mvAll S l).1.1.many = S.1.many ∧ (mvAll S l).1.2.1.many = S.2.1.many ∧ (mvAll S l).2 ≤ l.length := by
  induction l using snoc_ind with
  | h0 => exact ⟨h, rfl, rfl, Nat.le_refl _⟩
  | h1 l u ih =>
    rw [mvAll_snoc]
    obtain ⟨i1, i2, i3, i4⟩ := ih
    refine ⟨mvS_ok i1 _, ?_, ?_, ?_⟩
    · show (mvS _ _).1.many = _; rw [(mvS_same _ _).1, i2]
    · show (mvS _ _).2.1.many = _; rw [(mvS_same _ _).2, i3]
    · unfold mvA
      dsimp only
      rw [List.length_append, List.length_singleton]
      split <;> omega
theorem mvAll_has {S : LS} (h : LsOk S) (l : List Nat) (id' : Int) (hn : ∀ u ∈ l, id' ≠ 8192 + (u : Int)) : hasM (mvAll S l).1.1 (mvAll S l).1.2.2 id' = hasM S.1 S.2.2 id' := by
  induction l using snoc_ind with
  | h0 => rfl
  | h1 l u ih =>
    rw [mvAll_snoc]
    show hasM (mvS _ _).1 (mvS _ _).2.2 id' = _
    rw [has_mv1 (mvAll_ok h l).1, if_neg fun hh => hn u (by simp) hh.2]
    exact ih fun u hu => hn u (List.mem_append_left _ hu)
theorem filter_take {M k : Nat} (hk : k ≤ M) (p : Nat → Bool) : ((List.range M).filter p).take ((List.range k).filter p).length = (List.range k).filter p := by
  have h : List.range M = List.range k ++ (List.range M).drop k := by
    have := (List.take_append_drop k (List.range M)).symm
    rwa [List.take_range, Nat.min_eq_left hk] at this
  conv => lhs; rw [h, List.filter_append]
  rw [List.take_left']
  rfl
theorem moveAll_t (b b' m : Nat) (S : LS) (h : LsOk S) : Tri P F.lpi_MoveAll [ptrV m, ptrV b, ptrV b'] (lsL b b' m S) fun v L' => v = .int .i64 (mvAll S (waitL S.1 S.2.2)).2 ∧ L' = lsL b b' m (mvAll S (waitL S.1 S.2.2)).1 := by
  intro w Sp hS
  refine lpi_MoveAll_cv ?_
  unfold lpi_MoveAll
  have H := Own.start hS
  have hman := h.ok1.man
  refine alc_o H fun b4 wx H => alc_o H fun b6 wx H => alc_o H fun b8 wx H => alc_o H fun b10 wx H => ?_
  refine st1_o H (by repeat (first | exact Rep.here | apply Rep.there)) (by simp) fun wx H => ?_
  simp only [List.set_cons_zero, List.set_cons_succ] at H
  repeat (first | refine ldI_o H (by repeat (first | exact Pick.here | apply Pick.there)) (by rfl) ?_ | refine ldL_o H (by repeat (first | exact Pick.here | apply Pick.there)) (by rfl) ?_ | refine ldB_o H (by repeat (first | exact Pick.here | apply Pick.there)) (by rfl) ?_ | refine ldP_o H (by repeat (first | exact Pick.here | apply Pick.there)) (by rfl) ?_ | refine ldS_o H (by repeat (first | exact Pick.here | apply Pick.there)) (by rfl) ?_)
  refine call_o H (waiting_t b m) (by repeat (first | exact Cut.nil | (apply Cut.cons; (repeat (first | exact Pick.here | apply Pick.there))))) fun vx L' wx hq H => ?_
  obtain ⟨g3, g5, rfl, rfl⟩ := hq
  unfold waitE at H
  simp only [List.cons_append, List.nil_append] at H
  refine ⟨_, rfl, ?_⟩
  let l := waitL S.1 S.2.2
  have hll : l.length ≤ 512 := waitL_len S.1 S.2.2 h.ok1
  let rows : Nat → List It := fun k => lsL b b' m (mvAll S (l.take k)).1 ++ [row b10 [.int .i64 ((mvAll S (l.take k)).2 : Nat)] T.t3, row b8 [ptrV b'] T.t29, row b6 [ptrV b] T.t29, row b4 [ptrV m] T.t25]
  have H : X.Own w Sp (rows 0 ++ waitE g3 g5 b m) wx := H.drop (by dsimp only [rows]; unfold waitE; simp only [List.cons_append, List.nil_append]; exact (by repeat (first | exact Cut.nil | (apply Cut.cons; (repeat (first | exact Pick.here | apply Pick.there))))))
  have hit := waiting_it g3 g5 b m S.1.many.toNat (by omega) (fun k => hasM S.1 S.2.2 (8192 + (k : Int))) (fun j => ((mvAll S (l.take j)).1.1, (mvAll S (l.take j)).1.2.2))
    (fun j => by show (mvAll S (l.take j)).1.1.many = _; rw [(mvAll_ok h _).2.1]; omega) (fun j => (mvAll_ok h _).1.fit.f) (fun k hk => by
      have e : l.take ((List.range k).filter fun k : Nat => hasM S.1 S.2.2 (8192 + (k : Int))).length = (List.range k).filter fun k : Nat => hasM S.1 S.2.2 (8192 + (k : Int)) := filter_take (by omega) _
      show hasM (mvAll S (l.take _)).1.1 (mvAll S (l.take _)).1.2.2 _ = _
      rw [e]
      refine mvAll_has h _ _ fun u hu => ?_
      have := List.mem_range.1 (List.mem_filter.1 hu).1
      omega)
  unfold waitV
  refine rf_c (fun k Li => Li = rows k) (fun _ _ => False) wait_enters hit (fun k L e => by subst e; exact ⟨_, .cons .here (.cons (.there .here) .nil)⟩) (idsL_len _) H rfl ?_ ?_ ?_
  · rintro k x _ F l2 r d wx Q2 hx rfl H hgo hdone
    obtain ⟨u, hu, rfl⟩ := idsL_at hx
    have hu : l[k]? = some u := hu
    have hnext := mvAll_next (S := S) hu
    have hul : u < S.1.many.toNat := by
      have := List.mem_of_getElem? hu
      exact List.mem_range.1 (List.mem_filter.1 this).1
    have hok := mvAll_ok h (l.take k)
    have hcnt := hok.2.2.2
    rw [List.length_take] at hcnt
    unfold lpi_MoveAll_r1
    dsimp only [X.b1]
    dsimp only [rows] at H
    simp only [List.cons_append, List.nil_append] at H
    refine ⟨_, rfl, rec_o H .here fun wx H => join_o ?_⟩
    repeat (first | refine ldI_o H (by repeat (first | exact Pick.here | apply Pick.there)) (by rfl) ?_ | refine ldL_o H (by repeat (first | exact Pick.here | apply Pick.there)) (by rfl) ?_ | refine ldB_o H (by repeat (first | exact Pick.here | apply Pick.there)) (by rfl) ?_ | refine ldP_o H (by repeat (first | exact Pick.here | apply Pick.there)) (by rfl) ?_ | refine ldS_o H (by repeat (first | exact Pick.here | apply Pick.there)) (by rfl) ?_)
    refine call_o H (move_t b b' m (mvAll S (l.take k)).1 hok.1.fit (8192 + u) (by unfold I64; omega)) (by repeat (first | exact Cut.nil | (apply Cut.cons; (repeat (first | exact Pick.here | apply Pick.there))))) fun vx L' wx hq H => ?_
    obtain ⟨rfl, rfl⟩ := hq
    simp only [List.cons_append, List.nil_append] at H
    refine ⟨_, rfl, ?_⟩
    have fin : ∀ (n : Nat) wx, (mvAll S (l.take (k + 1))) = (mvS (mvAll S (l.take k)).1 (8192 + u), n) → X.Own w Sp (lsL b b' m (mvS (mvAll S (l.take k)).1 (8192 + u)) ++ [recI l2 r .busy none, defI d, row b10 [.int .i64 (n : Nat)] T.t3] ++ (row b8 [ptrV b'] T.t29 :: row b6 [ptrV b] T.t29 :: row b4 [ptrV m] T.t25 :: (waitE g3 g5 b m ++ F))) wx →
        lpi_MoveAll_j0 l2 r Q2 wx := by
      intro n wx he H
      unfold lpi_MoveAll_j0
      simp only [List.cons_append, List.nil_append] at H
      refine rec_o H (by repeat (first | exact Rep.here | apply Rep.there)) fun wx H => hgo (rows (k + 1)) wx rfl ?_
      dsimp only [rows]
      rw [he]
      exact H.perm (L1 := [recI l2 r .ready none, defI d]) (by repeat (first | exact Cut.nil | (apply Cut.cons; (repeat (first | exact Pick.here | apply Pick.there)))))
    refine cnd_i (fun hb => ?_) fun hb => ?_
    · skip
      repeat (first | refine ldI_o H (by repeat (first | exact Pick.here | apply Pick.there)) (by rfl) ?_ | refine ldL_o H (by repeat (first | exact Pick.here | apply Pick.there)) (by rfl) ?_ | refine ldB_o H (by repeat (first | exact Pick.here | apply Pick.there)) (by rfl) ?_ | refine ldP_o H (by repeat (first | exact Pick.here | apply Pick.there)) (by rfl) ?_ | refine ldS_o H (by repeat (first | exact Pick.here | apply Pick.there)) (by rfl) ?_)
      refine st1_o H (by repeat (first | exact Rep.here | apply Rep.there)) (by simp) fun wx H => ?_
      simp only [List.set_cons_zero, List.set_cons_succ] at H
      rw [W_id (by omega) (by omega)] at H
      refine fin ((mvAll S (l.take k)).2 + 1) _ ?_ ?_
      · rw [hnext]; unfold mvA; rw [if_pos hb]
      · push_cast; exact H
    · refine fin ((mvAll S (l.take k)).2) _ ?_ H
      rw [hnext]; unfold mvA; rw [if_neg (by rw [hb]; decide)]
  · rintro d _ wx rfl H
    dsimp only [jmpX]
    dsimp only [rows] at H
    rw [idsL_length] at H
    have e : l.take ((List.range S.1.many.toNat).filter fun k : Nat => hasM S.1 S.2.2 (8192 + (k : Int))).length = waitL S.1 S.2.2 := List.take_length
    rw [e] at H
    simp only [List.cons_append, List.nil_append] at H
    repeat (first | refine ldI_o H (by repeat (first | exact Pick.here | apply Pick.there)) (by rfl) ?_ | refine ldL_o H (by repeat (first | exact Pick.here | apply Pick.there)) (by rfl) ?_ | refine ldB_o H (by repeat (first | exact Pick.here | apply Pick.there)) (by rfl) ?_ | refine ldP_o H (by repeat (first | exact Pick.here | apply Pick.there)) (by rfl) ?_ | refine ldS_o H (by repeat (first | exact Pick.here | apply Pick.there)) (by rfl) ?_)
    refine take_o H (by repeat (first | exact Pick.here | apply Pick.there)) fun wx H => ?_
    exact ⟨_, ⟨rfl, rfl⟩, H.drop (by repeat (first | exact Cut.nil | (apply Cut.cons; (repeat (first | exact Pick.here | apply Pick.there)))))⟩
  · rintro d c _ wx hD H
    exact hD.elim
theorem moveAll_self_t (b m : Nat) (s : Lp) (bs : List Int) (hok : s.Ok) (hf : s.Fit bs.length) : Tri P F.lpi_MoveAll [ptrV m, ptrV b, ptrV b] [lpI b s, memI m bs] fun v L' => v = .int .i64 0 ∧ L' = [lpI b s, memI m bs] := by
  intro w Sp hS
  refine lpi_MoveAll_cv ?_
  unfold lpi_MoveAll
  have H := Own.start hS
  refine alc_o H fun b4 wx H => alc_o H fun b6 wx H => alc_o H fun b8 wx H => alc_o H fun b10 wx H => ?_
  refine st1_o H (by repeat (first | exact Rep.here | apply Rep.there)) (by simp) fun wx H => ?_
  simp only [List.set_cons_zero, List.set_cons_succ] at H
  repeat (first | refine ldI_o H (by repeat (first | exact Pick.here | apply Pick.there)) (by rfl) ?_ | refine ldL_o H (by repeat (first | exact Pick.here | apply Pick.there)) (by rfl) ?_ | refine ldB_o H (by repeat (first | exact Pick.here | apply Pick.there)) (by rfl) ?_ | refine ldP_o H (by repeat (first | exact Pick.here | apply Pick.there)) (by rfl) ?_ | refine ldS_o H (by repeat (first | exact Pick.here | apply Pick.there)) (by rfl) ?_)
  refine call_o H (waiting_t b m) (by repeat (first | exact Cut.nil | (apply Cut.cons; (repeat (first | exact Pick.here | apply Pick.there))))) fun vx L' wx hq H => ?_
  obtain ⟨g3, g5, rfl, rfl⟩ := hq
  unfold waitE at H
  simp only [List.cons_append, List.nil_append] at H
  refine ⟨_, rfl, ?_⟩
  have hman := hok.man
  let rows : List It := [lpI b s, memI m bs, row b10 [.int .i64 0] T.t3, row b8 [ptrV b] T.t29, row b6 [ptrV b] T.t29, row b4 [ptrV m] T.t25]
  have H : X.Own w Sp (rows ++ waitE g3 g5 b m) wx := H.drop (by dsimp only [rows]; unfold waitE; simp only [List.cons_append, List.nil_append]; exact (by repeat (first | exact Cut.nil | (apply Cut.cons; (repeat (first | exact Pick.here | apply Pick.there))))))
  unfold waitV
  refine rf_c (fun k Li => Li = rows) (fun _ _ => False) wait_enters (waiting_it0 g3 g5 b m s bs hok hf) (fun k L e => by subst e; exact ⟨_, .cons .here (.cons .here .nil)⟩) (idsL_len _) H rfl ?_ ?_ ?_
  · rintro k x _ F l2 r d wx Q2 hx rfl H hgo hdone
    obtain ⟨u, hu, rfl⟩ := idsL_at hx
    unfold lpi_MoveAll_r1
    dsimp only [X.b1]
    dsimp only [rows] at H
    simp only [List.cons_append, List.nil_append] at H
    refine ⟨_, rfl, rec_o H .here fun wx H => join_o ?_⟩
    repeat (first | refine ldI_o H (by repeat (first | exact Pick.here | apply Pick.there)) (by rfl) ?_ | refine ldL_o H (by repeat (first | exact Pick.here | apply Pick.there)) (by rfl) ?_ | refine ldB_o H (by repeat (first | exact Pick.here | apply Pick.there)) (by rfl) ?_ | refine ldP_o H (by repeat (first | exact Pick.here | apply Pick.there)) (by rfl) ?_ | refine ldS_o H (by repeat (first | exact Pick.here | apply Pick.there)) (by rfl) ?_)
    refine call_p H (move_self_t b m (8192 + u)) .nil fun wx H => ?_
    refine ⟨_, rfl, cnd_i (fun h => by cases h) fun _ => ?_⟩
    unfold lpi_MoveAll_j0
    exact rec_o H (by repeat (first | exact Rep.here | apply Rep.there)) fun wx H => hgo rows wx rfl H
  · rintro d _ wx rfl H
    dsimp only [jmpX]
    dsimp only [rows] at H
    simp only [List.cons_append, List.nil_append] at H
    repeat (first | refine ldI_o H (by repeat (first | exact Pick.here | apply Pick.there)) (by rfl) ?_ | refine ldL_o H (by repeat (first | exact Pick.here | apply Pick.there)) (by rfl) ?_ | refine ldB_o H (by repeat (first | exact Pick.here | apply Pick.there)) (by rfl) ?_ | refine ldP_o H (by repeat (first | exact Pick.here | apply Pick.there)) (by rfl) ?_ | refine ldS_o H (by repeat (first | exact Pick.here | apply Pick.there)) (by rfl) ?_)
    refine take_o H (by repeat (first | exact Pick.here | apply Pick.there)) fun wx H => ?_
    exact ⟨_, ⟨rfl, rfl⟩, H.drop (by repeat (first | exact Cut.nil | (apply Cut.cons; (repeat (first | exact Pick.here | apply Pick.there)))))⟩
  · rintro d c _ wx hD H
    exact hD.elim
end Go.Proofs.YtgjddhpblpfneaaDoor
