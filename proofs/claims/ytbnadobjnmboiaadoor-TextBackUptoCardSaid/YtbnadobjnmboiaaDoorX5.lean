/-
  E, part 5: the other operations.
-/
import Derived.Test.YtbnadobjnmboiaaDoorX4
namespace Go.Proofs.YtbnadobjnmboiaaDoor.X
open Go
set_option linter.unusedVariables false
set_option linter.unusedSimpArgs false
variable {P : Program} {w : World}

theorem cvX_out {s d : TypeId} {x : Value} {K : Value → World → Prop} (h : cvX P s d x w K) : ∃ v w', (Go.convert s d x).run P w = .ok v w' ∧ K v w' := by
  unfold cvX at h
  split at h
  · rename_i k hd
    split at h
    · rename_i us hs
      cases x <;> simp only at h <;> try exact h.elim
      refine ⟨_, _, ?_, h⟩
      simp only [Go.convert, Sem.run_bind, underlying_run hs, underlying_run hd, Result.andThen_ok]
      cases us <;> simp [Conv.intToInt]
    · exact h.elim
  · rename_i hd
    split at h
    · rename_i hs
      cases x <;> simp only at h <;> try exact h.elim
      refine ⟨_, _, ?_, h⟩
      simp only [Go.convert, Sem.run_bind, underlying_run hs, underlying_run hd, Result.andThen_ok]
      simp
    · rename_i e hs
      split at h
      · rename_i he
        cases x <;> simp only at h <;> try exact h.elim
        obtain ⟨b, h1, h2⟩ := h
        refine ⟨_, _, ?_, h2⟩
        simp only [Go.convert, Sem.run_bind, underlying_run hs, underlying_run hd, underlying_run he, Result.andThen_ok, h1]
      · exact h.elim
    · exact h.elim
  · obtain ⟨p, n, c, w', h1, h2⟩ := h
    exact ⟨_, _, h1, h2⟩
  · exact h.elim

/-! ### Slicing -/
theorem sliceBound_run {k : IntKind} {i : Int} {y : Nat} {code : BoundsCode} (h : 0 ≤ i ∧ i ≤ y) : (Instr.sliceBound (.int k i) y code).run P w = .ok i.toNat w := by
  simp [Instr.sliceBound, asIntOf, h]
theorem slB_run {n c : Nat} {lo hi mx : Option Value} {lo' hi' mx' : Option Int} {K : Nat → Nat → Nat → Prop} (b : Bool)
    (hlo : ∀ v, lo = some v → ∃ k i, v = .int k i ∧ lo' = some i) (hlo' : lo = none → lo' = none)
    (hhi : ∀ v, hi = some v → ∃ k i, v = .int k i ∧ hi' = some i) (hhi' : hi = none → hi' = none)
    (hmx : ∀ v, mx = some v → ∃ k i, v = .int k i ∧ mx' = some i) (hmx' : mx = none → mx' = none)
    (hnm : ¬ (hi' = none ∧ mx'.isSome)) (h : slB n c lo' hi' mx' K) :
    ∃ l hh m, (Instr.sliceBounds b n c lo hi mx).run P w = .ok (l, hh, m) w ∧ K l hh m := by
  obtain ⟨h1, h2, h3, h4⟩ := h
  refine ⟨_, _, _, ?_, h4⟩
  have hm : (mx = none ∧ mx' = none) ∨ ∃ k i, mx = some (.int k i) ∧ mx' = some i := by
    cases mx with
    | none => exact .inl ⟨rfl, hmx' rfl⟩
    | some v => obtain ⟨k, i, rfl, e⟩ := hmx v rfl; exact .inr ⟨k, i, rfl, e⟩
  have hh : (hi = none ∧ hi' = none) ∨ ∃ k i, hi = some (.int k i) ∧ hi' = some i := by
    cases hi with
    | none => exact .inl ⟨rfl, hhi' rfl⟩
    | some v => obtain ⟨k, i, rfl, e⟩ := hhi v rfl; exact .inr ⟨k, i, rfl, e⟩
  have hl : (lo = none ∧ lo' = none) ∨ ∃ k i, lo = some (.int k i) ∧ lo' = some i := by
    cases lo with
    | none => exact .inl ⟨rfl, hlo' rfl⟩
    | some v => obtain ⟨k, i, rfl, e⟩ := hlo v rfl; exact .inr ⟨k, i, rfl, e⟩
  clear hlo hlo' hhi hhi' hmx hmx'
  unfold Instr.sliceBounds
  rcases hm with ⟨rfl, rfl⟩ | ⟨km, im, rfl, rfl⟩ <;> rcases hh with ⟨rfl, rfl⟩ | ⟨kh, ih, rfl, rfl⟩ <;> rcases hl with ⟨rfl, rfl⟩ | ⟨kl, il, rfl, rfl⟩ <;>
    first
    | (exact absurd ⟨rfl, rfl⟩ hnm)
    | (simp only [Option.map_none, Option.map_some, Option.getD_none, Option.getD_some, Sem.run_bind, Sem.run_pure, Result.andThen_ok] at *
       (try rw [sliceBound_run (h1 _ rfl)])
       (try simp only [Result.andThen_ok])
       (try rw [sliceBound_run (h2 _ rfl)])
       (try simp only [Result.andThen_ok])
       (try rw [sliceBound_run (h3 _ rfl)])
       (try simp only [Result.andThen_ok]))
theorem evO_out {pa : PF} {a : Act} (hle : pa.le a) {x : Option Operand} {K : Option Int → Prop} (h : evO pa.t x K) :
    ∃ o, K o ∧ (∀ v, x.map a.eval = some v → ∃ k i, v = .int k i ∧ o = some i) ∧ (x.map a.eval = none → o = none) := by
  cases x with
  | none => exact ⟨none, h, by simp, fun _ => rfl⟩
  | some x =>
    obtain ⟨v, h1, h2⟩ := evK_out (K := fun v => match v with | .int _ n => K (some n) | _ => False) h
    have := ev_sound hle h1
    cases v <;> simp only at h2
    exact ⟨_, h2, by simp [this], by simp⟩
theorem slX_out {ty : TypeId} {v : Value} {lo hi mx : Option Value} {lo' hi' mx' : Option Int} {K : Value → World → Prop}
    (hlo : ∀ v, lo = some v → ∃ k i, v = .int k i ∧ lo' = some i) (hlo' : lo = none → lo' = none)
    (hhi : ∀ v, hi = some v → ∃ k i, v = .int k i ∧ hi' = some i) (hhi' : hi = none → hi' = none)
    (hmx : ∀ v, mx = some v → ∃ k i, v = .int k i ∧ mx' = some i) (hmx' : mx = none → mx' = none)
    (h : slX P ty v lo' hi' mx' w K) : ∃ v' w', (Instr.sliceAt ty v lo hi mx).run P w = .ok v' w' ∧ K v' w' := by
  unfold slX at h
  split at h
  · rename_i e hu
    cases v <;> simp only at h <;> try exact h.elim
    rename_i p n c
    have h' : ¬ (hi' = none ∧ mx'.isSome) ∧ (P.info? e).isSome = true ∧ slL p n c (sizeT P e) lo' hi' mx' (fun p n c => K (.slice p n c) w) := by
      cases hi' <;> cases mx' <;> simp only at h <;> first | exact h.elim | (obtain ⟨a, b⟩ := ite_out h; exact ⟨by simp, a, b⟩)
    obtain ⟨hn, hi, h⟩ := h'
    obtain ⟨l, hh, m, h1, h2⟩ := slB_run (P := P) (w := w) true hlo hlo' hhi hhi' hmx hmx' hn h
    refine ⟨_, _, ?_, h2⟩
    have hr := underlying_run (P := P) (w := w) hu
    simp only [Instr.sliceAt, Instr.slice, Sem.run_bind, hr, Result.andThen_ok, h1, sizeOf_run P e w hi, Sem.run_pure]
  · rename_i hu
    cases v <;> (try (simp only at h; done)) <;> (try exact h.elim)
    rename_i s
    cases mx' with
    | some _ => exact h.elim
    | none =>
      have hmn : mx = none := by
        cases mx with
        | none => rfl
        | some v => obtain ⟨k, i, _, e⟩ := hmx v rfl; cases e
      subst hmn
      obtain ⟨l, hh, m, h1, h2⟩ := slB_run (P := P) (w := w) false hlo hlo' hhi hhi' hmx hmx' (by simp) h
      refine ⟨_, _, ?_, h2⟩
      have hr := underlying_run (P := P) (w := w) hu
      simp only [Instr.sliceAt, Instr.slice, Sem.run_bind, hr, Result.andThen_ok, h1, Option.isSome_none, Bool.false_eq_true, if_false, Sem.run_pure]
  · rename_i n e hu
    cases v <;> simp only at h <;> try exact h.elim
    rename_i p
    obtain ⟨a, rfl, h⟩ := nn_out h
    have h' : ¬ (hi' = none ∧ mx'.isSome) ∧ (P.info? e).isSome = true ∧ slL (some a) n n (sizeT P e) lo' hi' mx' (fun p n c => K (.slice p n c) w) := by
      cases hi' <;> cases mx' <;> simp only at h <;> first | exact h.elim | (obtain ⟨a, b⟩ := ite_out h; exact ⟨by simp, a, b⟩)
    obtain ⟨hn, hi, h⟩ := h'
    obtain ⟨l, hh, m, h1, h2⟩ := slB_run (P := P) (w := w) false hlo hlo' hhi hhi' hmx hmx' hn h
    refine ⟨_, _, ?_, h2⟩
    have hr := underlying_run (P := P) (w := w) hu
    simp only [Instr.sliceAt, Sem.run_bind, hr, Result.andThen_ok, Instr.sureAddr, h1, sizeOf_run P e w hi, Sem.run_pure]
    split <;> simp_all
  · exact h.elim

/-! ### Building -/
theorem setAll_eq (vs : List Value) : ∀ (off : Nat) (cs : Array Value) (k : Nat), (vs.toArray.zipIdx k).foldl (fun cs (c, j) => cs.setIfInBounds (off + j) c) cs = (setAll (off + k) vs cs.toList).toArray := by
  induction vs with
  | nil => intro off cs k; rfl
  | cons v r ih =>
    intro off cs k
    have : ((v :: r).toArray.zipIdx k) = #[(v, k)] ++ (r.toArray.zipIdx (k + 1)) := by
      apply Array.toList_inj.1; simp
    rw [this, Array.foldl_append]
    simp only [List.foldl_toArray, List.foldl_cons, List.foldl_nil]
    rw [ih off _ (k + 1)]
    simp only [setAll, Array.toList_setIfInBounds, Nat.add_assoc]
theorem setAll_length (vs : List Value) : ∀ (off : Nat) (cs : List Value), (setAll off vs cs).length = cs.length := by
  induction vs with
  | nil => intro _ _; rfl
  | cons v r ih => intro off cs; simp [setAll, ih]
theorem fill_eq (place : Nat → Option (Nat × Nat)) : ∀ (parts : List (Nat × Value)) (cs : List Value) (out : List Value), fillX place cs parts = some out → Instr.fill place cs.toArray parts = some out.toArray := by
  intro parts
  induction parts with
  | nil => intro cs out h; simp only [fillX, Option.some.injEq] at h; subst h; rfl
  | cons x r ih =>
    obtain ⟨i, v⟩ := x
    intro cs out h
    simp only [fillX] at h
    simp only [Instr.fill]
    cases hp : place i with
    | none => rw [hp] at h; cases h
    | some os =>
      obtain ⟨off, size⟩ := os
      rw [hp] at h
      simp only at h ⊢
      split at h
      · cases h
      · rename_i hc
        have hc' : ¬ (v.cells.size ≠ size || off + v.cells.size > cs.toArray.size) = true := by
          rw [cellsL_eq] at hc; simpa using hc
        rw [if_neg hc']
        have h2 := ih _ _ h
        rw [← h2]
        congr 1
        have := setAll_eq v.cells.toList off cs.toArray 0
        rw [cellsL_eq]
        simpa using this
theorem mapM_run {α β : Type} (f : α → Sem β) (g : α → β) (xs : List α) (h : ∀ x ∈ xs, (f x).run P w = .ok (g x) w) : (xs.mapM f).run P w = .ok (xs.map g) w := by
  induction xs with
  | nil => rfl
  | cons x r ih =>
    rw [List.mapM_cons, Sem.run_bind, h x (by simp)]
    simp only [Result.andThen_ok, Sem.run_bind, ih (fun y hy => h y (by simp [hy])), Sem.run_pure, List.map_cons]
theorem build_out {ty : TypeId} {parts : List (Nat × Value)} {cs : List Value} (h : buildX P ty parts = some cs) : (Instr.build ty parts.toArray).run P w = .ok (.agg cs.toArray) w := by
  unfold buildX at h
  split at h
  · cases h
  · rename_i z hz
    obtain ⟨zv, hz1, hz2⟩ := zeroC_run hz w
    split at h
    · rename_i fs hu
      split at h
      · rename_i hall
        have hr := underlying_run (P := P) (w := w) hu
        have hm : (fs.mapM fun f => (do pure (f.offset, ← sizeOf f.type) : Sem (Nat × Nat))).run P w = .ok (fs.map fun f => (f.offset, sizeT P f.type)) w := by
          rw [Array.mapM_eq_mapM_toList, Sem.run_map, mapM_run _ (fun f => (f.offset, sizeT P f.type))]
          · simp only [Result.andThen_ok]; congr 1; apply Array.toList_inj.1; simp
          · intro f hf
            have := List.all_eq_true.1 hall f hf
            simp only [Sem.run_bind, sizeOf_run P f.type w (by simpa using this), Result.andThen_ok, Sem.run_pure]
        have hf := fill_eq _ _ _ _ h
        have hp : (fun i : Nat => (fs.map fun f => (f.offset, sizeT P f.type))[i]?) = fun i => (fs.toList[i]?).map fun f => (f.offset, sizeT P f.type) := by
          funext i; simp
        simp only [Instr.build, Sem.run_bind, hz1, Result.andThen_ok, hr, hm, hz2, hp, hf, Sem.run_pure]
      · cases h
    · rename_i n e hu
      split at h
      · rename_i hi
        have hr := underlying_run (P := P) (w := w) hu
        have hf := fill_eq _ _ _ _ h
        simp only [Instr.build, Sem.run_bind, hz1, Result.andThen_ok, hr, sizeOf_run P e w hi, hz2, hf, Sem.run_pure]
      · cases h
    · cases h
theorem buildS_out {ty e : TypeId} {len : Nat} {parts : List (Nat × Value)} {cs : List Value} (hu : P.underlying ty = some (.slice e)) (h : buildSX P e len parts = some cs) :
    (Instr.buildSlice ty len parts.toArray).run P w = .ok (.slice (some ⟨w.heap.size, 0, none⟩) len len) (w.alloc (.cells cs.toArray e)) := by
  unfold buildSX at h
  split at h
  · rename_i h0
    split at h
    · cases h
    · rename_i hi
      have hi : (P.info? e).isSome := by cases hx : P.info? e <;> simp_all
      have hr := underlying_run (P := P) (w := w) hu
      cases parts with
      | cons x r => cases h
      | nil =>
        cases h
        simp only [Instr.buildSlice, Sem.run_bind, hr, Result.andThen_ok, sizeOf_run P e w hi, h0, if_neg (show ¬ 0 > 2 ^ 24 by omega), if_true, Sem.run_pure, Sem.run_ite]
        simp only [List.toArray, Instr.fill]
        have e0 : (Array.map (fun x => (default : Value)) (Array.range 0)) = #[] := by apply Array.toList_inj.1; simp
        simp [Instr.fill, run_newRow, e0]
  split at h
  · cases h
  · rename_i hc
    split at h
    · cases h
    · rename_i z hz
      split at h
      · cases h
      · rename_i hzl
        obtain ⟨zv, hz1, hz2⟩ := zeroC_run hz w
        simp only [Bool.or_eq_true, decide_eq_true_eq, not_or] at hc
        obtain ⟨⟨hc1, hc2⟩, hc3⟩ := hc
        have hi : (P.info? e).isSome := by cases hx : P.info? e <;> simp_all
        have hr := underlying_run (P := P) (w := w) hu
        have hf := fill_eq _ _ _ _ h
        have hzz : ((Array.range (len * sizeT P e)).map (z.toArray[· % z.toArray.size]!)) = (zerosL z (len * sizeT P e)).toArray := by
          apply Array.toList_inj.1
          simp only [Array.toList_map, Array.toList_range, zerosL, List.size_toArray]
          apply List.map_congr_left
          intro i hi
          have hz0 : 0 < z.length := by
            rcases Nat.eq_zero_or_pos z.length with h0 | h0
            · exfalso; apply hc3; have : sizeT P e = 0 := by omega
              simp [this]
            · exact h0
          have hm : i % z.length < z.length := Nat.mod_lt _ hz0
          simp [List.getD_eq_getElem?_getD, hm, getElem!_pos]
        simp only [Instr.buildSlice, Sem.run_bind, hr, Result.andThen_ok, sizeOf_run P e w hi, if_neg hc2, if_neg hc3, hz1, hz2, Sem.run_pure, hzz, hf, run_newRow, Sem.run_ite]
theorem partX_out {t : TypeId} {cs : Array Value} {off : Nat} {K : Value → Prop} (h : partX P t cs.toList off K) : ∃ v, (part t cs off).run P w = .ok v w ∧ K v := by
  unfold partX at h
  split at h
  · exact h.elim
  rename_i hu
  have hu : (P.underlying t).isSome := by cases hx : P.underlying t <;> simp_all
  have ha := isAgg_run' P t w hu
  obtain ⟨d, hd⟩ := Option.isSome_iff_exists.1 hu
  obtain ⟨i, hi⟩ := info_of_underlying hd
  split at h
  · rename_i hb
    refine ⟨_, ?_, h⟩
    simp only [part, Sem.run_bind, ha, hb, Result.andThen_ok, if_true, sizeOf_run P t w (by simp [hi]), Sem.run_pure]
    congr 2
    apply Array.toList_inj.1
    simp [List.take_drop]
    try (congr 1; omega)
  · rename_i hb
    split at h
    · rename_i v hv
      refine ⟨v, ?_, h⟩
      have hv' : cs[off]? = some v := by
        have : ∀ (l : List Value) (n : Nat), nthL l n = l[n]? := by
          intro l; induction l with
          | nil => intro n; rfl
          | cons x r ih => intro n; cases n <;> simp [nthL, ih]
        rw [this] at hv; simpa using hv
      simp only [part, Sem.run_bind, ha, hb, Result.andThen_ok, Bool.false_eq_true, if_false, hv', Sem.run_pure]
    · exact h.elim
theorem nthL_eq (l : List Value) : ∀ n, nthL l n = l[n]? := by
  induction l with
  | nil => intro n; rfl
  | cons x r ih => intro n; cases n <;> simp [nthL, ih]
theorem elX_out {t : TypeId} {cs : Array Value} {off : Nat} {K : Value → Prop} (h : elX P t cs.toList off K) : ∃ v, (part t cs off).run P w = .ok v w ∧ ∃ u, v = u ∧ isT P t u K := by
  unfold elX at h
  split at h
  · exact h.elim
  rename_i hu
  have hu : (P.underlying t).isSome := by cases hx : P.underlying t <;> simp_all
  have ha := isAgg_run' P t w hu
  split at h
  · exact h.elim
  · rename_i hb
    obtain ⟨v, h1, h2⟩ := h
    refine ⟨v, ?_, v, rfl, h2⟩
    have hv' : cs[off]? = some v := by simpa using h1
    simp only [part, Sem.run_bind, ha, hb, Result.andThen_ok, Bool.false_eq_true, if_false, hv', Sem.run_pure]
end Go.Proofs.YtbnadobjnmboiaaDoor.X
