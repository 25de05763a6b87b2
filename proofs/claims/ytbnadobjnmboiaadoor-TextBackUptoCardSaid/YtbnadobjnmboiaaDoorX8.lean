/-
  E, part 8: code and functions: 'CV_of': a function's call, out of its body's word.
-/
import Derived.Test.YtbnadobjnmboiaaDoorXD
namespace Go.Proofs.YtbnadobjnmboiaaDoor.X
open Go
set_option linter.unusedVariables false
set_option linter.unusedSimpArgs false
variable {P : Program} {ann : Nat → Option LoopSpec}

theorem recAt_get {w : World} {l : Nat} {r : Loop} {st : LoopState} {j : Option Code} (h : recAt w l r st j) : (Instr.getLoop l).run P w = .ok { r with state := st, pending := j } w := by
  have hg : (getObj l).run P w = .ok (.loop { r with state := st, pending := j }) w := by
    unfold recAt at h; simp [getObj, Sem.run, h]
  simp only [Instr.getLoop, Sem.run_bind, hg, Result.andThen_ok, Sem.run_pure]
theorem recAt_set {w : World} {l : Nat} {r r' : Loop} {st : LoopState} {j : Option Code} (h : recAt w l r st j) : (setObj l (.loop r')).run P w = .ok () (w.putObj l (.loop r')) := by
  unfold recAt at h; simp [setObj, Sem.run, h, World.putObj]
theorem begin_run {w : World} {l : Nat} {r : Loop} (h : recAt w l r .ready none) : (Instr.beginRound l).run P w = .ok () (w.putObj l (.loop { r with state := .busy, pending := none })) := by
  simp only [Instr.beginRound, Sem.run_bind, recAt_get h, Result.andThen_ok, recAt_set h, Sem.run_pure]
theorem endRound_run {w : World} {l : Nat} {r : Loop} {j : Option Code} (h : recAt w l r .busy none) :
    (Instr.endRound l j).run P w = .ok (.bool j.isNone) (w.putObj l (.loop { r with state := if j.isNone then .ready else .done, pending := j })) := by
  simp only [Instr.endRound, Sem.run_bind, recAt_get h, Result.andThen_ok, recAt_set h, Sem.run_pure]
theorem endLoop_run {w : World} {l : Nat} {r : Loop} {st : LoopState} {j : Option Code} (h : recAt w l r st j) (hs : st ≠ .busy) :
    (Instr.endLoop l).run P w = .ok j (w.putObj l (.loop { r with state := .exhausted, pending := j })) := by
  have : (st == LoopState.busy) = false := by cases st <;> first | rfl | exact absurd rfl hs
  simp only [Instr.endLoop, Sem.run_bind, recAt_get h, Result.andThen_ok, this, Bool.false_eq_true, if_false, recAt_set h, Sem.run_pure]
theorem parX_le : ∀ (ps : List Tmp) (vs : List Value) (n : Nat) (t : List En) (tm : Array Value), ps.length = vs.length →
    (n = tm.size ∧ ∀ (i : Nat) (v : Value), getL t i = some v → tm[i]? = some v) →
    n = ((ps.zip vs).foldl (fun (tmps : Array Value) (x : Tmp × Value) => tmps.setIfInBounds x.1 x.2) tm).size ∧
    ∀ (i : Nat) (v : Value), getL (parX n ps vs t) i = some v → ((ps.zip vs).foldl (fun (tmps : Array Value) (x : Tmp × Value) => tmps.setIfInBounds x.1 x.2) tm)[i]? = some v := by
  intro ps
  induction ps with
  | nil => intro vs n t tm h h2; cases vs <;> simpa [parX] using h2
  | cons p r ih =>
    intro vs n t tm h h2
    cases vs with
    | nil => simp at h
    | cons v vr =>
      simp only [parX, List.zip_cons_cons, List.foldl_cons]
      exact ih vr n _ _ (by simpa using h) (le_set h2.1 h2.2 p v)
/-- the least measure of a state that a frame may be read as -/
theorem least {α : Type} (μ : α → Nat) (p : α → Prop) (h : ∃ x, p x) : ∃ x, p x ∧ ∀ y, p y → μ x ≤ μ y := by
  obtain ⟨x, hx⟩ := h
  generalize hn : μ x = n
  induction n using Nat.strongRecOn generalizing x with
  | _ n ih =>
    by_cases hy : ∃ y, p y ∧ μ y < n
    · obtain ⟨y, h1, h2⟩ := hy; exact ih _ h2 y h1 rfl
    · exact ⟨x, hx, fun y h1 => by rw [hn]; exact Nat.le_of_not_lt fun h2 => hy ⟨y, h1, h2⟩⟩
noncomputable def leastM {α : Type} (μ : α → Nat) (p : α → Prop) : Nat := open Classical in if h : ∃ x, p x then μ (least μ p h).choose else 0
theorem leastM_eq {α : Type} (μ : α → Nat) (p : α → Prop) (h : ∃ x, p x) : ∃ x, p x ∧ leastM μ p = μ x := by
  refine ⟨(least μ p h).choose, (least μ p h).choose_spec.1, ?_⟩
  unfold leastM; rw [dif_pos h]
theorem leastM_le {α : Type} (μ : α → Nat) (p : α → Prop) {y : α} (hy : p y) : leastM μ p ≤ μ y := by
  unfold leastM; rw [dif_pos ⟨y, hy⟩]
  exact (least μ p ⟨y, hy⟩).choose_spec.2 y hy

theorem loop_wp {ro : Option Nat} {b : Code} {S : Type} (fr : S → PF) (I : S → World → Prop) (μ : S → World → Nat) {Q : Exit → Act → World → Prop} {s0 : S} {a : Act} {w : World}
    (h0 : I s0 w) (hle0 : (fr s0).le a)
    (hb : ∀ s a w, I s w → (fr s).le a → b.wpIn (fen ro) 0 P (fun e a' w' => match e with | .normal => ∃ s', (fr s').le a' ∧ I s' w' ∧ μ s' w' < μ s w | e => Q e a' w') a w) :
    (Code.loop b).wpIn (fen ro) 0 P Q a w := by
  refine wpIn_loop (fun (a : Act) (w : World) => ∃ s, (fr s).le a ∧ I s w) (fun (a : Act) (w : World) => @leastM S (fun s => μ s w) (fun s => (fr s).le a ∧ I s w)) ⟨s0, hle0, h0⟩ ?_
  intro a w hI
  obtain ⟨s, ⟨h1, h2⟩, h3⟩ := @leastM_eq S (fun s => μ s w) (fun s => (fr s).le a ∧ I s w) hI
  refine wpIn_mono (hb s a w h2 h1) ?_
  intro e a' w' he
  cases e with
  | normal =>
    obtain ⟨s', h4, h5, h6⟩ := he
    refine ⟨⟨s', h4, h5⟩, ?_⟩
    rw [h3]
    exact Nat.lt_of_le_of_lt (@leastM_le S (fun s => μ s w') (fun s => (fr s).le a' ∧ I s w') s' ⟨h4, h5⟩) h6
  | _ => exact he

theorem heap_alloc1 (w : World) (o : Obj) : (w.alloc o).heap[w.heap.size]? = some o := Array.getElem?_push_size
theorem heap_alloc2 (w : World) (o1 o2 : Obj) : ((w.alloc o1).alloc o2).heap[w.heap.size + 1]? = some o2 := by
  have := heap_alloc1 (w.alloc o1) o2
  rwa [World.size_alloc] at this
theorem parsX_out {n : Nat} {ps : List Tmp} {assign : Code} {vs : List Value} {t : List En} {K : List En → Prop} (h : parsX P n ps assign vs t K) : K (parX n ps vs t) := by
  have ty : ∀ {o : Option TypeId} {v : Value} {K : Value → Prop}, typed P o v K → K v := by
    intro o v K h; cases o with
    | none => exact h
    | some t => exact isT_out h
  unfold parsX at h
  split at h
  · unfold b0 at h; split at h
    · exact h
    · exact h.elim
  · unfold b1 at h; split at h
    · exact ty h
    · exact h.elim
  · unfold b2 at h; split at h
    · exact ty (ty h)
    · exact h.elim
  · exact h.elim
theorem xsX_out {ids : List Nat} {id : Nat} {K : Nat → Prop} (h : xsX ids id K) : K id := by
  induction ids with
  | nil => exact h.elim
  | cons i r ih =>
    by_cases e : id = i
    · rw [e]; exact h.1 e
    · exact ih (h.2 e)
theorem callFn_out {g : Value} {vs : List Value} {w : World} {Q : Value → World → Prop} (h : callFn P g vs w Q) :
    ∃ f first cap fn, g = .func (.func f) first cap ∧ P.funcs[f]? = some fn ∧ fn.body.isSome = true ∧ (fn.name == "runtime.NumGoroutine") = false ∧ CV P f (first.toList ++ vs ++ cap.toList) w Q := by
  unfold callFn at h
  split at h
  · split at h
    · split at h
      · rename_i hen
        obtain ⟨fn, h1, h2, h3⟩ := enters_out hen
        exact ⟨_, _, _, fn, rfl, h1, h2, h3, h⟩
      · exact h.elim
    · exact h.elim
  · exact h.elim
/-- the frame where ways meet again -/
theorem join_out {L : LoopSpec} {rf0 : Bool} {asg0 asg : List Nat} {rf : Bool} {pa0 pa : PF} {X : (PF → World → Prop) → Prop} {Y : PF → World → Prop}
    (hk : Keep asg rf pa0 pa) (ha : ∀ i ∈ asg0, i ∈ asg) (hr : rf0 = true → rf = true) (h : joinX L rf0 asg0 pa X Y) :
    ∃ J : PF → World → Prop, X J ∧ ∀ pa' a' w', pa'.le a' → Keep asg0 rf0 pa pa' → J pa' w' → ∃ ph, ph.le a' ∧ Keep asg rf pa0 ph ∧ Y ph w' := by
  unfold joinX at h
  split at h
  · exact h.elim
  rename_i hs
  have hs : L.slots.all asg0.contains = true := by simpa using hs
  split at h
  · refine ⟨_, h, fun pa' a' w' hle' hk' hJ => ?_⟩
    split at hJ
    · rename_i s he
      refine ⟨_, head_le he hle' hk'.2.2 hk'.1 _ (hk'.2.1 rfl).symm, ⟨fun i hi => ?_, hk.2.1, hk.2.2⟩, hJ⟩
      show getL (overL (L.emb s) (clearL asg0 pa.t)) i = _
      rw [head_keep hs pa s i (fun hx => hi (ha i hx))]; exact hk.1 i hi
    · exact hJ.elim
  · refine ⟨_, h, fun pa' a' w' hle' hk' hJ => ?_⟩
    split at hJ
    · rename_i s he
      refine ⟨_, head_le he hle' hk'.2.2 hk'.1 pa'.ds rfl, ⟨fun i hi => ?_, fun e => (by rw [hr rfl] at e; cases e), hk.2.2⟩, hJ⟩
      show getL (overL (L.emb s) (clearL asg0 pa.t)) i = _
      rw [head_keep hs pa s i (fun hx => hi (ha i hx))]; exact hk.1 i hi
    · exact hJ.elim
theorem keep_trans {asg0 asg : List Nat} {rf0 rf : Bool} {pa0 pa pa' : PF} (hk : Keep asg rf pa0 pa) (ha : ∀ i ∈ asg0, i ∈ asg) (hr : rf0 = true → rf = true) (h : Keep asg0 rf0 pa pa') : Keep asg rf pa0 pa' :=
  ⟨fun i hi => by rw [h.1 i (fun hx => hi (ha i hx))]; exact hk.1 i hi, fun e => by
    have : rf0 = false := by cases hx : rf0 with
      | false => rfl
      | true => rw [hr hx] at e; cases e
    rw [h.2.1 this]; exact hk.2.1 e, by rw [h.2.2]; exact hk.2.2⟩
theorem join_wp {c : Code} {ro : Option Nat} {L : LoopSpec} {rf0 : Bool} {asg0 asg : List Nat} {rf : Bool} {pa0 pa : PF} {a : Act} {w : World} {X : (PF → World → Prop) → Kt} {B : Kt → Prop} {Y : PF → World → Prop} {next : Act → World → Prop} {Q : Exit → Act → World → Prop}
    (hk : Keep asg rf pa0 pa) (_hle : pa.le a) (ha : ∀ i ∈ asg0, i ∈ asg) (hr : rf0 = true → rf = true) (h : joinX L rf0 asg0 pa (fun J => B (X J)) Y)
    (hc : ∀ K, B K → ∀ R : Exit → Act → World → Prop, (∀ e pa' a' w', pa'.le a' → Keep asg0 rf0 pa pa' → K e pa' w' → R e a' w') → c.wpIn (fen ro) 0 P R a w)
    (hY : ∀ pa' a' w', pa'.le a' → Keep asg rf pa0 pa' → Y pa' w' → next a' w')
    (hX : ∀ J e pa' a' w', pa'.le a' → Keep asg rf pa0 pa' → X J e pa' w' → (e = .normal ∧ J pa' w') ∨ (e ≠ .normal ∧ Q e a' w')) : c.wpIn (fen ro) 0 P (Exit.then next Q) a w := by
  obtain ⟨J, h1, h2⟩ := join_out hk ha hr h
  refine hc _ h1 _ ?_
  intro e pa' a' w' hle' hk' hK
  rcases hX J e pa' a' w' hle' (keep_trans hk ha hr hk') hK with ⟨rfl, hJ⟩ | ⟨hne, hq⟩
  · obtain ⟨ph, h3, h4, h5⟩ := h2 pa' a' w' hle' hk' hJ
    exact hY ph a' w' h3 h4 h5
  · cases e with
    | normal => exact absurd rfl hne
    | _ => exact hq
theorem joinB_wp {c : Code} {id : Nat} {ro : Option Nat} {L : LoopSpec} {rf0 : Bool} {asg0 asg : List Nat} {rf : Bool} {pa0 pa : PF} {a : Act} {w : World} {X : (PF → World → Prop) → Kt} {B : Kt → Prop} {Y : PF → World → Prop} {Q : Exit → Act → World → Prop}
    (hk : Keep asg rf pa0 pa) (_hle : pa.le a) (ha : ∀ i ∈ asg0, i ∈ asg) (hr : rf0 = true → rf = true) (h : joinX L rf0 asg0 pa (fun J => B (X J)) Y)
    (hc : ∀ K, B K → ∀ R : Exit → Act → World → Prop, (∀ e pa' a' w', pa'.le a' → Keep asg0 rf0 pa pa' → K e pa' w' → R e a' w') → c.wpIn (fen ro) 0 P R a w)
    (hY : ∀ pa' a' w', pa'.le a' → Keep asg rf pa0 pa' → Y pa' w' → Q .normal a' w')
    (hX : ∀ J e pa' a' w', pa'.le a' → Keep asg rf pa0 pa' → X J e pa' w' → ((e = .normal ∨ e = .exit id) ∧ J pa' w') ∨ ((e ≠ .normal ∧ e ≠ .exit id) ∧ Exit.inBlock id Q e a' w')) : c.wpIn (fen ro) 0 P (Exit.inBlock id Q) a w := by
  obtain ⟨J, h1, h2⟩ := join_out hk ha hr h
  refine hc _ h1 _ ?_
  intro e pa' a' w' hle' hk' hK
  rcases hX J e pa' a' w' hle' (keep_trans hk ha hr hk') hK with ⟨he, hJ⟩ | ⟨_, hq⟩
  · obtain ⟨ph, h3, h4, h5⟩ := h2 pa' a' w' hle' hk' hJ
    rcases he with rfl | rfl
    · exact hY ph a' w' h3 h4 h5
    · simp only [Exit.inBlock, if_true]; exact hY ph a' w' h3 h4 h5
  · exact hq
theorem ex_sound (hP : P.follows .mixedOrders = true) : ∀ (c : Code) (ro : Option Nat) (cur : Nat) (asg : List Nat) (rf : Bool) (pa0 pa : PF) (a : Act) (w : World) (K : Kt) (Q : Exit → Act → World → Prop),
    (∀ i ∈ assigned c, i ∈ asg) → (hasRF c = true → rf = true) → Keep asg rf pa0 pa → pa.le a →
    (∀ e pa' a' w', pa'.le a' → Keep asg rf pa0 pa' → K e pa' w' → Q e a' w') →
    ex P ann c ro cur pa w K → c.wpIn (fen ro) 0 P Q a w := by
  intro c
  induction c with
  | skip => intro ro cur asg rf pa0 pa a w K Q _ _ hk hle hQ h; exact wpIn_skip (hQ _ _ _ _ hle hk h)
  | label l => intro ro cur asg rf pa0 pa a w K Q _ _ hk hle hQ h; exact wpIn_label (hQ _ _ _ _ hle hk h)
  | exit id => intro ro cur asg rf pa0 pa a w K Q _ _ hk hle hQ h; exact wpIn_exit (hQ _ _ _ _ hle hk h)
  | ret => intro ro cur asg rf pa0 pa a w K Q _ _ hk hle hQ h; exact wpIn_ret (hQ _ _ _ _ hle hk h)
  | goto l => intro ro cur asg rf pa0 pa a w K Q _ _ _ _ _ h; exact False.elim h
  | scope b ih => intro ro cur asg rf pa0 pa a w K Q _ _ _ _ _ h; exact False.elim h
  | refuse why => intro ro cur asg rf pa0 pa a w K Q _ _ _ _ _ h; exact False.elim h
  | seq x y ihx ihy =>
    intro ro cur asg rf pa0 pa a w K Q ha hr hk hle hQ h
    simp only [ex] at h
    have hax : ∀ i ∈ assigned x, i ∈ asg := fun i hi => ha i (by simp [assigned, hi])
    have hay : ∀ i ∈ assigned y, i ∈ asg := fun i hi => ha i (by simp [assigned, hi])
    have hrx : hasRF x = true → rf = true := fun e => hr (by simp [hasRF, e])
    have hry : hasRF y = true → rf = true := fun e => hr (by simp [hasRF, e])
    split at h
    · refine wpIn_seq (ihx ro _ asg rf pa0 pa a w _ _ hax hrx hk hle ?_ h)
      intro e pa' a' w' hle' hk' hK
      cases e with
      | normal => exact ihy ro _ asg rf pa0 pa' a' w' K Q hay hry hk' hle' hQ hK
      | _ => exact hQ _ _ _ _ hle' hk' hK
    · refine wpIn_seq (join_wp hk hle hax hrx h (fun X hX R hR => ihx ro _ (assigned x) (hasRF x) pa pa a w _ R (fun _ h => h) (fun h => h) (Keep.refl _ _ _) hle hR hX) ?_ ?_)
      · intro pa' a' w' hle' hk' hY
        exact ihy ro _ asg rf pa0 pa' a' w' K Q hay hry hk' hle' hQ hY
      · intro J e pa' a' w' hle' hk' hK
        cases e with
        | normal => exact .inl ⟨rfl, hK⟩
        | _ => exact .inr ⟨by simp, hQ _ _ _ _ hle' hk' hK⟩
  | cond c x y ihx ihy =>
    intro ro cur asg rf pa0 pa a w K Q ha hr hk hle hQ h
    simp only [ex] at h
    split at h
    · rename_i b hb
      have e := ev_sound hle hb
      cases b
      · exact wpIn_cond_false e (ihy ro _ asg rf pa0 pa a w K Q (fun i hi => ha i (by simp [assigned, hi])) (fun e => hr (by simp [hasRF, e])) hk hle hQ h)
      · exact wpIn_cond_true e (ihx ro _ asg rf pa0 pa a w K Q (fun i hi => ha i (by simp [assigned, hi])) (fun e => hr (by simp [hasRF, e])) hk hle hQ h)
    · exact h.elim
  | block id b ih =>
    intro ro cur asg rf pa0 pa a w K Q ha hr hk hle hQ h
    simp only [ex] at h
    split at h
    · refine wpIn_block (ih ro _ asg rf pa0 pa a w _ _ ha hr hk hle ?_ h)
      intro e pa' a' w' hle' hk' hK
      cases e with
      | exit id' =>
        simp only [inBlk] at hK
        simp only [Exit.inBlock]
        split
        · rename_i e; rw [if_pos e] at hK; exact hQ _ _ _ _ hle' hk' hK
        · rename_i e; rw [if_neg e] at hK; exact hQ _ _ _ _ hle' hk' hK
      | _ => exact hQ _ _ _ _ hle' hk' hK
    · refine wpIn_block (joinB_wp hk hle ha hr h (fun X hX R hR => ih ro _ (assigned b) (hasRF b) pa pa a w _ R (fun _ h => h) (fun h => h) (Keep.refl _ _ _) hle hR hX) ?_ ?_)
      · intro pa' a' w' hle' hk' hY
        exact hQ _ _ _ _ hle' hk' hY
      · intro J e pa' a' w' hle' hk' hK
        cases e with
        | normal => exact .inl ⟨.inl rfl, hK⟩
        | exit id' =>
          simp only [inBlkJ] at hK
          by_cases e : id' = id
          · rw [if_pos e] at hK; exact .inl ⟨.inr (by rw [e]), hK⟩
          · rw [if_neg e] at hK
            refine .inr ⟨by simp [e], ?_⟩
            simp only [Exit.inBlock, if_neg e]
            exact hQ _ _ _ _ hle' hk' hK
        | _ => exact .inr ⟨by simp, hQ _ _ _ _ hle' hk' hK⟩
  | region id ops draw =>
    intro ro cur asg rf pa0 pa a w K Q ha hr hk hle hQ h
    cases draw with
    | true =>
      simp only [ex] at h
      split at h
      · refine drawn_wp (asg := asg) (rf := rf) (pa0 := pa0) hP (fun o ho d hd => ha d ?_) (fun pa' a' w' h1 h2 h3 => hQ _ _ _ _ h1 h2 h3) hle hk h
        simp only [assigned, List.mem_append, List.mem_filterMap]
        exact .inl ⟨o, ho, hd⟩
      · exact h.elim
    | false =>
      refine region_wp (asg := asg) (rf := rf) (pa0 := pa0) (fun o ho d hd => ha d ?_) (fun pa' a' w' h1 h2 h3 => hQ _ _ _ _ h1 h2 h3) hle hk h
      simp only [assigned, List.mem_append, List.mem_filterMap]
      exact .inl ⟨o, ho, hd⟩
  | loop b ih =>
    intro ro cur asg rf pa0 pa a w K Q ha hr hk hle hQ h
    simp only [ex] at h
    split at h
    · rename_i L hL
      unfold loopX at h
      split at h
      · exact h.elim
      rename_i hs
      have hs : L.slots.all (assigned b).contains = true := by simpa using hs
      split at h
      · exact h.elim
      rename_i s0 h0
      have hb1 : ∀ i ∈ assigned b, i ∈ asg := fun i hi => ha i (by simpa [assigned] using hi)
      cases hrf : hasRF b with
      | false =>
        rw [hrf] at h
        obtain ⟨I, μ, hI0, hI⟩ := h
        refine loop_wp (fun s => { pa with t := overL (L.emb s) (clearL (assigned b) pa.t) }) I μ hI0 (head_le h0 hle rfl (fun _ _ => rfl) _ rfl) ?_
        intro s a1 w1 hIs hle1
        have hkeep : Keep asg rf pa0 { pa with t := overL (L.emb s) (clearL (assigned b) pa.t) } := by
          refine ⟨fun i hi => ?_, hk.2.1, hk.2.2⟩
          show getL (overL (L.emb s) (clearL (assigned b) pa.t)) i = _
          rw [head_keep hs pa s i (fun hx => hi (hb1 i hx))]; exact hk.1 i hi
        refine ih ro _ (assigned b) false { pa with t := overL (L.emb s) (clearL (assigned b) pa.t) } _ a1 w1 _ _ (fun _ hi => hi) (fun e => by rw [hrf] at e; exact e) (Keep.refl _ _ _) hle1 ?_ (hI s w1 hIs)
        intro e pa' a' w' hle' hk' hK
        have hk2 : Keep asg rf pa0 pa' := by
          refine ⟨fun i hi => ?_, fun e => ?_, ?_⟩
          · rw [hk'.1 i (fun hx => hi (hb1 i hx))]; exact hkeep.1 i hi
          · rw [hk'.2.1 rfl]; exact hkeep.2.1 e
          · rw [hk'.2.2]; exact hkeep.2.2
        cases e with
        | normal =>
          simp only at hK
          split at hK
          · rename_i s' hs'
            refine ⟨s', head_le hs' hle' ?_ (fun i hi => ?_) _ (hk'.2.1 rfl).symm, hK.1, hK.2⟩
            · rw [hk'.2.2]
            · rw [hk'.1 i hi]; exact head_keep hs pa s i hi
          · exact hK.elim
        | _ => exact hQ _ _ _ _ hle' hk2 hK
      | true =>
        rw [hrf] at h
        have hrt : rf = true := hr (by simpa [hasRF] using hrf)
        obtain ⟨I, μ, hI0, hI⟩ := h
        refine loop_wp (fun s => { n := pa.n, t := overL (L.emb s.1) (clearL (assigned b) pa.t), ds := s.2 }) I μ hI0 (head_le h0 hle rfl (fun _ _ => rfl) _ rfl) ?_
        intro s a1 w1 hIs hle1
        refine ih ro _ (assigned b) true { n := pa.n, t := overL (L.emb s.1) (clearL (assigned b) pa.t), ds := s.2 } _ a1 w1 _ _ (fun _ hi => hi) (fun _ => rfl) (Keep.refl _ _ _) hle1 ?_ (hI s w1 hIs)
        intro e pa' a' w' hle' hk' hK
        have hk2 : Keep asg rf pa0 pa' := by
          refine ⟨fun i hi => ?_, fun e => (by rw [hrt] at e; cases e), ?_⟩
          · rw [hk'.1 i (fun hx => hi (hb1 i hx))]
            show getL (overL (L.emb s.1) (clearL (assigned b) pa.t)) i = _
            rw [head_keep hs pa s.1 i (fun hx => hi (hb1 i hx))]; exact hk.1 i hi
          · rw [hk'.2.2]; exact hk.2.2
        cases e with
        | normal =>
          simp only at hK
          split at hK
          · rename_i s' hs'
            refine ⟨(s', pa'.ds), head_le hs' hle' ?_ (fun i hi => ?_) _ rfl, hK.1, hK.2⟩
            · rw [hk'.2.2]
            · rw [hk'.1 i hi]; exact head_keep hs pa s.1 i hi
          · exact hK.elim
        | _ => exact hQ _ _ _ _ hle' hk2 hK
    · exact h.elim
  | rangeFunc f ps assign body ih1 ih2 =>
    intro ro cur asg rf pa0 pa a w K Q ha hr hk hle hQ h
    have hrt : rf = true := hr rfl
    simp only [ex] at h
    obtain ⟨g, hg, h⟩ := evK_out h
    have eg := ev_sound hle hg
    have main : ∀ (r : Loop) (l : Nat) (w1 : World) (mark : List Deferred), r.tmps = a.tmps → r.params = ps → r.assign = assign → r.body = body →
        Entered ro w r l w1 mark → recAt w1 l r .ready none →
        ∃ (d : Deferred) (w₁' : World) (f' : FuncId) (args : Array Value) (w₂ : World), (resolve a.eval (rangeCall f l) 0).run P w1 = .ok d w₁' ∧ (∀ f'', Target.leads P w₁' d.target d.args = some f'' → (fen ro).fn f'') ∧
          (invoke d.target d.args).run P w₁' = .ok (.enter f' args) w₂ ∧ ((fen ro).depth.isSome = true → 1 ≤ 0) ∧
          CallsIn (fen ro) (0 - 1) P f' args w₂ (rangePost (fen ro) 0 P l Q { a with defers := mark ++ a.defers }) := by
      intro r l w1 mark e1 e2 e3 e4 hent hrec
      have hin : ∀ {K : Prop}, inLoop ro w K → K := by
        intro K hk; cases ro with
        | none => exact hk
        | some l0 => exact hk.2
      have h := hin h r l w1 mark hent ?_
      · -- the call
        obtain ⟨g', first, cap, fnn, hgv, hgf, hb, hnm, h⟩ := callFn_out h
        rw [hgv] at eg
        refine ⟨{ target := .fn (.func g') cap, args := first ++ #[.func (.yield l) #[] #[]] }, w1, g', (first.toList ++ [Value.func (.yield l) #[] #[]] ++ cap.toList).toArray, w1, ?_, fun _ _ => trivial, ?_, fun h => by simp [fen] at h, ?_⟩
        · simp only [resolve, rangeCall, eg, Deferred.ofValue, Sem.run_pure]
          simp [Act.eval]
        · simp only [invoke, callFunc, Sem.run_bind, run_program, Result.andThen_ok, hgf, hnm, Bool.false_eq_true, if_false, Option.isNone_eq_false_iff.2 hb, Sem.run_pure]
          congr 2
          apply Array.toList_inj.1; simp
        · have h5 : CallsIn (fen ro) (0 - 1) P g' (first.toList ++ [Value.func (.yield l) #[] #[]] ++ cap.toList).toArray w1 _ := h
          refine h5.mono ?_
          rintro e w2 ⟨v, rfl, st, j, h6, h7, h8⟩
          refine ⟨j, _, endLoop_run h6 h7, ?_⟩
          have hle2 : PF.le { pa with ds := mark ++ pa.ds } { a with defers := mark ++ a.defers } := ⟨by show mark ++ pa.ds = mark ++ a.defers; rw [hle.1], hle.2.1, hle.2.2⟩
          have hk2 : Keep asg rf pa0 { pa with ds := mark ++ pa.ds } := ⟨hk.1, fun e => (by rw [hrt] at e; cases e), hk.2.2⟩
          cases j with
          | none => exact hQ _ _ _ _ hle2 hk2 h8
          | some c =>
            cases c with
            | ret => exact wpIn_ret (hQ _ _ _ _ hle2 hk2 h8)
            | exit id =>
              have h9 : xsX (uniq (exitsOf body)) id (fun i => K (Exit.exit i) { pa with ds := mark ++ pa.ds } _) := h8
              exact wpIn_exit (hQ _ _ _ _ hle2 hk2 (xsX_out h9))
            | _ => exact False.elim h8
      · -- a round
        intro vs w' Q' hlen hrec' hB
        refine ⟨_, hrec', by simp [e2, hlen], ?_⟩
        have hfold : (r.params.zip vs.toArray).foldl (fun (tmps : Array Value) (x : Tmp × Value) => tmps.setIfInBounds x.1 x.2) r.tmps = (ps.toList.zip vs).foldl (fun (tmps : Array Value) (x : Tmp × Value) => tmps.setIfInBounds x.1 x.2) a.tmps := by
          rw [e1, e2, ← Array.foldl_toList]; simp
        have hp := parX_le ps.toList vs pa.n pa.t a.tmps (by simp [hlen]) hle.2
        show RoundIn Fence.wide 0 P l r.fn ((r.params.zip vs.toArray).foldl (fun (tmps : Array Value) (x : Tmp × Value) => tmps.setIfInBounds x.1 x.2) r.tmps) r.assign r.body w' _
        rw [hfold, e3, e4]
        refine roundIn_of_wpIn trivial ?_
        have hB := parsX_out hB
        unfold roundX at hB
        have hle3 : PF.le { n := pa.n, t := parX pa.n ps.toList vs pa.t, ds := [] } { tmps := (ps.toList.zip vs).foldl (fun (tmps : Array Value) (x : Tmp × Value) => tmps.setIfInBounds x.1 x.2) a.tmps, defers := [] } := ⟨rfl, hp.1, hp.2⟩
        refine ih1 (some l) _ (assigned assign) true _ _ _ w' _ _ (fun _ h => h) (fun _ => rfl) (Keep.refl _ _ _) hle3 ?_ hB
        intro e pa1 a1 w2 hle4 _ hK
        cases e with
        | normal =>
          obtain ⟨h9, h10⟩ := hK
          refine ⟨_, begin_run h9, ?_⟩
          refine ih2 (some l) _ (assigned body) true _ _ _ _ _ _ (fun _ h => h) (fun _ => rfl) (Keep.refl _ _ _) hle4 ?_ h10
          intro e pa2 a2 w3 hle5 _ hK2
          cases e with
          | normal => obtain ⟨h11, h12⟩ := hK2; exact ⟨_, _, endRound_run h11, _, rfl, h12⟩
          | ret => obtain ⟨h11, h12⟩ := hK2; exact ⟨_, _, endRound_run h11, _, rfl, h12⟩
          | exit id => obtain ⟨h11, h12⟩ := hK2; exact ⟨_, _, endRound_run h11, _, rfl, h12⟩
          | _ => exact False.elim hK2
        | _ => exact False.elim hK
    refine wpIn_rangeFunc ?_
    intro fn _
    cases ro with
    | none =>
      have hrun : (Instr.enterLoop fn a.tmps ps assign body (fen none).round).run P w = .ok (w.heap.size + 1, [{ target := .collected w.heap.size, args := #[] }])
          ((w.alloc (.deferred (some []))).alloc (.loop { state := .ready, pending := none, fn := fn, tmps := a.tmps, params := ps, assign := assign, body := body, defers := w.heap.size })) := by
        simp only [Instr.enterLoop, fen, Sem.run_bind, run_newObj, Result.andThen_ok, Sem.run_pure, World.alloc, Array.size_push]
      obtain ⟨d, w₁', f', args, w₂, h1, h2, h3, h4, h5⟩ := main { state := .ready, pending := none, fn := fn, tmps := a.tmps, params := ps, assign := assign, body := body, defers := w.heap.size } (w.heap.size + 1) _ _ rfl rfl rfl rfl ⟨rfl, rfl, rfl⟩
        (heap_alloc2 _ _ _)
      exact ⟨_, _, _, d, w₁', f', args, w₂, hrun, h1, h2, h3, h4, h5⟩
    | some l0 =>
      obtain ⟨⟨r0, hr0⟩, _⟩ := h
      have hg0 : (Instr.getLoop l0).run P w = .ok r0 w := by simp [Instr.getLoop, getObj, Sem.run, hr0]
      have hrun : (Instr.enterLoop fn a.tmps ps assign body (fen (some l0)).round).run P w = .ok (w.heap.size, [])
          (w.alloc (.loop { state := .ready, pending := none, fn := fn, tmps := a.tmps, params := ps, assign := assign, body := body, defers := r0.defers })) := by
        simp only [Instr.enterLoop, fen, Sem.run_bind, hg0, run_newObj, Result.andThen_ok, Sem.run_pure, World.alloc]
      obtain ⟨d, w₁', f', args, w₂, h1, h2, h3, h4, h5⟩ := main { state := .ready, pending := none, fn := fn, tmps := a.tmps, params := ps, assign := assign, body := body, defers := r0.defers } w.heap.size _ _ rfl rfl rfl rfl ⟨rfl, rfl, rfl⟩
        (heap_alloc1 _ _)
      exact ⟨_, _, _, d, w₁', f', args, w₂, hrun, h1, h2, h3, h4, h5⟩

/-! ### A function -/
theorem take_run {w : World} {r : Nat} (h : w.heap[r]? = some (.deferred (some []))) : (Instr.takeDeferred r).run P w = .ok [] (w.putObj r (.deferred none)) := by
  simp [Instr.takeDeferred, getObj, setObj, Sem.run, h, World.putObj]
theorem takeX_out {fn : Func} {tm : Array Value} {R : Ending → World → Prop} : ∀ (ds : List Deferred) (w : World) (K : World → Prop), takeX ds w K → (∀ w, K w → ∃ v, (results fn tm).run P w = .ok v w ∧ R (.returned v) w) →
    LeavesInM (fen none) 0 P fn tm R ds .returning w := by
  intro ds
  induction ds with
  | nil => intro w K h hK; exact hK w h
  | cons d ds ih =>
    intro w K h hK
    simp only [takeX] at h
    split at h
    · rename_i r hr
      exact ⟨by simp, .inl ⟨r, _, hr, take_run h.1, ih _ _ h.2 hK⟩⟩
    · exact h.elim
def resOne (tm : Array Value) : ResultVar → Sem Value
  | .tmp t => pure (tm.getD t undef)
  | .cell ad t => do loadVar t (← asAddr (tm.getD ad undef))
theorem resX_out {pa : PF} {a : Act} (hle : pa.le a) {w : World} : ∀ (rs : List ResultVar) (K : List Value → Prop), resX P pa.t w rs K →
    ∃ vs, (rs.mapM (resOne a.tmps)).run P w = .ok vs w ∧ K vs := by
  intro rs
  induction rs with
  | nil => intro K h; exact ⟨[], rfl, h⟩
  | cons r rs ih =>
    intro K h
    cases r with
    | tmp i =>
      simp only [resX] at h
      split at h
      · rename_i v hv
        obtain ⟨vs, h1, h2⟩ := ih _ h
        have e : a.tmps.getD i undef = v := by have := ev_sound hle (x := .tmp i) hv; exact this
        refine ⟨v :: vs, ?_, h2⟩
        rw [List.mapM_cons]
        simp only [resOne, Sem.run_bind, Sem.run_pure, Result.andThen_ok, e, h1]
      · exact h.elim
    | cell i ty =>
      simp only [resX] at h
      split at h
      · rename_i p hv
        obtain ⟨ad, hp, h'⟩ := nn_out h
        subst hp
        obtain ⟨v, h3, h''⟩ := ldT_out h'
        obtain ⟨vs, h1, h2⟩ := ih _ h''
        have e : a.tmps.getD i undef = .pointer (some ad) := by have := ev_sound hle (x := .tmp i) hv; exact this
        refine ⟨v :: vs, ?_, h2⟩
        rw [List.mapM_cons]
        simp only [resOne, Sem.run_bind, Sem.run_pure, Result.andThen_ok, e, asAddr, h1, h3]
      · exact h.elim
def tupOf (vs : List Value) : Value := match vs with
  | [v] => v
  | vs => .tuple vs.toArray
theorem results_run {fn : Func} {tm : Array Value} {w : World} {vs : List Value} (h : (fn.results.toList.mapM (resOne tm)).run P w = .ok vs w) : (results fn tm).run P w = .ok (tupOf vs) w := by
  have e : results fn tm = (do let vs ← fn.results.mapM (resOne tm); pure (if h : vs.size = 1 then vs[0] else .tuple vs)) := by
    unfold results; congr 2
  rw [e, Array.mapM_eq_mapM_toList, Sem.run_bind, Sem.run_map, h]
  simp only [Result.andThen_ok, Sem.run_pure]
  congr 1
  match vs with
  | [] => rfl
  | [v] => rfl
  | v :: u :: r => rfl
theorem CV_of {f : FuncId} {fn : Func} {vs : List Value} {w : World} {Q : Value → World → Prop} (hP : P.follows .mixedOrders = true) (hf : P.funcs[f]? = some fn) (h : fnX P ann fn vs w Q) : CV P f vs w Q := by
  unfold fnX at h
  split at h
  · rename_i c hc
    refine callsIn_of_wp_marks (F := fen none) hf hc trivial ?_
    have hle : PF.le (frame0 fn.ntmps vs) { tmps := vs.toArray ++ Array.replicate (fn.ntmps - vs.toArray.size) undef, defers := [] } := by
      refine ⟨rfl, by simp [frame0], fun i v hv => ?_⟩
      have key : ∀ (l : List Value) (j : Nat), getL (args0 j l) i = some v → j ≤ i ∧ l[i - j]? = some v := by
        intro l
        induction l with
        | nil => intro j h; simp [args0, getL] at h
        | cons x r ih =>
          intro j h
          simp only [args0, getL_v] at h
          split at h
          · rename_i e; subst e; cases h; exact ⟨Nat.le_refl _, by simp⟩
          · rename_i e
            obtain ⟨h1, h2⟩ := ih _ h
            refine ⟨by omega, ?_⟩
            rw [show i - j = (i - (j + 1)) + 1 from by omega]; simpa using h2
      obtain ⟨_, h2⟩ := key vs 0 hv
      have hi : i < vs.length := by
        rw [Nat.sub_zero] at h2; exact (List.getElem?_eq_some_iff.1 h2).1
      rw [Array.getElem?_append_left (by simpa using hi)]
      simpa using h2
    refine ex_sound hP c none 1 (assigned c) true _ _ _ w _ _ (fun _ h => h) (fun _ => rfl) (Keep.refl _ _ _) hle ?_ h
    intro e pa' a' w' hle' _ hK
    have fin : takeX pa'.ds w' (fun w => resX P pa'.t w fn.results.toList fun vs => match vs with | [v] => Q v w | vs => Q (.tuple vs.toArray) w) →
        LeavesInM (fen none) 0 P fn a'.tmps (fun e w' => ∃ v, e = .returned v ∧ Q v w') a'.defers .returning w' := by
      intro hK
      rw [← hle'.1]
      refine takeX_out _ _ _ hK ?_
      intro w2 h2
      obtain ⟨vs, h3, h4⟩ := resX_out hle' _ _ h2
      refine ⟨_, results_run h3, _, rfl, ?_⟩
      match vs, h4 with
      | [], h4 => exact h4
      | [v], h4 => exact h4
      | v :: u :: r, h4 => exact h4
    cases e with
    | normal => exact fin hK
    | ret => exact fin hK
    | _ => exact False.elim hK
  · exact h.elim
end Go.Proofs.YtbnadobjnmboiaaDoor.X
