/-
  E, part 3: each operation's word is what the model does.
-/
import Derived.Test.YtbnadobjnmboiaaDoorX2
import Derived.Laws.Cells
import Derived.Laws.Small
namespace Go.Proofs.YtbnadobjnmboiaaDoor.X
open Go

/-! ### Frames -/
theorem getL_v (j : Nat) (x : Value) (r : List En) (i : Nat) : getL (.v j x :: r) i = if j = i then some x else getL r i := by
  simp only [getL]
  by_cases h : j = i
  · subst h; simp
  · have : Nat.beq j i = false := by
      cases hx : Nat.beq j i
      · rfl
      · exact absurd (Nat.eq_of_beq_eq_true hx) h
    simp [h, this]
theorem getL_m (is : List Nat) (r : List En) (i : Nat) : getL (.m is :: r) i = if i ∈ is then none else getL r i := by
  simp only [getL]
  by_cases h : i ∈ is
  · simp [h]
  · simp [h]
theorem setB_eq (n : Nat) (t : List En) (d : Nat) (v : Value) : setB n t d v = if d < n then .v d v :: t else t := by
  unfold setB
  by_cases h : d < n
  · have : Nat.blt d n = true := by simpa [Nat.blt_eq] using h
    simp [h, this]
  · have : Nat.blt d n = false := by
      cases hx : Nat.blt d n
      · rfl
      · rw [Nat.blt_eq] at hx; exact absurd hx h
    simp [h, this]
theorem le_set {n : Nat} {t : List En} {tm : Array Value} (h1 : n = tm.size) (h : ∀ (i : Nat) (v : Value), getL t i = some v → tm[i]? = some v) (d : Nat) (v : Value) :
    n = (tm.setIfInBounds d v).size ∧ ∀ (i : Nat) (u : Value), getL (setB n t d v) i = some u → (tm.setIfInBounds d v)[i]? = some u := by
  refine ⟨by simpa using h1, fun i u hu => ?_⟩
  rw [setB_eq] at hu
  rw [Array.getElem?_setIfInBounds]
  split at hu
  · rename_i hd
    rw [getL_v] at hu
    split at hu
    · rename_i e; subst e; rw [if_pos rfl, if_pos (by omega)]; exact hu
    · rename_i e; rw [if_neg e]; exact h i u hu
  · rename_i hd
    split
    · rename_i e; subst e
      have := h d u hu
      rw [Array.getElem?_eq_none (by omega)] at this; cases this
    · exact h i u hu
theorem PF.le_put {pa : PF} {a : Act} (h : pa.le a) (d : Option Tmp) (v : Value) : (pa.put d v).le (a.put d v) := by
  obtain ⟨h1, h2, h3⟩ := h
  cases d with
  | none => exact ⟨h1, h2, h3⟩
  | some d => exact ⟨h1, le_set h2 h3 d v⟩
theorem ev_sound {pa : PF} {a : Act} (h : pa.le a) {x : Operand} {v : Value} (hx : ev pa.t x = some v) : a.eval x = v := by
  cases x with
  | tmp i => simp only [ev] at hx; have := h.2.2 i v hx; simp [Act.eval, Array.getD_eq_getD_getElem?, this]
  | const c => simpa [ev, Act.eval] using hx
  | global g => simpa [ev, Act.eval] using hx
  | func f => simpa [ev, Act.eval] using hx
theorem evK_out {t : List En} {x : Operand} {K : Value → Prop} (h : evK t x K) : ∃ v, ev t x = some v ∧ K v := by
  unfold evK at h
  split at h
  · exact ⟨_, by assumption, h⟩
  · exact h.elim
theorem evs_sound {pa : PF} {a : Act} (h : pa.le a) : ∀ {xs : List Operand} {vs : List Value}, evs pa.t xs = some vs → xs.map a.eval = vs := by
  intro xs
  induction xs with
  | nil => intro vs hv; simp only [evs, Option.some.injEq] at hv; subst hv; rfl
  | cons x r ih =>
    intro vs hv
    simp only [evs] at hv
    split at hv
    · rename_i v vs' h1 h2; cases hv; simp [ev_sound h h1, ih h2]
    · cases hv
theorem evsK_out {t : List En} {xs : List Operand} {K : List Value → Prop} (h : evsK t xs K) : ∃ vs, evs t xs = some vs ∧ K vs := by
  unfold evsK at h
  split at h
  · exact ⟨_, by assumption, h⟩
  · exact h.elim
theorem map_toArray {xs : Array Operand} {f : Operand → Value} {vs : List Value} (h : xs.toList.map f = vs) : xs.map f = vs.toArray := by
  subst h; apply Array.toList_inj.1; simp

/-! ### Types -/
theorem isAgg_run (P : Program) (t : TypeId) (w : World) (d : TypeDesc) (h : P.underlying t = some d) : (isAgg t).run P w = .ok (isAggB P t) w := by
  cases d <;> simp [isAgg, underlying, h, isAggB]
theorem isAgg_run' (P : Program) (t : TypeId) (w : World) (h : (P.underlying t).isSome) : (isAgg t).run P w = .ok (isAggB P t) w := by
  obtain ⟨d, h⟩ := Option.isSome_iff_exists.1 h; exact isAgg_run P t w d h
theorem info_of_underlying {P : Program} {t : TypeId} {d : TypeDesc} (h : P.underlying t = some d) : ∃ i, P.info? t = some i := by
  unfold Program.underlying at h
  split at h
  · rename_i h1; exact ⟨_, h1⟩
  · rename_i h1; exact ⟨_, h1⟩
  · cases h
theorem sizeOf_run (P : Program) (t : TypeId) (w : World) (h : (P.info? t).isSome) : (sizeOf t).run P w = .ok (sizeT P t) w := by
  obtain ⟨i, h⟩ := Option.isSome_iff_exists.1 h
  simp [sizeOf, typeInfo, h, sizeT, Program.cellsOf]
theorem size_info {P : Program} {t : TypeId} (h : sizeT P t ≠ 0) : (P.info? t).isSome := by
  cases e : P.info? t with
  | some i => rfl
  | none => exfalso; apply h; simp [sizeT, Program.cellsOf, e]

/-! ### Loads and stores -/
theorem info_of_agg {P : Program} {t : TypeId} (h : isAggB P t = true) : (P.info? t).isSome := by
  cases hu : P.underlying t with
  | none => simp [isAggB, hu] at h
  | some d => obtain ⟨i, hi⟩ := info_of_underlying hu; simp [hi]
def oneB (v : Value) : Bool := match v with | .agg _ | .tuple _ => false | _ => true
theorem ld1_out {kd : Kd} {a : Addr} {w : World} {K : Value → Prop} (h : ld1 kd a w K) : ∃ v, w.cell? a = some v ∧ K v := by
  cases kd <;> simp only [ld1, ldI, ldB, ldS, ldP, ldL, ldV] at h
  · obtain ⟨n, h1, h2⟩ := h; exact ⟨_, h1, h2⟩
  · obtain ⟨n, h1, h2⟩ := h; exact ⟨_, h1, h2⟩
  · obtain ⟨n, h1, h2⟩ := h; exact ⟨_, h1, h2⟩
  · obtain ⟨n, h1, h2⟩ := h; exact ⟨_, h1, h2⟩
  · obtain ⟨p, n, c, h1, h2⟩ := h; exact ⟨_, h1, h2⟩
  · exact h
theorem ldN_out {a : Addr} {w : World} : ∀ (kds : List Kd) (i : Nat) (K : List Value → Prop), ldN kds a i w K →
    ∃ vs : List Value, vs.length = kds.length ∧ (∀ j v, vs[j]? = some v → w.cell? (a.add (i + j)) = some v) ∧ K vs := by
  intro kds
  induction kds with
  | nil => intro i K h; exact ⟨[], rfl, by simp, h⟩
  | cons kd r ih =>
    intro i K h
    obtain ⟨v, h1, h2⟩ := ld1_out h
    obtain ⟨vs, h3, h4, h5⟩ := ih _ _ h2
    refine ⟨v :: vs, by simp [h3], fun j u hj => ?_, h5⟩
    cases j with
    | zero => simp at hj; subst hj; exact h1
    | succ j => simp at hj; have := h4 j u hj; rw [show i + (j + 1) = i + 1 + j from by omega]; exact this
theorem kdOf_some {P : Program} {t : TypeId} : (kdOf P t ≠ .other) → (P.underlying t).isSome := by
  intro h
  cases e : P.underlying t with
  | some d => rfl
  | none => exact absurd (by simp [kdOf, e]) h
theorem run_load_cell {P : Program} {a : Addr} {w : World} {v : Value} (h : w.cell? a = some v) : (load a).run P w = .ok v w := by simp [h]
theorem ldT_out {P : Program} {t : TypeId} {a : Addr} {w : World} {K : Value → Prop} (h : ldT P t a w K) : ∃ v, (loadVar t a).run P w = .ok v w ∧ K v := by
  unfold ldT at h
  split at h
  · exact h.elim
  rename_i hu
  have hu : (P.underlying t).isSome := by cases hx : P.underlying t <;> simp_all
  have ha := isAgg_run' P t w hu
  cases hb : isAggB P t with
  | true =>
    rw [hb] at h
    simp only at h
    split at h
    · rename_i hl
      obtain ⟨vs, h1, h2, h3⟩ := ldN_out _ _ _ h
      refine ⟨_, ?_, h3⟩
      obtain ⟨d, hd⟩ := Option.isSome_iff_exists.1 hu
      obtain ⟨i, hi⟩ := info_of_underlying hd
      have hs := sizeOf_run P t w (by simp [hi])
      have hl2 := run_loadCells_list (P := P) (w := w) a vs (fun j v hj => by have := h2 j v hj; rwa [Nat.zero_add] at this)
      simp only [loadVar, Sem.run_bind, ha, hb, Result.andThen_ok, if_true, hs, ← hl, ← h1, hl2, Sem.run_pure]
    · exact h.elim
  | false =>
    rw [hb] at h
    obtain ⟨v, h1, h2⟩ := ld1_out h
    refine ⟨v, ?_, h2⟩
    simp only [loadVar, Sem.run_bind, ha, hb, Result.andThen_ok, Bool.false_eq_true, if_false]
    exact run_load_cell h1
theorem run_store_cell {P : Program} {a : Addr} {w : World} {v old : Value} (ho : oneB v = true) (h : w.cell? a = some old) (hf : w.frozen? a = false) : (store a v).run P w = .ok () (w.setCell a v) := by
  cases v <;> simp_all [store, Sem.run, oneB]
theorem stN_out {P : Program} {a : Addr} : ∀ (vs : List Value) (i : Nat) (w : World) (K : World → Prop), stN vs a i w K → ∃ w', (storeCells a vs i).run P w = .ok () w' ∧ K w' := by
  intro vs
  induction vs with
  | nil => intro i w K h; exact ⟨w, by simp [storeCells], h⟩
  | cons v r ih =>
    intro i w K h
    have key : st1 v (a.add i) w (fun w1 => stN r a (i + 1) w1 K) ∧ oneB v = true := by
      cases v <;> simp_all [stN, oneB]
    obtain ⟨⟨⟨old, h1⟩, h2, h3⟩, ho⟩ := key
    obtain ⟨w', h4, h5⟩ := ih _ _ _ h3
    refine ⟨w', ?_, h5⟩
    simp only [storeCells, Sem.run_bind, run_store_cell ho h1 h2, Result.andThen_ok, h4]
theorem oneK_out {v : Value} {K : Prop} (h : oneK v K) : oneB v = true ∧ v.cells = #[v] ∧ K := by
  cases v <;> simp_all [oneK, oneB, Value.cells]
theorem stT_out {P : Program} {t : TypeId} {v : Value} {a : Addr} {w : World} {K : World → Prop} (h : stT P t v a w K) : ∃ w', (storeVar t a v).run P w = .ok () w' ∧ K w' := by
  unfold stT at h
  split at h
  · rename_i hb
    split at h
    · rename_i cs
      split at h
      · rename_i hl
        obtain ⟨w', h1, h2⟩ := stN_out (P := P) _ _ _ _ h
        refine ⟨w', ?_, h2⟩
        have hi : (P.info? t).isSome := by
          by_cases h0 : sizeT P t = 0
          · exact info_of_agg hb
          · exact size_info h0
        have hs := sizeOf_run P t w hi
        have hl' : cs.size = sizeT P t := by simpa using hl
        simp only [storeVar, Sem.run_bind, hs, Result.andThen_ok, Value.cells, hl', ne_eq, not_true_eq_false, if_false]
        simpa using h1
      · exact h.elim
    · exact h.elim
  · split at h
    · rename_i hl
      obtain ⟨ho, hc, h⟩ := oneK_out h
      obtain ⟨⟨old, h1⟩, h2, h3⟩ := h
      refine ⟨_, ?_, h3⟩
      have hs := sizeOf_run P t w (size_info (by omega))
      simp only [storeVar, Sem.run_bind, hs, Result.andThen_ok, hc, hl]
      have := run_store_cell (P := P) (a := a) ho h1 h2
      simp [storeCells, this, Addr.add]
    · exact h.elim
theorem cellsL_eq (v : Value) : cellsL v = v.cells.toList := by cases v <;> rfl
theorem zeroC_run {P : Program} {t : TypeId} {cs : List Value} (h : zeroC P t = some cs) (w : World) : ∃ v, (zeroValue t).run P w = .ok v w ∧ v.cells = cs.toArray := by
  unfold zeroC at h
  split at h
  · rename_i i hi
    cases hz : i.zero with
    | none => simp [hz] at h
    | some z =>
      simp [hz] at h
      refine ⟨z, by simp [zeroValue, typeInfo, hi, hz], ?_⟩
      rw [← h, cellsL_eq]
  · cases h
theorem run_newVar {P : Program} {t : TypeId} {v : Value} {w : World} : (newVar t v).run P w = .ok ⟨w.heap.size, 0, none⟩ (w.alloc (.cells v.cells t)) := by
  simp only [newVar, newRow, Sem.run_bind, run_newObj, Result.andThen_ok, Sem.run_pure]; rfl
theorem run_newRow {P : Program} {t : TypeId} {cs : Array Value} {w : World} : (newRow t cs).run P w = .ok ⟨w.heap.size, 0, none⟩ (w.alloc (.cells cs t)) := by
  simp only [newRow, Sem.run_bind, run_newObj, Result.andThen_ok, Sem.run_pure]; rfl
theorem nn_out {p : Option Addr} {K : Addr → Prop} (h : nn p K) : ∃ a, p = some a ∧ K a := by
  cases p with
  | none => exact h.elim
  | some a => exact ⟨a, rfl, h⟩
end Go.Proofs.YtbnadobjnmboiaaDoor.X
