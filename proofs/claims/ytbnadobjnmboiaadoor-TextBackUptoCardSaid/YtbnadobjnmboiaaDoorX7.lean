/-
  E, part 7: regions in their text's order, code, rounds, functions.
-/
import Derived.Laws.Externs
import Derived.Test.YtbnadobjnmboiaaDoorX6
namespace Go.Proofs.YtbnadobjnmboiaaDoor.X
open Go
variable {P : Program} {w : World}

def fen (ro : Option Nat) : Fence := { fn := fun _ => True, depth := none, alive := false, round := ro }
theorem fen_none : fen none = Fence.wide := rfl
theorem room_fen (ro : Option Nat) (n : Nat) : (fen ro).room n := fun _ h => by simp [fen] at h
theorem semAt_fen {o : Oper} {ro : Option Nat} {ρ : Operand → Value} (h : ∀ c, o.op ≠ .defer c) : o.semAt (fen ro).round ρ = execOp ρ o := Oper.semAt_eq _ _ _ h
theorem op_wp' {ro : Option Nat} {pa : PF} {a b : Act} (hle : pa.le b) {o : Oper} (hab : execOp a.eval o = execOp b.eval o) {K : Value → World → Prop} {next : Act → World → Prop} {Q : Exit → Act → World → Prop}
    (hK : ∀ v w', K v w' → next (a.put o.dst v) w') (h : opX P pa.t o w K) : o.wpIn (fen ro) 0 P a w next Q := by
  refine ⟨fun _ _ => trivial, ?_⟩
  have hd : ∀ c, o.op ≠ .defer c := by intro c hc; unfold opX at h; rw [hc] at h; exact h
  rw [semAt_fen hd, hab]
  by_cases hc : ∃ c f, o.op = .call c ∧ c.callee = .value f
  · obtain ⟨c, f, ho, hf⟩ := hc
    unfold opX at h
    rw [ho] at h
    simp only [hf] at h
    obtain ⟨fv, h1, h2⟩ := evK_out h
    obtain ⟨vs, h3, h4⟩ := evsK_out h2
    have e1 := ev_sound hle h1
    have e2 := toArray_map (evs_sound hle h3)
    unfold callVal at h4
    split at h4
    · rename_i fn first cap
      have hres : (resolve b.eval c o.type).run P w = .ok { target := .fn fn cap, args := first ++ vs.toArray } w := by
        simp only [resolve, hf, e1, e2, Deferred.ofValue, Sem.run_pure]
      have hex : (execOp b.eval o).run P w = (invoke (.fn fn cap) (first ++ vs.toArray)).run P w := by
        simp only [execOp, ho, Sem.run_bind, hres, Result.andThen_ok]
      rw [hex]
      split at h4
      · rename_i g
        split at h4
        · rename_i hen
          obtain ⟨fn, hg, hb, hnm⟩ := enters_out hen
          have hin : (invoke (.fn (.func g) cap) (first ++ vs.toArray)).run P w = .ok (.enter g (first.toList ++ vs ++ cap.toList).toArray) w := by
            simp only [invoke, callFunc, Sem.run_bind, run_program, Result.andThen_ok, hg, hnm, Bool.false_eq_true, if_false, Option.isNone_eq_false_iff.2 hb, Sem.run_pure]
            congr 2
            apply Array.toList_inj.1; simp
          rw [hin, Oper.uponIn_enter]
          refine ⟨fun h => by simp [fen] at h, ?_⟩
          have h5 : CallsIn (fen ro) 0 P g (first.toList ++ vs ++ cap.toList).toArray w fun e w' => ∃ v, e = .returned v ∧ isT P o.type v fun v => K v w' := h4
          refine h5.mono ?_
          rintro e w' ⟨v, rfl, hv⟩
          exact hK _ _ (isT_out hv)
        · obtain ⟨fn, e, v, w', hg, hnm, hb, hn, he, hr, hv⟩ := h4
          have ea : first ++ vs.toArray ++ cap = (first.toList ++ vs ++ cap.toList).toArray := by apply Array.toList_inj.1; simp
          have hin : (invoke (.fn (.func g) cap) (first ++ vs.toArray)).run P w = .ok (.value v) w' := by
            show (callFunc g (first ++ vs.toArray ++ cap)).run P w = _
            rw [run_callFunc_extern hg hnm hb hn he, ea, hr]; rfl
          rw [hin, Oper.uponIn_value]
          exact hK _ _ (isT_out hv)
      · rename_i l
        obtain ⟨r, hr, hsz, h5⟩ := h4
        have hin : (invoke (.fn (.yield l) cap) (first ++ vs.toArray)).run P w =
            .ok (.round l r.fn ((r.params.zip (first.toList ++ vs).toArray).foldl (fun tmps (t, a) => tmps.setIfInBounds t a) r.tmps) r.assign r.body) w := by
          have ea : first ++ vs.toArray = (first.toList ++ vs).toArray := by apply Array.toList_inj.1; simp
          rw [ea]
          have hsz' : ¬ (first.toList ++ vs).toArray.size ≠ r.params.size := by simpa using hsz
          have hg : (getObj l).run P w = .ok (.loop r) w := by simp [getObj, Sem.run, hr]
          simp only [invoke, Instr.yield, Instr.getLoop, Sem.run_bind, hg, Result.andThen_ok, Sem.run_pure, if_neg hsz']
        rw [hin, Oper.uponIn_round]
        refine ⟨fun h => by simp [fen] at h, ?_⟩
        have h6 : RoundIn (fen ro) 0 P l r.fn ((r.params.zip (first.toList ++ vs).toArray).foldl (fun tmps (t, a) => tmps.setIfInBounds t a) r.tmps) r.assign r.body w fun e w' => ∃ v, e = .returned v ∧ isT P o.type v fun v => K v w' := h5
        refine h6.mono ?_
        rintro e w' ⟨v, rfl, hv⟩
        exact hK _ _ (isT_out hv)
      · exact h4.elim
    · exact h4.elim
  · obtain ⟨v, w', h1, h2⟩ := opX_val hle (fun c f ho hf => hc ⟨c, f, ho, hf⟩) h
    rcases h2 with h2 | ⟨rfl, h2⟩
    · rw [h2, Oper.uponIn_value]; exact hK _ _ h1
    · rw [h2, Oper.uponIn_skip]; exact hK _ _ h1

theorem op_wp {ro : Option Nat} {pa : PF} {a : Act} (hle : pa.le a) {o : Oper} {K : Value → World → Prop} {next : Act → World → Prop} {Q : Exit → Act → World → Prop}
    (hK : ∀ v w', K v w' → next (a.put o.dst v) w') (h : opX P pa.t o w K) : o.wpIn (fen ro) 0 P a w next Q := op_wp' hle rfl hK h

/-! ### Regions in the order of the text -/
theorem PF.le_known {pa : PF} {a : Act} (h : pa.le a) {d : Nat} {v : Value} (hv : getL pa.t d = some v) : PF.le { pa with t := .v d v :: pa.t } a := by
  obtain ⟨h1, h2, h3⟩ := h
  refine ⟨h1, h2, fun i u hu => ?_⟩
  simp only [getL_v] at hu
  split at hu
  · rename_i e; subst e; cases hu; exact h3 _ _ hv
  · exact h3 i u hu
theorem yielded_eq {ops : Array Oper} {pa : PF} {a : Act} (hle : pa.le a) {j d : Nat} {v : Value} (hd : (ops.toList[j]?).bind (·.dst) = some d) (hv : getL pa.t d = some v) :
    yielded ops a.tmps j = (match v with | .bool b => some b | _ => none) := by
  have := hle.2.2 d v hv
  have hd' : (ops[j]?).bind (·.dst) = some d := by rwa [← Array.getElem?_toList]
  unfold yielded
  rw [hd']
  simp only [Option.bind_some, this]
  cases v <;> rfl
/-- slots that no one assigns stay; so do the marks, where no function is ranged over -/
def Keep (asg : List Nat) (rf : Bool) (pa pa' : PF) : Prop := (∀ i, i ∉ asg → getL pa'.t i = getL pa.t i) ∧ (rf = false → pa'.ds = pa.ds) ∧ pa'.n = pa.n
theorem Keep.refl (asg : List Nat) (rf : Bool) (pa : PF) : Keep asg rf pa pa := ⟨fun _ _ => rfl, fun _ => rfl, rfl⟩
theorem Keep.set {asg : List Nat} {rf : Bool} {pa pa' : PF} (h : Keep asg rf pa pa') {d : Nat} (hd : d ∈ asg) (v : Value) : Keep asg rf pa { pa' with t := .v d v :: pa'.t } :=
  ⟨fun i hi => by rw [getL_v, if_neg (fun e : d = i => hi (e ▸ hd))]; exact h.1 i hi, h.2.1, h.2.2⟩
theorem Keep.put {asg : List Nat} {rf : Bool} {pa pa' : PF} (h : Keep asg rf pa pa') {d : Option Nat} (hd : ∀ x, d = some x → x ∈ asg) (v : Value) : Keep asg rf pa (pa'.put d v) := by
  cases d with
  | none => exact h
  | some d =>
    unfold PF.put
    simp only [setB_eq]
    split
    · exact h.set (hd d rfl) _
    · exact h
theorem opsX_wp {ro : Option Nat} {ops : Array Oper} {Q : Exit → Act → World → Prop} {K : PF → World → Prop} {asg : List Nat} {rf : Bool} {pa0 : PF}
    (ha : ∀ o ∈ ops.toList, ∀ d, o.dst = some d → d ∈ asg)
    (hQ : ∀ pa a w, pa.le a → Keep asg rf pa0 pa → K pa w → Q .normal a w) :
    ∀ (rest : List Oper) (i : Nat) (pa : PF) (a : Act) (w : World), pa.le a → Keep asg rf pa0 pa → ops.toList.drop i = rest → opsX P ops rest pa w K → wpOpsIn (fen ro) 0 P ops Q (List.range' i rest.length) a w := by
  intro rest
  induction rest with
  | nil => intro i pa a w hle hk _ h; exact hQ _ _ _ hle hk h
  | cons o r ih =>
    intro i pa a w hle hk hdrop h
    have ho : ops[i]? = some o := by
      rw [← Array.getElem?_toList, ← List.head?_drop, hdrop]; rfl
    have hdrop' : ops.toList.drop (i + 1) = r := by
      rw [← List.tail_drop, hdrop]; rfl
    have hao : ∀ d, o.dst = some d → d ∈ asg := ha o (List.mem_of_getElem? (by rwa [Array.getElem?_toList]))
    rw [List.length_cons, List.range'_succ]
    simp only [wpOpsIn, ho]
    have hgo : ∀ (pa : PF), pa.le a → Keep asg rf pa0 pa → opX P pa.t o w (fun v w' => opsX P ops r (pa.put o.dst v) w' K) → o.wpIn (fen ro) 0 P a w (wpOpsIn (fen ro) 0 P ops Q (List.range' (i + 1) r.length)) Q :=
      fun pa hle hk h => op_wp hle (fun v w' hv => ih (i + 1) _ _ _ (PF.le_put hle _ _) (hk.put hao _) hdrop' hv) h
    have hskip : ∀ (pa : PF), pa.le a → Keep asg rf pa0 pa → opsX P ops r (pa.put o.dst undef) w K → wpOpsIn (fen ro) 0 P ops Q (List.range' (i + 1) r.length) (a.put o.dst undef) w :=
      fun pa hle hk h => ih (i + 1) _ _ _ (PF.le_put hle _ _) (hk.put hao _) hdrop' h
    simp only [opsX] at h
    cases hg : o.guard with
    | none =>
      rw [hg] at h
      have hw : Region.wanted o (yielded ops a.tmps) = true := by simp [Region.wanted, hg]
      rw [if_pos hw]
      exact hgo pa hle hk h
    | some gw =>
      obtain ⟨j, want⟩ := gw
      rw [hg] at h
      simp only at h
      cases hd : (ops.toList[j]?).bind (·.dst) with
      | none => rw [hd] at h; exact h.elim
      | some d =>
        rw [hd] at h
        simp only at h
        cases hv : getL pa.t d with
        | none => rw [hv] at h; exact h.elim
        | some v =>
          rw [hv] at h
          have hy := yielded_eq hle hd hv
          have hda : d ∈ asg := by
            cases hj : ops.toList[j]? with
            | none => rw [hj] at hd; cases hd
            | some oj => rw [hj] at hd; exact ha oj (List.mem_of_getElem? hj) d hd
          cases v with
          | bool b =>
            simp only at h hy
            have hkn := PF.le_known hle hv
            cases want <;> cases b <;> simp only [cnd] at h
            · have hw : Region.wanted o (yielded ops a.tmps) = true := by simp [Region.wanted, hg, hy]
              rw [if_pos hw]; exact hgo _ hkn (hk.set hda _) h
            · have hw : ¬ Region.wanted o (yielded ops a.tmps) = true := by simp [Region.wanted, hg, hy]
              rw [if_neg hw]; exact ⟨fun _ _ => trivial, hskip _ hkn (hk.set hda _) h⟩
            · have hw : ¬ Region.wanted o (yielded ops a.tmps) = true := by simp [Region.wanted, hg, hy]
              rw [if_neg hw]; exact ⟨fun _ _ => trivial, hskip _ hkn (hk.set hda _) h⟩
            · have hw : Region.wanted o (yielded ops a.tmps) = true := by simp [Region.wanted, hg, hy]
              rw [if_pos hw]; exact hgo _ hkn (hk.set hda _) h
          | tuple vs =>
            simp only at h hy
            have hw : ¬ Region.wanted o (yielded ops a.tmps) = true := by simp [Region.wanted, hg, hy]
            rw [if_neg hw]; exact ⟨fun _ _ => trivial, hskip _ hle hk h⟩
          | _ => exact False.elim h
theorem region_wp {ro : Option Nat} {id : Nat} {ops : Array Oper} {Q : Exit → Act → World → Prop} {K : PF → World → Prop} {asg : List Nat} {rf : Bool} {pa0 : PF}
    (ha : ∀ o ∈ ops.toList, ∀ d, o.dst = some d → d ∈ asg) (hQ : ∀ pa a w, pa.le a → Keep asg rf pa0 pa → K pa w → Q .normal a w)
    {pa : PF} {a : Act} {w : World} (hle : pa.le a) (hk : Keep asg rf pa0 pa) (h : opsX P ops ops.toList pa w K) : (Code.region id ops false).wpIn (fen ro) 0 P Q a w := by
  refine wpIn_region ?_
  have := opsX_wp (ro := ro) ha hQ ops.toList 0 pa a w hle hk (by simp) h
  rwa [Array.length_toList, ← List.range_eq_range'] at this

/-! ### Frames at a loop's head -/
theorem getL_clear (is : List Nat) (t : List En) (i : Nat) : getL (clearL is t) i = if i ∈ is then none else getL t i := getL_m is t i
/-- a slot of the frame at a loop's head holds what the state tells, or what stood there and is not assigned -/
theorem getL_over (xs : List (Nat × Value)) (t : List En) (i : Nat) (v : Value) (h : getL (overL xs t) i = some v) : (∃ x ∈ xs, x.1 = i ∧ x.2 = v) ∨ ((∀ x ∈ xs, x.1 ≠ i) ∧ getL t i = some v) := by
  induction xs with
  | nil => exact .inr ⟨by simp, h⟩
  | cons x r ih =>
    obtain ⟨j, u⟩ := x
    rw [overL, getL_v] at h
    split at h
    · rename_i e; injection h with h; exact .inl ⟨(j, u), by simp, e, h⟩
    · rename_i e
      rcases ih h with ⟨y, hy, h1, h2⟩ | ⟨h1, h2⟩
      · exact .inl ⟨y, by simp [hy], h1, h2⟩
      · exact .inr ⟨by simp only [List.mem_cons, forall_eq_or_imp]; exact ⟨e, h1⟩, h2⟩
theorem getL_over_other (xs : List (Nat × Value)) (t : List En) (i : Nat) (h : ∀ x ∈ xs, x.1 ≠ i) : getL (overL xs t) i = getL t i := by
  induction xs with
  | nil => rfl
  | cons x r ih =>
    obtain ⟨j, u⟩ := x
    rw [overL, getL_v, if_neg (h (j, u) (by simp)), ih (fun y hy => h y (by simp [hy]))]
theorem head_le {L : LoopSpec} {asg : List Nat} {pa pa' : PF} {a' : Act} {s' : L.S} (he : L.ext pa'.t = some s') (hle : pa'.le a') (hl : pa'.n = pa.n)
    (hk : ∀ i, i ∉ asg → getL pa'.t i = getL pa.t i) (ds : List Deferred) (hds : ds = pa'.ds) : PF.le { n := pa.n, t := overL (L.emb s') (clearL asg pa.t), ds := ds } a' := by
  obtain ⟨h1, h2, h3⟩ := hle
  refine ⟨by rw [hds]; exact h1, by rw [← hl]; exact h2, fun i v hv => ?_⟩
  rcases getL_over _ _ _ _ hv with ⟨x, hx, rfl, rfl⟩ | ⟨h4, h5⟩
  · exact h3 _ _ (L.ok _ _ he x hx)
  · rw [getL_clear] at h5
    split at h5
    · cases h5
    · rename_i hi; exact h3 _ _ (by rw [hk i hi]; exact h5)
theorem head_keep {L : LoopSpec} {asg : List Nat} (hs : L.slots.all asg.contains = true) (pa : PF) (s : L.S) : ∀ i, i ∉ asg → getL (overL (L.emb s) (clearL asg pa.t)) i = getL pa.t i := by
  intro i hi
  rw [getL_over_other, getL_clear, if_neg hi]
  intro x hx e
  have : x.1 ∈ L.slots := by rw [← L.fits s]; exact List.mem_map_of_mem hx
  have := List.all_eq_true.1 hs _ this
  rw [e] at this
  exact hi (by simpa using this)
end Go.Proofs.YtbnadobjnmboiaaDoor.X
