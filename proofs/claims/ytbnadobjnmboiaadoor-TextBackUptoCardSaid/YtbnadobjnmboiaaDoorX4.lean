/-
  E, part 4: each operation, as the model carries it out.
-/
import Derived.Test.YtbnadobjnmboiaaDoorX3
import Derived.Laws.Build
namespace Go.Proofs.YtbnadobjnmboiaaDoor.X
open Go
set_option linter.unusedVariables false
set_option linter.unusedSimpArgs false

variable {P : Program} {w : World}
theorem ite_out {c : Prop} [Decidable c] {K : Prop} (h : if c then K else False) : c ∧ K := by
  split at h
  · exact ⟨by assumption, h⟩
  · exact h.elim
theorem ite_out' {c : Prop} [Decidable c] {K : Prop} (h : if c then False else K) : ¬ c ∧ K := by
  split at h
  · exact h.elim
  · exact ⟨by assumption, h⟩
theorem underlying_run {t : TypeId} {d : TypeDesc} (h : P.underlying t = some d) : (underlying t).run P w = .ok d w := by
  simp [underlying, h]
theorem intX_out {op : BinOp} {k k' : IntKind} {a b : Int} {t : TypeId} {K : Value → Prop} (hk : isShift op = true ∨ k = k') (h : intX op k a b K) :
    ∃ v, (Go.binOp op t (.int k a) (.int k' b)).run P w = .ok v w ∧ K v := by
  cases op <;> simp only [intX, nz, nng] at h <;> simp only [isShift, Bool.false_eq_true, false_or, true_or] at hk <;> (try subst hk)
  case add | sub | mul => exact ⟨_, by simp [Go.binOp, Op.intArith], h⟩
  case quo | rem => obtain ⟨h0, h⟩ := h; exact ⟨_, by simp [Go.binOp, Op.intDiv, h0], h⟩
  case and | or | xor | andNot => exact ⟨_, by simp [Go.binOp, Op.intBits, bitX], h⟩
  case shl | shr => obtain ⟨h0, h⟩ := h; exact ⟨_, by simp [Go.binOp, Op.shift, Int.not_lt.2 h0], h⟩
  case eql | neq | lss | leq | gtr | geq => exact ⟨_, by simp [Go.binOp, Op.intCmp], h⟩
theorem eqGuard_run {op : BinOp} {t : TypeId} {x y : Operand} {a b : Value} (h : (∀ xs ys, ¬ (a = .agg xs ∧ b = .agg ys)) ∧ ¬ (a = .nilIface ∧ b = .nilIface)) : (eqGuard op t x y a b).run P w = .ok () w := by
  have key : (match a, b with
      | .nilIface, .nilIface => (do
        if (x matches .const _) || (y matches .const _) then return
        if ← Op.eqGuardIn Op.maxDepth t a b then unsupported (.noEntry "binop/eql: two nil values of an interface type with methods, neither of them the literal nil") : Sem Unit)
      | .agg _, .agg _ => (do
        if !(← program).eqGuardType (← program).depth t then return
        if ← Op.eqGuardIn Op.maxDepth t a b then unsupported (.noEntry "binop/eql: two nil values of an interface type with methods, in a part of a struct or an array") : Sem Unit)
      | _, _ => pure ()).run P w = .ok () w := by
    split
    · exact absurd ⟨rfl, rfl⟩ h.2
    · exact absurd ⟨rfl, rfl⟩ (h.1 _ _)
    · rfl
  cases op <;> first | rfl | exact key
theorem eqGuard_any {op : BinOp} {t : TypeId} {x y : Operand} {a b : Value} (h : (eqGuard op t (.tmp 0) (.tmp 0) a b).run P w = .ok () w) : (eqGuard op t x y a b).run P w = .ok () w := by
  by_cases hn : a = .nilIface ∧ b = .nilIface
  · obtain ⟨rfl, rfl⟩ := hn
    have h' : (if (x matches .const _) || (y matches .const _) then true else false) = true ∨ (if (x matches .const _) || (y matches .const _) then true else false) = false := by cases (if (x matches .const _) || (y matches .const _) then true else false) <;> simp
    cases op <;> first | rfl | skip
    all_goals
      cases x <;> cases y <;> first | exact h | rfl
  · by_cases ha : ∀ xs ys, ¬ (a = .agg xs ∧ b = .agg ys)
    · exact eqGuard_run ⟨ha, hn⟩
    · simp only [Classical.not_forall, Classical.not_not] at ha
      obtain ⟨xs, ys, rfl, rfl⟩ := ha
      cases op <;> exact h
theorem strX_out {op : BinOp} {a b : ByteArray} {t : TypeId} {K : Value → Prop} (h : strX op a b K) : ∃ v, (Go.binOp op t (.string a) (.string b)).run P w = .ok v w ∧ K v := by
  cases op <;> simp only [strX] at h
  case add =>
    obtain ⟨h0, h⟩ := h
    refine ⟨_, ?_, h⟩
    have h1 : ¬ ((a.size + b.size : Nat) : Int) > IntKind.i64.max := by omega
    simp only [Go.binOp, Op.stringOp, if_neg h1, Sem.run_pure]
  case eql | neq | lss => exact ⟨_, by simp [Go.binOp, Op.stringOp], h⟩
  all_goals exact h.elim
theorem run_sameAddr {a b : Addr} (h : a.block = b.block ∨ (bare w a.block ∧ bare w b.block)) : (sameAddr a b).run P w = .ok (a == b) w := by
  unfold sameAddr
  by_cases e : a.block = b.block
  · simp [e]
  · obtain ⟨⟨cs, t, h1⟩, ⟨cs', t', h2⟩⟩ := h.resolve_left e
    have f1 : w.frozen? a = false := by simp [World.frozen?, h1]
    have f2 : w.frozen? b = false := by simp [World.frozen?, h2]
    have s1 : w.shape? a.block = some (t, cs.size) := by simp [World.shape?, h1]
    have s2 : w.shape? b.block = some (t', cs'.size) := by simp [World.shape?, h2]
    have f3 : w.frozen? { block := a.block, off := cs.size } = false := by simp [World.frozen?, h1]
    have f4 : w.frozen? { block := b.block, off := cs'.size } = false := by simp [World.frozen?, h2]
    have ne : (a == b) = false := by
      rw [beq_eq_false_iff_ne]; intro hab; exact e (by rw [hab])
    simp [e, f1, f2, s1, s2, f3, f4, noView, viewAt, mayBeOne, stringish, ne]
theorem run_eq_ptr {op : BinOp} {t e : TypeId} {p q : Option Addr} {b : Bool} (hu : P.underlying t = some (.pointer e)) (hop : op = .eql ∨ op = .neq)
    (h : (Op.equalIn (9999 + 1) t (.pointer p) (.pointer q)).run P w = .ok b w) : (Go.binOp op t (.pointer p) (.pointer q)).run P w = .ok (.bool (match op with | .eql => b | _ => !b)) w := by
  rcases hop with rfl | rfl
  · show (do pure (.bool (← Op.equalIn (9999 + 1) t (.pointer p) (.pointer q))) : Sem Value).run P w = _
    rw [Sem.run_bind, h]; rfl
  · show (do pure (.bool (!(← Op.equalIn (9999 + 1) t (.pointer p) (.pointer q)))) : Sem Value).run P w = _
    rw [Sem.run_bind, h]; rfl
theorem equalIn_ptr_nil {t e : TypeId} {p : Option Addr} (hu : P.underlying t = some (.pointer e)) : (Op.equalIn (9999 + 1) t (.pointer p) (.pointer none)).run P w = .ok p.isNone w := by
  have := underlying_run (P := P) (w := w) hu
  rw [Op.equalIn, Sem.run_bind, this]
  cases p <;> rfl
theorem equalIn_ptr_ptr {t e : TypeId} {a b : Addr} (hu : P.underlying t = some (.pointer e)) (h0 : ¬ sizeT P e = 0) (hb : a.block = b.block ∨ (bare w a.block ∧ bare w b.block)) :
    (Op.equalIn (9999 + 1) t (.pointer (some a)) (.pointer (some b))).run P w = .ok (a == b) w := by
  have := underlying_run (P := P) (w := w) hu
  have hs := sizeOf_run P e w (size_info h0)
  rw [Op.equalIn, Sem.run_bind, this]
  simp only [Result.andThen_ok, Sem.run_bind, hs, ne_eq, h0, not_false_eq_true, if_true, run_sameAddr hb]
theorem run_eq_slice_nil {op : BinOp} {t e : TypeId} {p : Option Addr} {n c n' c' : Nat} (hu : P.underlying t = some (.slice e)) (hop : op = .eql ∨ op = .neq) :
    (Go.binOp op t (.slice p n c) (.slice none n' c')).run P w = .ok (.bool (match op with | .eql => p.isNone | _ => !p.isNone)) w := by
  have hr := underlying_run (P := P) (w := w) hu
  have h : (Op.equalIn (9999 + 1) t (.slice p n c) (.slice none n' c')).run P w = .ok p.isNone w := by
    rw [Op.equalIn, Sem.run_bind, hr]
    cases p <;> rfl
  rcases hop with rfl | rfl
  · show (do pure (.bool (← Op.equalIn (9999 + 1) t (.slice p n c) (.slice none n' c'))) : Sem Value).run P w = _
    rw [Sem.run_bind, h]; rfl
  · show (do pure (.bool (!(← Op.equalIn (9999 + 1) t (.slice p n c) (.slice none n' c')))) : Sem Value).run P w = _
    rw [Sem.run_bind, h]; rfl
theorem binX_out {op : BinOp} {t : TypeId} {x y : Value} {ox oy : Operand} {K : Value → Prop} (h : binX P op t x y w K) :
    ∃ v, (do eqGuard op t ox oy x y; Go.binOp op t x y : Sem Value).run P w = .ok v w ∧ K v := by
  unfold binX at h
  cases hk : kdOf P t with
  | int k0 =>
    rw [hk] at h
    cases x <;> cases y <;> simp only at h <;> try exact h.elim
    obtain ⟨hc, h⟩ := ite_out h
    obtain ⟨v, h1, h2⟩ := intX_out (P := P) (w := w) (t := t) (by simpa using hc) h
    exact ⟨v, by rw [Sem.run_bind, eqGuard_run (by simp)]; exact h1, h2⟩
  | str =>
    rw [hk] at h
    cases x <;> cases y <;> simp only at h <;> try exact h.elim
    obtain ⟨v, h1, h2⟩ := strX_out (P := P) (w := w) (t := t) h
    exact ⟨v, by rw [Sem.run_bind, eqGuard_run (by simp)]; exact h1, h2⟩
  | bool =>
    rw [hk] at h
    have hu : P.underlying t = some .bool := by
      unfold kdOf at hk
      split at hk <;> first | assumption | cases hk
    cases x <;> cases y <;> simp only at h <;> try exact h.elim
    cases op <;> simp only at h <;> try exact h.elim
    · exact ⟨_, by rw [Sem.run_bind, eqGuard_run (by simp)]; exact run_eql_bool (P := P) w t _ _ hu, h⟩
    · exact ⟨_, by rw [Sem.run_bind, eqGuard_run (by simp)]; exact run_neq_bool (P := P) w t _ _ hu, h⟩
  | ptr =>
    rw [hk] at h
    have hu : ∃ e, P.underlying t = some (.pointer e) := by
      unfold kdOf at hk
      split at hk <;> first | exact ⟨_, by assumption⟩ | cases hk
    obtain ⟨e, hu⟩ := hu
    cases x <;> cases y <;> simp only at h <;> try exact h.elim
    rename_i p q
    cases op <;> simp only at h <;> try exact h.elim
    all_goals
      cases q with
      | none => exact ⟨_, by rw [Sem.run_bind, eqGuard_run (by simp)]; exact run_eq_ptr hu (by simp) (equalIn_ptr_nil hu), h⟩
      | some qa =>
        cases p with
        | none => exact h.elim
        | some pa =>
          simp only [hu] at h
          obtain ⟨h0, hb, h⟩ := ite_out' h
          exact ⟨_, by rw [Sem.run_bind, eqGuard_run (by simp)]; exact run_eq_ptr hu (by simp) (equalIn_ptr_ptr hu h0 hb), h⟩
  | slice =>
    rw [hk] at h
    have hu : ∃ e, P.underlying t = some (.slice e) := by
      unfold kdOf at hk
      split at hk <;> first | exact ⟨_, by assumption⟩ | cases hk
    obtain ⟨e, hu⟩ := hu
    cases x <;> cases y <;> simp only at h <;> try exact h.elim
    rename_i p n c q n' c'
    cases q with
    | some _ => exact h.elim
    | none =>
      cases op <;> simp only at h <;> try exact h.elim
      all_goals exact ⟨_, by rw [Sem.run_bind, eqGuard_run (by simp)]; exact run_eq_slice_nil hu (by simp), h⟩
  | other =>
    rw [hk] at h
    cases op <;> simp only [eqA, runB] at h <;> try exact h.elim
    all_goals
      obtain ⟨h0, b, h1, h2⟩ := h
      exact ⟨_, by rw [Sem.run_bind, eqGuard_any h0]; exact h1, h2⟩
theorem eqGuard_const {op : BinOp} {t : TypeId} {ox oy : Operand} {x : Value} (h : (isC ox || isC oy) = true) : (eqGuard op t ox oy x .nilIface).run P w = .ok () w := by
  unfold eqGuard
  cases op <;> cases x <;> cases ox <;> cases oy <;> first | rfl | (simp [isC] at h)
theorem binC_out {op : BinOp} {t : TypeId} {x y : Value} {ox oy : Operand} {K : Value → Prop} (h : binC (isC ox || isC oy) P op t x y w K) :
    ∃ v, (do eqGuard op t ox oy x y; Go.binOp op t x y : Sem Value).run P w = .ok v w ∧ K v := by
  unfold binC at h
  cases hc : ((isC ox || isC oy) && (nilY y && otherK (kdOf P t))) with
  | false => rw [hc] at h; exact binX_out h
  | true =>
    rw [hc] at h
    simp only [Bool.and_eq_true] at hc
    obtain ⟨h1, h2, -⟩ := hc
    have hy : y = .nilIface := by cases y <;> simp_all [nilY]
    subst hy
    cases op <;> simp only [eqN, runB] at h <;> try exact h.elim
    all_goals
      obtain ⟨b, h3, h4⟩ := h
      exact ⟨_, by rw [Sem.run_bind, eqGuard_const h1]; exact h3, h4⟩
end Go.Proofs.YtbnadobjnmboiaaDoor.X
