/-
  E, part 6: an operation within the walk; regions in their text's order.
-/
import Derived.Test.YtbnadobjnmboiaaDoorX5
namespace Go.Proofs.YtbnadobjnmboiaaDoor.X
open Go
set_option linter.unusedVariables false
set_option linter.unusedSimpArgs false
variable {P : Program} {w : World}

/-! ### Typed results -/
theorem exK_out {kds : List Kd} {K : List Value → Prop} (h : exK kds K) : ∃ vs, K vs := by
  induction kds generalizing K with
  | nil => exact ⟨_, h⟩
  | cons kd r ih =>
    cases kd <;> simp only [exK] at h
    · obtain ⟨n, h⟩ := h; obtain ⟨vs, h⟩ := ih h; exact ⟨_, h⟩
    · obtain ⟨n, h⟩ := h; obtain ⟨vs, h⟩ := ih h; exact ⟨_, h⟩
    · obtain ⟨n, h⟩ := h; obtain ⟨vs, h⟩ := ih h; exact ⟨_, h⟩
    · obtain ⟨n, h⟩ := h; obtain ⟨vs, h⟩ := ih h; exact ⟨_, h⟩
    · obtain ⟨p, n, c, h⟩ := h; obtain ⟨vs, h⟩ := ih h; exact ⟨_, h⟩
    · obtain ⟨n, h⟩ := h; obtain ⟨vs, h⟩ := ih h; exact ⟨_, h⟩
theorem exT_out {t : TypeId} {K : Value → Prop} (h : exT P t K) : ∃ v, K v := by
  unfold exT at h
  split at h
  · obtain ⟨vs, h⟩ := exK_out h; exact ⟨_, h⟩
  · split at h
    · exact ⟨_, h.choose_spec⟩
    · exact ⟨_, h.choose_spec⟩
    · exact ⟨_, h.choose_spec⟩
    · exact ⟨_, h.choose_spec⟩
    · obtain ⟨p, n, c, h⟩ := h; exact ⟨_, h⟩
    · exact ⟨_, h.choose_spec⟩
theorem exTs_out {ts : List TypeId} {K : List Value → Prop} (h : exTs P ts K) : ∃ vs, K vs := by
  induction ts generalizing K with
  | nil => exact ⟨_, h⟩
  | cons t r ih => simp only [exTs] at h; obtain ⟨v, h⟩ := exT_out h; obtain ⟨vs, h⟩ := ih h; exact ⟨_, h⟩
theorem isT_out {t : TypeId} {v : Value} {K : Value → Prop} (h : isT P t v K) : K v := by
  unfold isT at h
  split at h
  · obtain ⟨vs, h1, h2⟩ := exTs_out h; rw [h1]; exact h2
  · obtain ⟨v', h1, h2⟩ := exT_out h; rw [h1]; exact h2

/-! ### Operations -/
theorem value_run {s : Sem Value} {v : Value} {w' : World} (h : s.run P w = .ok v w') : (do pure (Next.value (← s)) : Sem Next).run P w = .ok (.value v) w' := by
  rw [Sem.run_bind, h]; rfl
def OkOp (P : Program) (o : Oper) (a : Act) (w : World) (K : Value → World → Prop) : Prop :=
  ∃ v w', K v w' ∧ ((execOp a.eval o).run P w = .ok (.value v) w' ∨ (v = undef ∧ (execOp a.eval o).run P w = .ok .skip w'))
theorem OkOp.val {o : Oper} {a : Act} {K : Value → World → Prop} {s : Sem Value} {v : Value} {w' : World} (he : execOp a.eval o = (do pure (Next.value (← s)))) (h : s.run P w = .ok v w') (hK : K v w') : OkOp P o a w K :=
  ⟨v, w', hK, .inl (by rw [he]; exact value_run h)⟩
theorem mxI_out {k : IntKind} {K : Int → Prop} : ∀ (r : List Value) (x : Int), mxI k K x r → ∃ n, (r.foldlM Builtin.max2 (.int k x)).run P w = .ok (.int k n) w ∧ K n := by
  intro r
  induction r with
  | nil => intro x h; exact ⟨x, rfl, h⟩
  | cons y r ih =>
    intro x h
    cases y <;> simp only [mxI] at h
    obtain ⟨e, h'⟩ := ite_out h
    subst e
    obtain ⟨n, h1, h2⟩ := ih _ h'
    exact ⟨n, by rw [List.foldlM_cons, Sem.run_bind]; exact h1, h2⟩
theorem mnI_out {k : IntKind} {K : Int → Prop} : ∀ (r : List Value) (x : Int), mnI k K x r → ∃ n, (r.foldlM Builtin.min2 (.int k x)).run P w = .ok (.int k n) w ∧ K n := by
  intro r
  induction r with
  | nil => intro x h; exact ⟨x, rfl, h⟩
  | cons y r ih =>
    intro x h
    cases y <;> simp only [mnI] at h
    obtain ⟨e, h'⟩ := ite_out h
    subst e
    obtain ⟨n, h1, h2⟩ := ih _ h'
    exact ⟨n, by rw [List.foldlM_cons, Sem.run_bind]; exact h1, h2⟩
theorem len_run {ats : Array TypeId} {ty t : TypeId} {r : List TypeId} {v : Value} {vr : List Value} {n : Nat} (ha : ats.toList = t :: r)
    (h : (P.underlying t = some .string ∧ ∃ s, v = .string s ∧ n = s.size) ∨ ((∃ e, P.underlying t = some (.slice e)) ∧ ∃ p c, v = .slice p n c) ∨ ∃ e, P.underlying t = some (.array n e)) :
    (Builtin.len_ ats ty (v :: vr).toArray).run P w = .ok (.int .i64 n) w := by
  have h0 : ats[0]? = some t := by rw [← Array.getElem?_toList, ha]; rfl
  rcases h with ⟨hu, s, rfl, rfl⟩ | ⟨⟨e, hu⟩, p, c, rfl⟩ | ⟨e, hu⟩
  · simp [Builtin.len_, h0, underlying_run hu, goInt]
  · simp [Builtin.len_, h0, underlying_run hu, goInt]
  · simp [Builtin.len_, h0, underlying_run hu, goInt]
theorem cap_run {ats : Array TypeId} {ty t e : TypeId} {r : List TypeId} {vr : List Value} {p : Option Addr} {n c : Nat} (ha : ats.toList = t :: r) (hu : P.underlying t = some (.slice e)) :
    (Builtin.cap_ ats ty (.slice p n c :: vr).toArray).run P w = .ok (.int .i64 c) w := by
  have h0 : ats[0]? = some t := by rw [← Array.getElem?_toList, ha]; rfl
  simp [Builtin.cap_, h0, underlying_run hu, goInt]
theorem builtX_out {b : Builtin} {ats : Array TypeId} {ty : TypeId} {cs : Array Bool} {vs : List Value} {K : Value → World → Prop} (h : builtX P b ats ty vs w K) :
    ∃ v w', K v w' ∧ (Go.builtin b ats ty cs vs.toArray).run P w = .ok (.value v) w' := by
  unfold builtX at h
  split at h
  · -- len
    split at h
    · rename_i t r v vr ha
      split at h
      · rename_i hu
        split at h
        · exact ⟨_, _, h, value_run (len_run ha (.inl ⟨hu, _, rfl, rfl⟩))⟩
        · exact h.elim
      · rename_i e hu
        split at h
        · exact ⟨_, _, h, value_run (len_run ha (.inr (.inl ⟨⟨_, hu⟩, _, _, rfl⟩)))⟩
        · exact h.elim
      · rename_i hu
        exact ⟨_, _, h, value_run (len_run ha (.inr (.inr ⟨_, hu⟩)))⟩
      · exact h.elim
    · exact h.elim
  · -- cap
    split at h
    · rename_i t r v vr ha
      split at h
      · rename_i e hu
        split at h
        · exact ⟨_, _, h, value_run (cap_run ha hu)⟩
        · exact h.elim
      · exact h.elim
    · exact h.elim
  · -- max
    split at h
    · obtain ⟨n, h1, h2⟩ := mxI_out (P := P) (w := w) _ _ h
      exact ⟨_, _, h2, value_run (by simpa [Builtin.max_] using h1)⟩
    · exact h.elim
  · -- min
    split at h
    · obtain ⟨n, h1, h2⟩ := mnI_out (P := P) (w := w) _ _ h
      exact ⟨_, _, h2, value_run (by simpa [Builtin.min_] using h1)⟩
    · exact h.elim
  · obtain ⟨p, n, c, w', h1, h2⟩ := h; exact ⟨_, _, h2, value_run h1⟩
  · obtain ⟨n, w', h1, h2⟩ := h; exact ⟨_, _, h2, value_run h1⟩
  · obtain ⟨v, w', h1, h2, h3⟩ := h; subst h2; exact ⟨_, w', h3, value_run h1⟩
  · exact h.elim

theorem toArray_map {xs : Array Operand} {a : Act} {vs : List Value} (h : xs.toList.map a.eval = vs) : xs.map a.eval = vs.toArray := map_toArray h
theorem parts_map {xs : Array (Nat × Operand)} {a : Act} {vs : List Value} (h : (xs.toList.map (·.2)).map a.eval = vs) : (xs.map fun x => (x.1, a.eval x.2)) = ((xs.toList.map (·.1)).zip vs).toArray := by
  subst h
  apply Array.toList_inj.1
  simp only [Array.toList_map]
  induction xs.toList with
  | nil => rfl
  | cons x r ih => simp [ih]
theorem enters_out {f : FuncId} (h : enters P f = true) : ∃ fn, P.funcs[f]? = some fn ∧ fn.body.isSome = true ∧ (fn.name == "runtime.NumGoroutine") = false := by
  unfold enters at h
  split at h
  · rename_i fn hf
    simp only [Bool.and_eq_true, Bool.not_eq_true'] at h
    exact ⟨fn, hf, h.1, h.2⟩
  · cases h
set_option maxHeartbeats 1000000 in
theorem op_move {pa : PF} {a : Act} (hle : pa.le a) {dst : Option Tmp} {ty : TypeId} {pos : String} {after : Array Edge} {guard : Option (Nat × Bool)} {K : Value → World → Prop} (x : Operand) (h : opX P pa.t ⟨dst, .move x, ty, pos, after, guard⟩ w K) : OkOp P ⟨dst, .move x, ty, pos, after, guard⟩ a w K := by
  simp only [opX] at h
  obtain ⟨v, h1, h2⟩ := evK_out h; exact ⟨v, w, h2, .inl (by simp [execOp, ev_sound hle h1])⟩
set_option maxHeartbeats 1000000 in
theorem op_assign {pa : PF} {a : Act} (hle : pa.le a) {dst : Option Tmp} {ty : TypeId} {pos : String} {after : Array Edge} {guard : Option (Nat × Bool)} {K : Value → World → Prop} (x : Operand) (h : opX P pa.t ⟨dst, .assign x, ty, pos, after, guard⟩ w K) : OkOp P ⟨dst, .assign x, ty, pos, after, guard⟩ a w K := by
  simp only [opX] at h
  obtain ⟨v, h1, h2⟩ := evK_out h; exact ⟨v, w, h2, .inl (by simp [execOp, ev_sound hle h1])⟩
set_option maxHeartbeats 1000000 in
theorem op_pick {pa : PF} {a : Act} (hle : pa.le a) {dst : Option Tmp} {ty : TypeId} {pos : String} {after : Array Edge} {guard : Option (Nat × Bool)} {K : Value → World → Prop} (c x y : Operand) (h : opX P pa.t ⟨dst, .pick c x y, ty, pos, after, guard⟩ w K) : OkOp P ⟨dst, .pick c x y, ty, pos, after, guard⟩ a w K := by
  simp only [opX] at h
  obtain ⟨v, h1, h2⟩ := evK_out h
  have e := ev_sound hle h1
  cases v <;> simp only at h2
  rename_i b
  cases b
  · obtain ⟨v, h3, h4⟩ := evK_out h2
    exact ⟨v, w, h4, .inl (by simp [execOp, e, asBool, ev_sound hle h3])⟩
  · obtain ⟨v, h3, h4⟩ := evK_out h2
    exact ⟨v, w, h4, .inl (by simp [execOp, e, asBool, ev_sound hle h3])⟩
set_option maxHeartbeats 1000000 in
theorem op_alloc {pa : PF} {a : Act} (hle : pa.le a) {dst : Option Tmp} {ty : TypeId} {pos : String} {after : Array Edge} {guard : Option (Nat × Bool)} {K : Value → World → Prop} (e : TypeId) (h : opX P pa.t ⟨dst, .alloc e, ty, pos, after, guard⟩ w K) : OkOp P ⟨dst, .alloc e, ty, pos, after, guard⟩ a w K := by
  simp only [opX] at h
  split at h
  · rename_i cs hz
    obtain ⟨z, h1, h2⟩ := zeroC_run hz w
    refine ⟨_, _, h, .inl (value_run (s := Instr.alloc e true (.tuple #[])) ?_)⟩
    simp only [Instr.alloc, Sem.run_bind, h1, Result.andThen_ok, run_newVar, Sem.run_pure, h2]
  · exact h.elim
set_option maxHeartbeats 1000000 in
theorem op_box {pa : PF} {a : Act} (hle : pa.le a) {dst : Option Tmp} {ty : TypeId} {pos : String} {after : Array Edge} {guard : Option (Nat × Bool)} {K : Value → World → Prop} (e : TypeId) (x : Operand) (h : opX P pa.t ⟨dst, .box e x, ty, pos, after, guard⟩ w K) : OkOp P ⟨dst, .box e x, ty, pos, after, guard⟩ a w K := by
  simp only [opX] at h
  obtain ⟨v, h1, h2⟩ := evK_out h
  have ee := ev_sound hle h1
  refine ⟨_, _, (?_ : K (.pointer (some ⟨w.heap.size, 0, none⟩)) (w.alloc (.cells v.cells e))), .inl (value_run (s := Instr.box e (a.eval x)) ?_)⟩
  · split at h2
    · rw [cellsL_eq] at h2; simpa [alc] using h2
    · obtain ⟨_, hcs, h3⟩ := oneK_out h2; rw [hcs]; exact h3
  · simp only [Instr.box, Sem.run_bind, run_newVar, Result.andThen_ok, Sem.run_pure, ee]
set_option maxHeartbeats 1000000 in
theorem op_build {pa : PF} {a : Act} (hle : pa.le a) {dst : Option Tmp} {ty : TypeId} {pos : String} {after : Array Edge} {guard : Option (Nat × Bool)} {K : Value → World → Prop} (t : TypeId) (parts : Array (Nat × Operand)) (h : opX P pa.t ⟨dst, .build t parts, ty, pos, after, guard⟩ w K) : OkOp P ⟨dst, .build t parts, ty, pos, after, guard⟩ a w K := by
  simp only [opX] at h
  obtain ⟨vs, h1, h2⟩ := evsK_out h
  split at h2
  · rename_i cs hb
    refine ⟨_, _, h2, .inl (value_run (s := Instr.build t (parts.map fun x => (x.1, a.eval x.2))) ?_)⟩
    rw [parts_map (evs_sound hle h1)]; exact build_out hb
  · exact h2.elim
set_option maxHeartbeats 1000000 in
theorem op_buildSlice {pa : PF} {a : Act} (hle : pa.le a) {dst : Option Tmp} {ty : TypeId} {pos : String} {after : Array Edge} {guard : Option (Nat × Bool)} {K : Value → World → Prop} (t : TypeId) (len : Nat) (parts : Array (Nat × Operand)) (h : opX P pa.t ⟨dst, .buildSlice t len parts, ty, pos, after, guard⟩ w K) : OkOp P ⟨dst, .buildSlice t len parts, ty, pos, after, guard⟩ a w K := by
  simp only [opX] at h
  split at h
  · rename_i e hu
    obtain ⟨vs, h1, h2⟩ := evsK_out h
    split at h2
    · rename_i cs hb
      have h3 : K (.slice (some ⟨w.heap.size, 0, none⟩) len len) (w.alloc (.cells cs.toArray e)) := h2
      have h4 := buildS_out (P := P) (w := w) hu hb
      rw [← parts_map (evs_sound hle h1)] at h4
      exact ⟨_, _, h3, .inl (value_run h4)⟩
    · exact h2.elim
  · exact h.elim
set_option maxHeartbeats 1000000 in
theorem op_load {pa : PF} {a : Act} (hle : pa.le a) {dst : Option Tmp} {ty : TypeId} {pos : String} {after : Array Edge} {guard : Option (Nat × Bool)} {K : Value → World → Prop} (t : TypeId) (x : Operand) (h : opX P pa.t ⟨dst, .load t x, ty, pos, after, guard⟩ w K) : OkOp P ⟨dst, .load t x, ty, pos, after, guard⟩ a w K := by
  simp only [opX] at h
  obtain ⟨p, h1, h2⟩ := evK_out h
  cases p <;> simp only at h2
  obtain ⟨ad, rfl, h3⟩ := nn_out h2
  obtain ⟨v, h4, h5⟩ := ldT_out h3
  exact ⟨_, w, h5, .inl (value_run (s := Instr.loadAt t (a.eval x)) (by simp [Instr.loadAt, Instr.sureAddr, ev_sound hle h1, h4]))⟩
set_option maxHeartbeats 1000000 in
theorem op_store {pa : PF} {a : Act} (hle : pa.le a) {dst : Option Tmp} {ty : TypeId} {pos : String} {after : Array Edge} {guard : Option (Nat × Bool)} {K : Value → World → Prop} (t : TypeId) (x y : Operand) (h : opX P pa.t ⟨dst, .store t x y, ty, pos, after, guard⟩ w K) : OkOp P ⟨dst, .store t x y, ty, pos, after, guard⟩ a w K := by
  simp only [opX] at h
  obtain ⟨p, h1, h2⟩ := evK_out h
  obtain ⟨v, h3, h4⟩ := evK_out h2
  cases p <;> simp only at h4
  obtain ⟨ad, rfl, h5⟩ := nn_out h4
  obtain ⟨w', h6, h7⟩ := stT_out h5
  refine ⟨_, w', h7, .inr ⟨rfl, ?_⟩⟩
  simp [execOp, Instr.storeAt, Instr.sureAddr, ev_sound hle h1, ev_sound hle h3, h6]
set_option maxHeartbeats 1000000 in
theorem op_nilCheck {pa : PF} {a : Act} (hle : pa.le a) {dst : Option Tmp} {ty : TypeId} {pos : String} {after : Array Edge} {guard : Option (Nat × Bool)} {K : Value → World → Prop} (x : Operand) (h : opX P pa.t ⟨dst, .nilCheck x, ty, pos, after, guard⟩ w K) : OkOp P ⟨dst, .nilCheck x, ty, pos, after, guard⟩ a w K := by
  simp only [opX] at h
  obtain ⟨v, h1, h2⟩ := evK_out h
  have e := ev_sound hle h1
  cases v with
  | pointer p =>
    obtain ⟨ad, rfl, h3⟩ := nn_out h2
    exact ⟨_, w, h3, .inl (by simp only [execOp, e]; rfl)⟩
  | func fn f c =>
    cases fn with
    | method n => exact h2.elim
    | _ => exact ⟨_, w, h2, .inl (by simp only [execOp, e]; rfl)⟩
  | nilFunc => exact h2.elim
  | nilIface => exact h2.elim
  | _ => exact ⟨_, w, h2, .inl (by simp only [execOp, e]; rfl)⟩
set_option maxHeartbeats 1000000 in
theorem op_binOp {pa : PF} {a : Act} (hle : pa.le a) {dst : Option Tmp} {ty : TypeId} {pos : String} {after : Array Edge} {guard : Option (Nat × Bool)} {K : Value → World → Prop} (op : BinOp) (t : TypeId) (x y : Operand) (t' : TypeId) (h : opX P pa.t ⟨dst, .binOp op t x y t', ty, pos, after, guard⟩ w K) : OkOp P ⟨dst, .binOp op t x y t', ty, pos, after, guard⟩ a w K := by
  simp only [opX] at h
  obtain ⟨vx, h1, h2⟩ := evK_out h
  obtain ⟨vy, h3, h4⟩ := evK_out h2
  obtain ⟨v, h5, h6⟩ := binC_out (ox := x) (oy := y) h4
  refine ⟨v, w, h6, .inl ?_⟩
  rw [← ev_sound hle h1, ← ev_sound hle h3] at h5
  exact value_run h5
set_option maxHeartbeats 1000000 in
theorem op_unOp {pa : PF} {a : Act} (hle : pa.le a) {dst : Option Tmp} {ty : TypeId} {pos : String} {after : Array Edge} {guard : Option (Nat × Bool)} {K : Value → World → Prop} (op : UnOp) (t : TypeId) (x : Operand) (h : opX P pa.t ⟨dst, .unOp op t x, ty, pos, after, guard⟩ w K) : OkOp P ⟨dst, .unOp op t x, ty, pos, after, guard⟩ a w K := by
  simp only [opX] at h
  obtain ⟨vx, h1, h2⟩ := evK_out h
  have e := ev_sound hle h1
  cases op <;> cases vx <;> simp only [unX] at h2 <;> try exact h2.elim
  · exact ⟨_, w, h2, .inl (by simp [execOp, e, Op.unary, Op.intArith])⟩
  · exact ⟨_, w, h2, .inl (by simp [execOp, e, Op.unary, Op.intBits, bitX])⟩
  · exact ⟨_, w, h2, .inl (by simp [execOp, e, Op.unary])⟩
set_option maxHeartbeats 1000000 in
theorem op_convert {pa : PF} {a : Act} (hle : pa.le a) {dst : Option Tmp} {ty : TypeId} {pos : String} {after : Array Edge} {guard : Option (Nat × Bool)} {K : Value → World → Prop} (s d : TypeId) (x : Operand) (h : opX P pa.t ⟨dst, .convert s d x, ty, pos, after, guard⟩ w K) : OkOp P ⟨dst, .convert s d x, ty, pos, after, guard⟩ a w K := by
  simp only [opX] at h
  obtain ⟨vx, h1, h2⟩ := evK_out h
  obtain ⟨v, w', h3, h4⟩ := cvX_out h2
  exact ⟨v, w', h4, .inl (by rw [← ev_sound hle h1] at h3; exact value_run h3)⟩
set_option maxHeartbeats 1000000 in
theorem op_makeInterface {pa : PF} {a : Act} (hle : pa.le a) {dst : Option Tmp} {ty : TypeId} {pos : String} {after : Array Edge} {guard : Option (Nat × Bool)} {K : Value → World → Prop} (t : TypeId) (x : Operand) (h : opX P pa.t ⟨dst, .makeInterface t x, ty, pos, after, guard⟩ w K) : OkOp P ⟨dst, .makeInterface t x, ty, pos, after, guard⟩ a w K := by
  simp only [opX] at h
  obtain ⟨vx, h1, h2⟩ := evK_out h
  split at h2
  · exact h2.elim
  · rename_i d hd hu
    refine ⟨_, w, h2, .inl (value_run (s := Instr.makeInterface t (a.eval x)) ?_)⟩
    simp only [Instr.makeInterface, Sem.run_bind, underlying_run hu, Result.andThen_ok, ev_sound hle h1]
    cases d <;> first | rfl | simp_all
  · exact h2.elim
set_option maxHeartbeats 1000000 in
theorem op_makeFunc {pa : PF} {a : Act} (hle : pa.le a) {dst : Option Tmp} {ty : TypeId} {pos : String} {after : Array Edge} {guard : Option (Nat × Bool)} {K : Value → World → Prop} (fn : Fn) (first cap : Array Operand) (h : opX P pa.t ⟨dst, .makeFunc fn first cap, ty, pos, after, guard⟩ w K) : OkOp P ⟨dst, .makeFunc fn first cap, ty, pos, after, guard⟩ a w K := by
  simp only [opX] at h
  obtain ⟨vs, h1, h2⟩ := evsK_out h
  obtain ⟨cs, h3, h4⟩ := evsK_out h2
  refine ⟨_, w, h4, .inl ?_⟩
  simp [execOp, Instr.makeFunc, toArray_map (evs_sound hle h1), toArray_map (evs_sound hle h3)]
set_option maxHeartbeats 1000000 in
theorem op_makeSlice {pa : PF} {a : Act} (hle : pa.le a) {dst : Option Tmp} {ty : TypeId} {pos : String} {after : Array Edge} {guard : Option (Nat × Bool)} {K : Value → World → Prop} (t : TypeId) (l c : Operand) (h : opX P pa.t ⟨dst, .makeSlice t l c, ty, pos, after, guard⟩ w K) : OkOp P ⟨dst, .makeSlice t l c, ty, pos, after, guard⟩ a w K := by
  simp only [opX] at h
  obtain ⟨vl, h1, h2⟩ := evK_out h
  obtain ⟨vc, h3, p, n, cc, w', h4, h5⟩ := evK_out h2
  refine ⟨_, w', h5, .inl ?_⟩
  rw [← ev_sound hle h1, ← ev_sound hle h3] at h4
  exact value_run h4
set_option maxHeartbeats 1000000 in
theorem op_slice {pa : PF} {a : Act} (hle : pa.le a) {dst : Option Tmp} {ty : TypeId} {pos : String} {after : Array Edge} {guard : Option (Nat × Bool)} {K : Value → World → Prop} (t : TypeId) (x : Operand) (lo hi mx : Option Operand) (h : opX P pa.t ⟨dst, .slice t x lo hi mx, ty, pos, after, guard⟩ w K) : OkOp P ⟨dst, .slice t x lo hi mx, ty, pos, after, guard⟩ a w K := by
  simp only [opX] at h
  obtain ⟨v, h1, h2⟩ := evK_out h
  obtain ⟨lo', h3, hl1, hl2⟩ := evO_out hle h2
  obtain ⟨hi', h4, hh1, hh2⟩ := evO_out hle h3
  obtain ⟨mx', h5, hm1, hm2⟩ := evO_out hle h4
  obtain ⟨v', w', h6, h7⟩ := slX_out hl1 hl2 hh1 hh2 hm1 hm2 h5
  refine ⟨_, w', h7, .inl ?_⟩
  rw [← ev_sound hle h1] at h6
  exact value_run h6
set_option maxHeartbeats 1000000 in
theorem op_fieldAddr {pa : PF} {a : Act} (hle : pa.le a) {dst : Option Tmp} {ty : TypeId} {pos : String} {after : Array Edge} {guard : Option (Nat × Bool)} {K : Value → World → Prop} (s : TypeId) (x : Operand) (f : Nat) (h : opX P pa.t ⟨dst, .fieldAddr s x f, ty, pos, after, guard⟩ w K) : OkOp P ⟨dst, .fieldAddr s x f, ty, pos, after, guard⟩ a w K := by
  simp only [opX] at h
  obtain ⟨v, h1, h2⟩ := evK_out h
  cases v <;> simp only at h2
  obtain ⟨ad, rfl, h3⟩ := nn_out h2
  split at h3
  · rename_i fs hu
    split at h3
    · rename_i fd hf
      obtain ⟨h0, h3⟩ := ite_out' h3
      refine ⟨_, w, h3, .inl (value_run (s := Instr.fieldAt s (a.eval x) f) ?_)⟩
      have hf' : fs[f]? = some fd := by simpa using hf
      simp only [Instr.fieldAt, Sem.run_bind, underlying_run hu, Result.andThen_ok, hf', ev_sound hle h1, Instr.sureAddr, Sem.run_pure, fieldPlace, sizeOf_run P fd.type w (size_info h0), h0, if_false]
    · exact h3.elim
  · exact h3.elim
set_option maxHeartbeats 1000000 in
theorem op_field {pa : PF} {a : Act} (hle : pa.le a) {dst : Option Tmp} {ty : TypeId} {pos : String} {after : Array Edge} {guard : Option (Nat × Bool)} {K : Value → World → Prop} (s : TypeId) (x : Operand) (f : Nat) (h : opX P pa.t ⟨dst, .field s x f, ty, pos, after, guard⟩ w K) : OkOp P ⟨dst, .field s x f, ty, pos, after, guard⟩ a w K := by
  simp only [opX] at h
  obtain ⟨v, h1, h2⟩ := evK_out h
  cases v <;> simp only at h2
  split at h2
  · rename_i fs hu
    split at h2
    · rename_i fd hf
      obtain ⟨v, h3, h4⟩ := partX_out (w := w) h2
      have hf' : fs[f]? = some fd := by simpa using hf
      refine ⟨_, w, h4, .inl (value_run (s := Instr.field s (a.eval x) f) ?_)⟩
      simp only [Instr.field, Sem.run_bind, underlying_run hu, Result.andThen_ok, hf', ev_sound hle h1, asAgg, Sem.run_pure, h3]
    · exact h2.elim
  · exact h2.elim
set_option maxHeartbeats 1000000 in
theorem op_indexAddr {pa : PF} {a : Act} (hle : pa.le a) {dst : Option Tmp} {ty : TypeId} {pos : String} {after : Array Edge} {guard : Option (Nat × Bool)} {K : Value → World → Prop} (t : TypeId) (x i : Operand) (h : opX P pa.t ⟨dst, .indexAddr t x i, ty, pos, after, guard⟩ w K) : OkOp P ⟨dst, .indexAddr t x i, ty, pos, after, guard⟩ a w K := by
  simp only [opX] at h
  obtain ⟨v, h1, h2⟩ := evK_out h
  obtain ⟨iv, h3, h4⟩ := evK_out h2
  cases iv <;> simp only at h4
  rename_i k i'
  split at h4
  · rename_i e hu
    cases v <;> simp only at h4
    obtain ⟨hi, ⟨h5, h6⟩, h7⟩ := ite_out h4
    obtain ⟨ad, rfl, h8⟩ := nn_out h7
    refine ⟨_, w, h8, .inl (value_run (s := Instr.indexAt t (a.eval x) (a.eval i)) ?_)⟩
    simp [Instr.indexAt, ev_sound hle h1, ev_sound hle h3, asIntOf, underlying_run hu, h5, h6, sizeOf_run P e w hi]
  · rename_i n e hu
    cases v <;> simp only at h4
    obtain ⟨hi, h4⟩ := ite_out h4
    obtain ⟨ad, rfl, ⟨h5, h6⟩, h7⟩ := nn_out h4
    refine ⟨_, w, h7, .inl (value_run (s := Instr.indexAt t (a.eval x) (a.eval i)) ?_)⟩
    simp [Instr.indexAt, ev_sound hle h1, ev_sound hle h3, asIntOf, underlying_run hu, h5, h6, sizeOf_run P e w hi, Instr.sureAddr]
  · exact h4.elim
set_option maxHeartbeats 1000000 in
theorem op_index {pa : PF} {a : Act} (hle : pa.le a) {dst : Option Tmp} {ty : TypeId} {pos : String} {after : Array Edge} {guard : Option (Nat × Bool)} {K : Value → World → Prop} (t : TypeId) (x i : Operand) (h : opX P pa.t ⟨dst, .index t x i, ty, pos, after, guard⟩ w K) : OkOp P ⟨dst, .index t x i, ty, pos, after, guard⟩ a w K := by
  simp only [opX] at h
  obtain ⟨v, h1, h2⟩ := evK_out h
  obtain ⟨iv, h3, h4⟩ := evK_out h2
  cases iv <;> simp only at h4
  rename_i k i'
  split at h4
  · rename_i hu
    cases v <;> simp only at h4
    obtain ⟨h5, b, h6, h7⟩ := h4
    refine ⟨_, w, h7, .inl (value_run (s := Instr.index t (a.eval x) (a.eval i)) ?_)⟩
    simp [Instr.index, ev_sound hle h1, ev_sound hle h3, asIntOf, underlying_run hu, h5, h6]
  · rename_i n e hu
    cases v <;> simp only at h4
    obtain ⟨hi, ⟨h5, h6⟩, h7⟩ := ite_out h4
    obtain ⟨v, h8, u, rfl, h9⟩ := elX_out (w := w) h7
    refine ⟨_, w, isT_out h9, .inl (value_run (s := Instr.index t (a.eval x) (a.eval i)) ?_)⟩
    simp only [Instr.index, ev_sound hle h1, ev_sound hle h3, asIntOf, Sem.run_bind, Sem.run_pure, Result.andThen_ok, underlying_run hu, h5, h6, and_self, if_true, sizeOf_run P e w hi, h8]
  · exact h4.elim
set_option maxHeartbeats 1000000 in
theorem op_extract {pa : PF} {a : Act} (hle : pa.le a) {dst : Option Tmp} {ty : TypeId} {pos : String} {after : Array Edge} {guard : Option (Nat × Bool)} {K : Value → World → Prop} (x : Operand) (j : Nat) (h : opX P pa.t ⟨dst, .extract x j, ty, pos, after, guard⟩ w K) : OkOp P ⟨dst, .extract x j, ty, pos, after, guard⟩ a w K := by
  simp only [opX] at h
  obtain ⟨v, h1, h2⟩ := evK_out h
  cases v with
  | tuple cs =>
    simp only at h2
    split at h2
    · rename_i v hv
      refine ⟨_, w, h2, .inl (value_run (s := Instr.extract (a.eval x) j) ?_)⟩
      have hv' : cs[j]? = some v := by rw [nthL_eq] at hv; simpa using hv
      simp [Instr.extract, ev_sound hle h1, hv']
    · exact h2.elim
  | _ => exact False.elim h2
set_option maxHeartbeats 1000000 in
theorem op_call {pa : PF} {a : Act} (hle : pa.le a) {dst : Option Tmp} {ty : TypeId} {pos : String} {after : Array Edge} {guard : Option (Nat × Bool)} {K : Value → World → Prop} (c : Call) (hc : ∀ f, c.callee ≠ .value f) (h : opX P pa.t ⟨dst, .call c, ty, pos, after, guard⟩ w K) : OkOp P ⟨dst, .call c, ty, pos, after, guard⟩ a w K := by
  simp only [opX] at h
  split at h
  · rename_i f hf; exact absurd hf (hc f)
  · rename_i b hb
    obtain ⟨vs, h1, h2⟩ := evsK_out h
    obtain ⟨v, w', h3, h4⟩ := builtX_out (cs := (c.args.map fun | .const _ => true | _ => false)) h2
    refine ⟨v, w', h3, .inl ?_⟩
    simp only [execOp, resolve, hb, Sem.run_bind, Sem.run_pure, Result.andThen_ok, invoke, toArray_map (evs_sound hle h1)]
    exact h4
  · exact h.elim
/-- an operation that hands over to no call -/
theorem opX_val {pa : PF} {a : Act} (hle : pa.le a) {o : Oper} {K : Value → World → Prop} (hc : ∀ c f, o.op = .call c → c.callee ≠ .value f) (h : opX P pa.t o w K) : OkOp P o a w K := by
  obtain ⟨dst, op, ty, pos, after, guard⟩ := o
  cases op
  case move x => exact op_move hle x h
  case assign x => exact op_assign hle x h
  case pick c x y => exact op_pick hle c x y h
  case alloc e => exact op_alloc hle e h
  case box e x => exact op_box hle e x h
  case build t parts => exact op_build hle t parts h
  case buildSlice t len parts => exact op_buildSlice hle t len parts h
  case load t x => exact op_load hle t x h
  case store t x y => exact op_store hle t x y h
  case nilCheck x => exact op_nilCheck hle x h
  case binOp op t x y t' => exact op_binOp hle op t x y t' h
  case unOp op t x => exact op_unOp hle op t x h
  case convert s d x => exact op_convert hle s d x h
  case makeInterface t x => exact op_makeInterface hle t x h
  case makeFunc fn first cap => exact op_makeFunc hle fn first cap h
  case makeSlice t l c => exact op_makeSlice hle t l c h
  case slice t x lo hi mx => exact op_slice hle t x lo hi mx h
  case fieldAddr s x f => exact op_fieldAddr hle s x f h
  case field s x f => exact op_field hle s x f h
  case indexAddr t x i => exact op_indexAddr hle t x i h
  case index t x i => exact op_index hle t x i h
  case extract x j => exact op_extract hle x j h
  case call c => exact op_call hle c (fun f => hc c f rfl) h
  all_goals exact False.elim h
end Go.Proofs.YtbnadobjnmboiaaDoor.X
