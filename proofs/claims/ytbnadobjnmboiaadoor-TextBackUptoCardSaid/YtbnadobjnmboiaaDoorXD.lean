/-
  E: regions that draw their order: one order serves every order.
-/
import Derived.Test.YtbnadobjnmboiaaDoorX7
import Derived.Still
namespace Go.Proofs.YtbnadobjnmboiaaDoor.X
open Go
set_option linter.unusedVariables false
set_option linter.unusedSimpArgs false
variable {P : Program} {w : World}

theorem binX_A {op : BinOp} {t : TypeId} {x y : Value} {K : Value → World → Prop} : binX P op t x y w (fun v => K v w) = binX P op t x y w (fun v => (fun v _ => K v w) v w) := rfl
theorem opX_A {t : List En} {o : Oper} {K : Value → World → Prop} (hk : kO P o ≤ 1) : opX P t o w K = opX P t o w (fun v _ => K v w) := by
  obtain ⟨dst, op, ty, pos, after, guard⟩ := o
  cases op <;> first | rfl | (exfalso; simp [kO] at hk; done) | skip
  case convert s d x =>
    simp only [kO] at hk
    simp only [opX, cvX]
    split at hk <;> first | (rename_i h; simp only [h]; done) | omega
  case call c =>
    simp only [kO] at hk
    simp only [opX]
    split at hk
    · omega
    · split at hk <;> first | omega | (rename_i h; simp only [h, builtX]; done) | skip
    · omega
theorem cond_opX {t : List En} {o : Oper} {K : Value → World → Prop} (hk : kO P o ≤ 1) (h : opX P t o w K) : opX P t o w (fun v w' => w' = w ∧ K v w') := by
  rw [opX_A hk] at h ⊢
  simpa using h
theorem binX_B {w0 : World} {op : BinOp} {t : TypeId} {x y : Value} {R : Value → Prop} (hk : (match kdOf P t with | .int _ | .bool | .str | .slice => 0 | _ => 1) = 0) : binX P op t x y w R = binX P op t x y w0 R := by
  unfold binX
  split at hk <;> simp_all
theorem binC_X {c : Bool} {op : BinOp} {t : TypeId} {x y : Value} {R : Value → Prop} (hk : (match kdOf P t with | .int _ | .bool | .str | .slice => 0 | _ => 1) = 0) : binC c P op t x y w R = binX P op t x y w R := by
  have h : (c && (nilY y && otherK (kdOf P t))) = false := by
    cases hk2 : kdOf P t <;> simp_all [otherK]
  unfold binC
  rw [h]
theorem opX_B {w0 : World} {t : List En} {o : Oper} {R : Value → Prop} (hk : kO P o = 0) : opX P t o w (fun v _ => R v) = opX P t o w0 (fun v _ => R v) := by
  obtain ⟨dst, op, ty, pos, after, guard⟩ := o
  cases op <;> first | rfl | (exfalso; simp [kO] at hk; done) | skip
  case binOp op t x y t' =>
    simp only [opX]
    simp only [kO] at hk
    simp only [binC_X hk, binX_B (w0 := w0) hk]
  case convert s d x =>
    simp only [kO] at hk
    split at hk <;> cases hk
  case call c =>
    simp only [kO] at hk
    split at hk
    · cases hk
    · split at hk <;> cases hk
    · cases hk

/-- the predicate holds of one value, which alone it looks at -/
def Dir (T : (Value → Prop) → Prop) : Prop := ∀ R, T R → ∃ v, R v ∧ T (fun v' => v' = v)
theorem dir_evK {t : List En} {x : Operand} {S : Value → (Value → Prop) → Prop} (h : ∀ v, Dir (S v)) : Dir fun R => evK t x fun v => S v R := by
  intro R hR
  obtain ⟨v, h1, h2⟩ := evK_out hR
  obtain ⟨u, h3, h4⟩ := h v R h2
  exact ⟨u, h3, by show evK _ _ _; unfold evK; rw [h1]; exact h4⟩
theorem dir_evsK {t : List En} {xs : List Operand} {S : List Value → (Value → Prop) → Prop} (h : ∀ vs, Dir (S vs)) : Dir fun R => evsK t xs fun v => S v R := by
  intro R hR
  obtain ⟨v, h1, h2⟩ := evsK_out hR
  obtain ⟨u, h3, h4⟩ := h v R h2
  exact ⟨u, h3, by show evsK _ _ _; unfold evsK; rw [h1]; exact h4⟩
theorem dir_val (v : Value) : Dir fun R => R v := fun _ h => ⟨v, h, rfl⟩
theorem dir_false : Dir fun _ => False := fun _ h => h.elim
theorem dir_cnd {b : Bool} {S T : (Value → Prop) → Prop} (h1 : Dir S) (h2 : Dir T) : Dir fun R => cnd b (S R) (T R) := by
  cases b
  · exact h2
  · exact h1
theorem dir_and {c : Prop} {S : (Value → Prop) → Prop} (h1 : Dir S) : Dir fun R => c ∧ S R := fun R h =>
  let ⟨v, h2, h3⟩ := h1 R h.2
  ⟨v, h2, h.1, h3⟩
theorem dir_nn {p : Option Addr} {S : Addr → (Value → Prop) → Prop} (h : ∀ a, Dir (S a)) : Dir fun R => nn p fun a => S a R := by
  cases p with
  | none => exact dir_false
  | some a => exact h a
theorem dir_ix {i : Int} {n : Nat} {S : Nat → (Value → Prop) → Prop} (h : ∀ a, Dir (S a)) : Dir fun R => ix i n fun a => S a R := dir_and (h _)
theorem dir_ite {c : Prop} [Decidable c] {S T : (Value → Prop) → Prop} (h1 : Dir S) (h2 : Dir T) : Dir fun R => if c then S R else T R := by
  by_cases hc : c
  · simp only [hc, if_true]; exact h1
  · simp only [hc, if_false]; exact h2
theorem dir_intX {op : BinOp} {k : IntKind} {a b : Int} : Dir fun R => intX op k a b R := by
  cases op <;> first | exact dir_val _ | exact dir_and (dir_val _)
theorem dir_binX {op : BinOp} {t : TypeId} {x y : Value} (hk : (match kdOf P t with | .int _ | .bool | .str | .slice => 0 | _ => 1) = 0) : Dir fun R => binX P op t x y w R := by
  unfold binX
  split
  · cases x <;> try exact dir_false
    cases y <;> try exact dir_false
    exact dir_ite dir_intX dir_false
  · cases x <;> try exact dir_false
    cases y <;> try exact dir_false
    cases op <;> first | exact dir_false | exact dir_val _ | exact dir_and (dir_val _)
  · cases x <;> try exact dir_false
    cases y <;> try exact dir_false
    cases op <;> first | exact dir_false | exact dir_val _
  · rename_i h; rw [h] at hk; cases hk
  · cases x <;> try exact dir_false
    cases y <;> try exact dir_false
    rename_i p _ _ q _ _
    cases q
    · cases op <;> first | exact dir_false | exact dir_val _
    · exact dir_false
  · rename_i h; rw [h] at hk; cases hk
theorem dir_opX {t : List En} {o : Oper} (hk : kO P o = 0) : Dir fun R => opX P t o w fun v _ => R v := by
  obtain ⟨dst, op, ty, pos, after, guard⟩ := o
  cases op <;> first | (exfalso; simp [kO] at hk; done) | skip
  case move x => exact dir_evK dir_val
  case assign x => exact dir_evK dir_val
  case pick c x y =>
    refine dir_evK fun v => ?_
    cases v <;> first | exact dir_false | exact dir_cnd (dir_evK dir_val) (dir_evK dir_val)
  case build ty parts =>
    refine dir_evsK fun vs => ?_
    cases buildX P ty ((parts.toList.map (·.1)).zip vs) with
    | none => exact dir_false
    | some cs => exact dir_val _
  case nilCheck x =>
    refine dir_evK fun v => ?_
    cases v with
    | pointer p => exact dir_nn fun a => dir_val _
    | func fn f c => cases fn <;> first | exact dir_false | exact dir_val _
    | nilFunc => exact dir_false
    | nilIface => exact dir_false
    | _ => exact dir_val _
  case binOp op t x y t' =>
    refine dir_evK fun x => dir_evK fun y => ?_
    intro R hR
    rw [binC_X hk] at hR
    obtain ⟨v, h1, h2⟩ := dir_binX hk R hR
    exact ⟨v, h1, by show binC _ P op t x y w _; rw [binC_X hk]; exact h2⟩
  case unOp op t x =>
    refine dir_evK fun v => ?_
    cases op <;> cases v <;> first | exact dir_false | exact dir_val _
  case convert s d x =>
    simp only [kO] at hk
    split at hk <;> cases hk
  case makeInterface t x =>
    refine dir_evK fun v => ?_
    show Dir fun R => match P.underlying t with | some (.interface _) => False | some _ => R _ | none => False
    cases P.underlying t with
    | none => exact dir_false
    | some d => cases d <;> first | exact dir_false | exact dir_val _
  case makeFunc fn first cap => exact dir_evsK fun vs => dir_evsK fun cs => dir_val _
  case fieldAddr s x f =>
    refine dir_evK fun v => ?_
    cases v <;> try exact dir_false
    refine dir_nn fun a => ?_
    show Dir fun R => match P.underlying s with | some (.struct fs) => _ | _ => False
    cases P.underlying s with
    | none => exact dir_false
    | some d =>
      cases d <;> try exact dir_false
      rename_i fs
      show Dir fun R => match fs.toList[f]? with | some fd => _ | none => False
      cases fs.toList[f]? with
      | none => exact dir_false
      | some fd => exact dir_ite dir_false (dir_val _)
  case indexAddr ty x i =>
    refine dir_evK fun v => dir_evK fun i => ?_
    cases i <;> try exact dir_false
    show Dir fun R => match P.underlying ty with | some (.slice e) => _ | some (.array n e) => _ | _ => False
    cases P.underlying ty with
    | none => exact dir_false
    | some d =>
      cases d <;> try exact dir_false
      · cases v <;> try exact dir_false
        exact dir_ite (dir_ix fun j => dir_nn fun a => dir_val _) dir_false
      · cases v <;> try exact dir_false
        exact dir_ite (dir_nn fun a => dir_ix fun j => dir_val _) dir_false
  case extract x j =>
    refine dir_evK fun v => ?_
    cases v <;> try exact dir_false
    rename_i vs
    show Dir fun R => match nthL vs.toList j with | some v => R v | none => False
    cases nthL vs.toList j with
    | none => exact dir_false
    | some v => exact dir_val _
  case call c =>
    simp only [kO] at hk
    split at hk
    · cases hk
    · split at hk <;> cases hk
    · cases hk

/-! ### What an operation yields -/
/-- carried out from the frame a on in the world w, it yields v and leaves the world alone -/
def YA (P : Program) (ops : Array Oper) (w : World) (o : Oper) (v : Value) (a : Act) : Prop :=
  (Region.wanted o (yielded ops a.tmps) = true ∧ ((execOp a.eval o).run P w = .ok (.value v) w ∨ (v = undef ∧ (execOp a.eval o).run P w = .ok .skip w))) ∨
  (Region.wanted o (yielded ops a.tmps) = false ∧ v = undef)
def isSel (o : Oper) : Bool := match o.op with | .select .. => true | _ => false
theorem noSel {o : Oper} (h : isSel o = false) : ∀ cs b, o.op ≠ .select cs b := by
  intro cs b e; unfold isSel at h; rw [e] at h; cases h
theorem kO_sel {o : Oper} (h : kO P o ≤ 2) : ∀ cs b, o.op ≠ .select cs b := by
  intro cs b e; simp [kO, e] at h
theorem kO_call {o : Oper} (h : kO P o ≤ 1) : ∀ c f, o.op = .call c → c.callee ≠ .value f := by
  intro c f e e'; simp [kO, e, e'] at h
/-- an operation looks at the same in two frames -/
def Alike (ops : Array Oper) (o : Oper) (a b : Act) : Prop := execOp a.eval o = execOp b.eval o ∧ Region.wanted o (yielded ops a.tmps) = Region.wanted o (yielded ops b.tmps)
theorem Alike.rfl' {ops : Array Oper} {o : Oper} {a : Act} : Alike ops o a a := ⟨rfl, rfl⟩
theorem Alike.trans {ops : Array Oper} {o : Oper} {a b c : Act} (h : Alike ops o a b) (h' : Alike ops o b c) : Alike ops o a c := ⟨h.1.trans h'.1, h.2.trans h'.2⟩
theorem alike_put {ops : Array Oper} {o : Oper} (hs : ∀ cs b, o.op ≠ .select cs b) (a : Act) (dst : Option Tmp) (v : Value) (h : ∀ d, dst = some d → d ∉ o.looksAt ops) : Alike ops o (a.put dst v) a :=
  ⟨execOp_put o hs a dst v h, wanted_put o a dst v h⟩
theorem YA.alike {ops : Array Oper} {w : World} {o : Oper} {v : Value} {a b : Act} (h : Alike ops o a b) : YA P ops w o v a ↔ YA P ops w o v b := by
  unfold YA; rw [h.1, h.2]
theorem opX_run {ops : Array Oper} {pa : PF} {a : Act} {o : Oper} (hle : pa.le a) (hk : kO P o ≤ 1) {K : Value → World → Prop} (hw : Region.wanted o (yielded ops a.tmps) = true) (h : opX P pa.t o w K) :
    ∃ v, K v w ∧ YA P ops w o v a := by
  obtain ⟨v, w', ⟨rfl, h1⟩, h2⟩ := opX_val hle (kO_call hk) (cond_opX hk h)
  exact ⟨v, h1, .inl ⟨hw, h2⟩⟩
theorem opX_blind {ops : Array Oper} {pa : PF} {a : Act} {o : Oper} (hle : pa.le a) (hk : kO P o = 0) {K : Value → World → Prop} (hw : Region.wanted o (yielded ops a.tmps) = true) (h : opX P pa.t o w K) :
    ∃ v, K v w ∧ ∀ w0, YA P ops w0 o v a := by
  rw [opX_A (by omega)] at h
  obtain ⟨v, h1, h2⟩ := dir_opX hk (fun v => K v w) h
  refine ⟨v, h1, fun w0 => ?_⟩
  rw [opX_B (w0 := w0) hk] at h2
  obtain ⟨v', h3, h4⟩ := opX_run (ops := ops) hle (by omega) hw h2
  subst h3; exact h4
theorem opX_again {ops : Array Oper} {pa : PF} {a : Act} {o : Oper} (hle : pa.le a) (hk : kO P o ≤ 1) {v : Value} (hw : Region.wanted o (yielded ops a.tmps) = true) (h : opX P pa.t o w fun v' _ => v' = v) : YA P ops w o v a := by
  obtain ⟨v', h3, h4⟩ := opX_run (ops := ops) hle hk hw h
  subst h3; exact h4

/-! ### Operations that are put off -/
structure DE where
  i : Nat
  o : Oper
  v : Value
def app (D : List DE) (a : Act) : Act := D.foldl (fun a d => a.put d.o.dst d.v) a
/-- each, at its place -/
def SeqD (Φ : DE → Act → Prop) : List DE → Act → Prop
  | [], _ => True
  | d :: r, a => Φ d a ∧ SeqD Φ r (a.put d.o.dst d.v)
def Lks (ops : Array Oper) (Φ : DE → Act → Prop) : Prop := ∀ d a b, (∀ cs b, d.o.op ≠ .select cs b) → Alike ops d.o a b → Φ d b → Φ d a
theorem app_put {ops : Array Oper} {q : Oper} {v : Value} : ∀ (D : List DE) (a : Act), (∀ d ∈ D, d.o.apart ops q = true) → app D (a.put q.dst v) = (app D a).put q.dst v := by
  intro D
  induction D with
  | nil => intro a _; rfl
  | cons d r ih =>
    intro a h
    obtain ⟨_, h2, _⟩ := Oper.apart_spec (h d (by simp))
    simp only [app, List.foldl_cons]
    rw [← Act.put_comm a d.v v h2]
    exact ih _ fun d hd => h d (by simp [hd])
theorem app_alike {ops : Array Oper} {q : Oper} (hs : ∀ cs b, q.op ≠ .select cs b) : ∀ (D : List DE) (a : Act), (∀ d ∈ D, d.o.apart ops q = true) → Alike ops q (app D a) a := by
  intro D
  induction D with
  | nil => intro a _; exact .rfl'
  | cons d r ih =>
    intro a h
    obtain ⟨h1, _, _⟩ := Oper.apart_spec (h d (by simp))
    exact (ih _ fun d hd => h d (by simp [hd])).trans (alike_put hs a _ _ h1)
theorem seq_put {ops : Array Oper} {Φ : DE → Act → Prop} (hΦ : Lks ops Φ) {q : Oper} {v : Value} : ∀ (D : List DE) (a : Act), (∀ d ∈ D, (∀ cs b, d.o.op ≠ .select cs b) ∧ d.o.apart ops q = true) → SeqD Φ D a → SeqD Φ D (a.put q.dst v) := by
  intro D
  induction D with
  | nil => intro a _ _; trivial
  | cons d r ih =>
    intro a h hs
    obtain ⟨_, h2, h3⟩ := Oper.apart_spec (h d (by simp)).2
    refine ⟨hΦ d _ _ (h d (by simp)).1 (alike_put (h d (by simp)).1 a _ _ h3) hs.1, ?_⟩
    rw [← Act.put_comm a d.v v h2]
    exact ih _ (fun d hd => h d (by simp [hd])) hs.2
/-- one that waits for none of those ahead of it comes first -/
theorem seq_first {ops : Array Oper} {Φ : DE → Act → Prop} (hΦ : Lks ops Φ) {d0 : DE} (hs0 : ∀ cs b, d0.o.op ≠ .select cs b) : ∀ (D1 D2 : List DE) (a : Act), (∀ d ∈ D1, (∀ cs b, d.o.op ≠ .select cs b) ∧ d.o.apart ops d0.o = true) →
    SeqD Φ (D1 ++ d0 :: D2) a → Φ d0 a ∧ SeqD Φ (D1 ++ D2) (a.put d0.o.dst d0.v) ∧ app (D1 ++ d0 :: D2) a = app (D1 ++ D2) (a.put d0.o.dst d0.v) := by
  intro D1
  induction D1 with
  | nil => intro D2 a _ h; exact ⟨h.1, h.2, rfl⟩
  | cons d r ih =>
    intro D2 a h hs
    obtain ⟨h1, h2, h3⟩ := Oper.apart_spec (h d (by simp)).2
    obtain ⟨h4, h5, h6⟩ := ih D2 _ (fun d hd => h d (by simp [hd])) hs.2
    refine ⟨hΦ d0 _ _ hs0 ?_ h4, ⟨hΦ d _ _ (h d (by simp)).1 (alike_put (h d (by simp)).1 a _ _ h3) hs.1, ?_⟩, ?_⟩
    · have := alike_put hs0 a d.o.dst d.v h1
      exact ⟨this.1.symm, this.2.symm⟩
    · rw [← Act.put_comm a d.v d0.v h2]; exact h5
    · simp only [List.cons_append, app, List.foldl_cons] at h6 ⊢
      rw [h6, Act.put_comm a d.v d0.v h2]
theorem seq_mono {Φ Ψ : DE → Act → Prop} : ∀ (D : List DE) (a : Act), (∀ d ∈ D, ∀ a, Φ d a → Ψ d a) → SeqD Φ D a → SeqD Ψ D a := by
  intro D
  induction D with
  | nil => intro a _ _; trivial
  | cons d r ih => intro a h hs; exact ⟨h d (by simp) _ hs.1, ih _ (fun d hd => h d (by simp [hd])) hs.2⟩
theorem seq_snoc {Φ : DE → Act → Prop} {d0 : DE} : ∀ (D : List DE) (a : Act), SeqD Φ D a → Φ d0 (app D a) → SeqD Φ (D ++ [d0]) a := by
  intro D
  induction D with
  | nil => intro a _ h; exact ⟨h, trivial⟩
  | cons d r ih => intro a hs h; exact ⟨hs.1, ih _ hs.2 h⟩
/-- what is held of one that is put off: it may be read again as long as the pending entry tells so -/
def Live (P : Program) (ops : Array Oper) (pend : List PE) (U : List Nat) (d : DE) (b : Act) : Prop :=
  (∀ w', YA P ops w' d.o d.v b) ∨ ∃ p ∈ pend, p.i = d.i ∧ (∀ m ∈ p.desc, m ∈ U ∧ ∃ o, ops[m]? = some o ∧ waitsOn o (p.i :: p.desc) = true) ∧
    ∀ w', opX P p.pa.t p.o w' (fun v' _ => v' = p.v) → YA P ops w' d.o d.v b
def Phi (P : Program) (ops : Array Oper) (w : World) (pend : List PE) (U : List Nat) (d : DE) (b : Act) : Prop := YA P ops w d.o d.v b ∧ Live P ops pend U d b
theorem lks_phi {ops : Array Oper} {w : World} {pend : List PE} {U : List Nat} : Lks ops (Phi P ops w pend U) := by
  intro d a b _ hab h
  refine ⟨(YA.alike hab).2 h.1, ?_⟩
  rcases h.2 with h | ⟨p, h1, h2, h3, h4⟩
  · exact .inl fun w' => (YA.alike hab).2 (h w')
  · exact .inr ⟨p, h1, h2, h3, fun w' h => (YA.alike hab).2 (h4 w' h)⟩

/-! ### Pending entries -/
theorem waitsOn_spec {o : Oper} {l : List Nat} : waitsOn o l = true ↔ ∃ e ∈ o.after, Region.binds .any e = true ∧ e.on ∈ l := by
  unfold waitsOn
  simp only [List.any_eq_true, Bool.and_eq_true, List.contains_eq_mem, decide_eq_true_eq, Array.mem_toList_iff]
theorem waitsOn_mono {o : Oper} {l l' : List Nat} (h : ∀ x ∈ l, x ∈ l') (hw : waitsOn o l = true) : waitsOn o l' = true := by
  rw [waitsOn_spec] at *
  obtain ⟨e, h1, h2, h3⟩ := hw
  exact ⟨e, h1, h2, h _ h3⟩
theorem addD_mem {o : Oper} {i : Nat} : ∀ {pend : List PE} {p : PE}, p ∈ pend → addE o i p ∈ addD o i pend := by
  intro pend
  induction pend with
  | nil => intro p h; cases h
  | cons q r ih =>
    intro p h
    rcases List.mem_cons.1 h with rfl | h
    · exact List.mem_cons_self
    · exact List.mem_cons_of_mem _ (ih h)
theorem rchk_out {o : Oper} {K : Prop} : ∀ {pend : List PE}, rchk P o w K pend → K ∧ ∀ p ∈ pend, waitsOn o (p.i :: p.desc) = false → opX P p.pa.t p.o w fun v' _ => v' = p.v := by
  intro pend
  induction pend with
  | nil => intro h; exact ⟨h, by simp⟩
  | cons q r ih =>
    intro h
    simp only [rchk] at h
    split at h
    · rename_i hw
      obtain ⟨h1, h2⟩ := ih h
      refine ⟨h1, fun p hp hf => ?_⟩
      rcases List.mem_cons.1 hp with rfl | hp
      · rw [hw] at hf; cases hf
      · exact h2 p hp hf
    · obtain ⟨h1, h2⟩ := ih h.2
      refine ⟨h1, fun p hp hf => ?_⟩
      rcases List.mem_cons.1 hp with rfl | hp
      · exact h.1
      · exact h2 p hp hf
/-- one more is put off: k, number ik -/
theorem live_grow {ops : Array Oper} {pend : List PE} {U U' : List Nat} {o : Oper} {k : Nat} {d : DE} {b : Act} (hU : ∀ m ∈ U, m ∈ U') (hk : k ∈ U') (ho : ops[k]? = some o) (h : Live P ops pend U d b) : Live P ops (addD o k pend) U' d b := by
  rcases h with h | ⟨p, h1, h2, h3, h4⟩
  · exact .inl h
  · refine .inr ⟨addE o k p, addD_mem h1, ?_⟩
    unfold addE
    split
    · rename_i hw
      refine ⟨h2, ?_, h4⟩
      intro m hm
      rcases List.mem_cons.1 hm with e | hm
      · subst e; exact ⟨hk, o, ho, waitsOn_mono (by intro x hx; rcases List.mem_cons.1 hx with h | h <;> simp [h]) hw⟩
      · obtain ⟨h5, q, h6, h7⟩ := h3 m hm
        exact ⟨hU _ h5, q, h6, waitsOn_mono (by intro x hx; rcases List.mem_cons.1 hx with h | h <;> simp [h]) h7⟩
    · exact ⟨h2, fun m hm => by obtain ⟨h5, q, h6, h7⟩ := h3 m hm; exact ⟨hU _ h5, q, h6, h7⟩, h4⟩
theorem live_more {ops : Array Oper} {pend pend' : List PE} {U : List Nat} {d : DE} {b : Act} (hp : ∀ p ∈ pend, p ∈ pend') (h : Live P ops pend U d b) : Live P ops pend' U d b := by
  rcases h with h | ⟨p, h1, h2⟩
  · exact .inl h
  · exact .inr ⟨p, hp p h1, h2⟩
/-- one that is ready waits for none of those that are put off -/
theorem live_ready {ops : Array Oper} {pend : List PE} {U : List Nat} {o : Oper} {k : Nat} {d : DE} {b : Act} (hd : d.i ∈ U) (hr : ∀ m ∈ U, waitsOn o [m] = false) :
    Live P ops pend U d b → (∀ w', YA P ops w' d.o d.v b) ∨ ∃ p ∈ pend, p.i = d.i ∧ waitsOn o (p.i :: p.desc) = false ∧ addE o k p = p ∧ (∀ m ∈ p.desc, m ∈ U ∧ ∃ o, ops[m]? = some o ∧ waitsOn o (p.i :: p.desc) = true) ∧
    ∀ w', opX P p.pa.t p.o w' (fun v' _ => v' = p.v) → YA P ops w' d.o d.v b := by
  intro h
  rcases h with h | ⟨p, h1, h2, h3, h4⟩
  · exact .inl h
  · refine .inr ⟨p, h1, h2, ?_, ?_, h3, h4⟩ <;>
    · have hf : waitsOn o (p.i :: p.desc) = false := by
        cases hw : waitsOn o (p.i :: p.desc) with
        | false => rfl
        | true =>
          rw [waitsOn_spec] at hw
          obtain ⟨e, h5, h6, h7⟩ := hw
          have hm : e.on ∈ U := by
            rcases List.mem_cons.1 h7 with h7 | h7
            · rw [h7, h2]; exact hd
            · exact (h3 _ h7).1
          have := hr _ hm
          rw [show waitsOn o [e.on] = true from waitsOn_spec.2 ⟨e, h5, h6, by simp⟩] at this
          cases this
      first | exact hf | (unfold addE; rw [hf])
/-- one that is put off stands ahead of number x -/
def DR (ops : Array Oper) (d : DE) (x : Nat) : Prop := d.i ≠ x ∧ waitsOn d.o [x] = false ∧ ∀ q, ops[x]? = some q → waitsOn q [d.i] = true ∨ d.o.apart ops q = true
structure Inv (P : Program) (ops : Array Oper) (K : PF → World → Prop) (asg : List Nat) (rf : Bool) (pa0 : PF) (listed : Array Bool) (a : Act) (w : World) (D : List DE) (ord : List Nat) (pend : List PE) (pa : PF) : Prop where
  sz : listed.size = ops.size
  un : ∀ j, j < ops.size → (listed.getD j true = false ↔ j ∈ D.map (·.i) ∨ j ∈ ord)
  dop : ∀ d ∈ D, ops[d.i]? = some d.o ∧ waitsOn d.o [d.i] = false ∧ kO P d.o ≤ 1 ∧ ∀ e ∈ d.o.after, Region.binds .any e = true → e.on < ops.size
  dd : D.Pairwise fun d x => DR ops d x.i
  dor : ∀ d ∈ D, ∀ x ∈ ord, DR ops d x
  row : rowB P ops ord = true
  sq : SeqD (Phi P ops w pend (D.map (·.i))) D a
  le : pa.le (app D a)
  kp : Keep asg rf pa0 pa
  run : opsD P ops K ord pend pa w
theorem rowB_out {ops : Array Oper} {i : Nat} {rest : List Nat} (h : rowB P ops (i :: rest) = true) : ∃ o, ops[i]? = some o ∧ i ∉ rest ∧ (∀ e ∈ o.after, Region.binds .any e = true → e.on < ops.size ∧ e.on ≠ i ∧ e.on ∉ rest) ∧ kO P o ≤ 2 ∧
    (kO P o ≤ 1 → ∀ k ∈ rest, ∀ q, ops[k]? = some q → waitsOn q [i] = true ∨ o.apart ops q = true) ∧ (kO P o = 2 → ∀ k ∈ rest, ∀ q, ops[k]? = some q → waitsOn q (i :: rest) = true) ∧ rowB P ops rest = true := by
  simp only [rowB] at h
  cases ho : ops.toList[i]? with
  | none => rw [ho] at h; cases h
  | some o =>
    rw [ho] at h
    simp only [Bool.and_eq_true, Bool.not_eq_true', List.all_eq_true, Bool.or_eq_true] at h
    obtain ⟨⟨⟨h1, h2⟩, h3⟩, h4⟩ := h
    have ho' : ops[i]? = some o := by rw [← Array.getElem?_toList]; exact ho
    refine ⟨o, ho', by simpa using h1, ?_, ?_, ?_, ?_, h4⟩
    · intro e he hb
      have := (h2 e (by simpa using he)).resolve_left (by rw [hb]; simp)
      simp only [List.contains_eq_mem, List.mem_cons, not_or, decide_eq_false_iff_not] at this
      exact ⟨by simpa [Nat.blt_eq] using this.1, this.2.1, this.2.2⟩
    · split at h3 <;> first | omega | cases h3
    · intro hk k hkr q hq
      have hq' : ops.toList[k]? = some q := by rw [Array.getElem?_toList]; exact hq
      split at h3
      · have := List.all_eq_true.1 h3 k hkr; rw [hq'] at this; simpa using this
      · have := List.all_eq_true.1 h3 k hkr; rw [hq'] at this; simpa using this
      · omega
      · cases h3
    · intro hk k hkr q hq
      have hq' : ops.toList[k]? = some q := by rw [Array.getElem?_toList]; exact hq
      split at h3
      · omega
      · omega
      · have := List.all_eq_true.1 h3 k hkr; rw [hq'] at this; simpa using this
      · cases h3
/-- the head of the order, at the frame at which it comes up -/
theorem stepD_out {ops : Array Oper} {asg : List Nat} {rf : Bool} {pa0 : PF} (ha : ∀ o ∈ ops.toList, ∀ d, o.dst = some d → d ∈ asg) {i : Nat} {pend : List PE} {pa : PF} {b : Act} {N : List PE → PF → World → Prop} {o : Oper} (ho : ops[i]? = some o) (hle : pa.le b) (hk : Keep asg rf pa0 pa)
    (h : stepD P ops i pend pa w N) : ∃ pa1 : PF, pa1.le b ∧ Keep asg rf pa0 pa1 ∧ ((Region.wanted o (yielded ops b.tmps) = true ∧ runD P i o pend pa1 w N) ∨ (Region.wanted o (yielded ops b.tmps) = false ∧ N (addD o i pend) (pa1.put o.dst undef) w)) := by
  have ho' : ops.toList[i]? = some o := by rw [Array.getElem?_toList]; exact ho
  simp only [stepD, ho'] at h
  cases hg : o.guard with
  | none =>
    rw [hg] at h
    exact ⟨pa, hle, hk, .inl ⟨by simp [Region.wanted, hg], h⟩⟩
  | some gw =>
    obtain ⟨j, want⟩ := gw
    rw [hg] at h
    simp only at h
    cases hd : (ops.toList[j]?).bind (·.dst) with
    | none => rw [hd] at h; exact h.elim
    | some d =>
      rw [hd] at h
      simp only at h
      cases hv : getL pa.t d with
      | none => rw [hv] at h; exact h.elim
      | some v =>
        rw [hv] at h
        have hy := yielded_eq hle hd hv
        have hda : d ∈ asg := by
          cases hj : ops.toList[j]? with
          | none => rw [hj] at hd; cases hd
          | some oj => rw [hj] at hd; exact ha oj (List.mem_of_getElem? hj) d hd
        cases v with
        | bool c =>
          simp only at h hy
          have hkn := PF.le_known hle hv
          refine ⟨_, hkn, hk.set hda _, ?_⟩
          cases want <;> cases c <;> simp only [cnd] at h
          · exact .inl ⟨by simp [Region.wanted, hg, hy], h⟩
          · exact .inr ⟨by simp [Region.wanted, hg, hy], h⟩
          · exact .inr ⟨by simp [Region.wanted, hg, hy], h⟩
          · exact .inl ⟨by simp [Region.wanted, hg, hy], h⟩
        | tuple vs =>
          simp only at h hy
          exact ⟨pa, hle, hk, .inr ⟨by simp [Region.wanted, hg, hy], h⟩⟩
        | _ => exact False.elim h
theorem rowB_mem {ops : Array Oper} : ∀ {ord : List Nat}, rowB P ops ord = true → ∀ x ∈ ord, ∃ o, ops[x]? = some o := by
  intro ord
  induction ord with
  | nil => intro _ x hx; cases hx
  | cons k r ih =>
    intro h x hx
    obtain ⟨o, h1, _, _, _, _, _, h2⟩ := rowB_out h
    rcases List.mem_cons.1 hx with rfl | hx
    · exact ⟨o, h1⟩
    · exact ih h2 x hx
theorem getD_both' {listed : Array Bool} {j : Nat} (h : listed.getD j true = false) : listed.getD j false = false := by
  simp only [Array.getD_eq_getD_getElem?] at *
  cases hj : listed[j]? with
  | none => rfl
  | some b => rw [hj] at h; simpa using h
theorem getD_in' {listed : Array Bool} {j : Nat} (hj : j < listed.size) (h : ¬ listed.getD j true = false) : listed.getD j false = true := by
  simp only [Array.getD_eq_getD_getElem?] at *
  rw [Array.getElem?_eq_getElem hj] at *
  simpa using h
section
variable {ops : Array Oper} {K : PF → World → Prop} {asg : List Nat} {rf : Bool} {pa0 : PF} {listed : Array Bool} {a : Act} {D : List DE} {ord : List Nat} {pend : List PE} {pa : PF}
theorem Inv.lt (hI : Inv P ops K asg rf pa0 listed a w D ord pend pa) {m : Nat} (hm : m ∈ D.map (·.i) ∨ m ∈ ord) : m < ops.size := by
  rcases hm with hm | hm
  · obtain ⟨d, hd, rfl⟩ := List.mem_map.1 hm
    exact (Array.getElem?_eq_some_iff.1 (hI.dop d hd).1).1
  · obtain ⟨o, ho⟩ := rowB_mem hI.row m hm
    exact (Array.getElem?_eq_some_iff.1 ho).1
/-- what is ready waits for nothing that is still to come -/
theorem Inv.ready (hI : Inv P ops K asg rf pa0 listed a w D ord pend pa) {i : Nat} (hr : i ∈ Region.ready .any ops listed) :
    (i ∈ D.map (·.i) ∨ i ∈ ord) ∧ ∃ o, ops[i]? = some o ∧ ∀ m, (m ∈ D.map (·.i) ∨ m ∈ ord) → waitsOn o [m] = false := by
  obtain ⟨h1, o, ho, h2⟩ := mem_ready.1 hr
  have hi : i < ops.size := (Array.getElem?_eq_some_iff.1 ho).1
  refine ⟨(hI.un i hi).1 h1, o, ho, fun m hm => ?_⟩
  cases hw : waitsOn o [m] with
  | false => rfl
  | true =>
    obtain ⟨e, he, hb, hem⟩ := waitsOn_spec.1 hw
    have h3 := h2 e he hb
    have h4 := getD_both' ((hI.un m (hI.lt hm)).2 hm)
    rw [List.mem_singleton.1 hem, h4] at h3
    cases h3
/-- something is ready as long as something is still to come -/
theorem Inv.done (hI : Inv P ops K asg rf pa0 listed a w D ord pend pa) (h0 : Region.ready .any ops listed = []) : D = [] ∧ ord = [] := by
  have key : ∀ i o, ops[i]? = some o → (i ∈ D.map (·.i) ∨ i ∈ ord) → (∀ e ∈ o.after, Region.binds .any e = true → e.on < ops.size ∧ ¬ (e.on ∈ D.map (·.i) ∨ e.on ∈ ord)) → False := by
    intro i o ho hi he
    have : i ∈ Region.ready .any ops listed := by
      refine mem_ready.2 ⟨(hI.un i (hI.lt hi)).2 hi, o, ho, fun e h1 h2 => ?_⟩
      obtain ⟨h3, h4⟩ := he e h1 h2
      exact getD_in' (by rw [hI.sz]; exact h3) fun h => h4 ((hI.un _ h3).1 h)
    rw [h0] at this
    cases this
  cases D with
  | cons d r =>
    exfalso
    obtain ⟨h1, h2, _, h3⟩ := hI.dop d (by simp)
    refine key d.i d.o h1 (.inl (by simp)) fun e he hb => ⟨h3 e he hb, ?_⟩
    have hno : ∀ x, waitsOn d.o [x] = false → e.on ≠ x := by
      intro x hx hex
      rw [waitsOn_spec.2 ⟨e, he, hb, by simp [hex]⟩] at hx
      cases hx
    rintro (h | h)
    · obtain ⟨d', hd', h'⟩ := List.mem_map.1 h
      rcases List.mem_cons.1 hd' with rfl | hd'
      · exact hno _ h2 h'.symm
      · exact hno _ ((List.pairwise_cons.1 hI.dd).1 d' hd').2.1 h'.symm
    · exact hno _ (hI.dor d (by simp) _ h).2.1 rfl
  | nil =>
    cases ord with
    | nil => exact ⟨rfl, rfl⟩
    | cons k r =>
      exfalso
      obtain ⟨o, h1, _, h2, _⟩ := rowB_out hI.row
      refine key k o h1 (.inr (by simp)) fun e he hb => ?_
      obtain ⟨h3, h4, h5⟩ := h2 e he hb
      exact ⟨h3, by simp [h4, h5]⟩
theorem un_set {U U' : Nat → Prop} {i : Nat} (hs : listed.size = ops.size) (hu : ∀ j, j < ops.size → (listed.getD j true = false ↔ U j)) (hU : ∀ j, U' j ↔ U j ∧ j ≠ i) :
    (listed.setIfInBounds i true).size = ops.size ∧ ∀ j, j < ops.size → ((listed.setIfInBounds i true).getD j true = false ↔ U' j) := by
  refine ⟨by simpa using hs, fun j hj => ?_⟩
  rw [hU j, ← hu j hj]
  by_cases e : i = j
  · subst e
    have hlt : i < listed.size := by rw [hs]; exact hj
    simp [Array.getD_eq_getD_getElem?, hlt]
  · rw [getD_set_ne true e]
    exact ⟨fun h => ⟨h, fun h' => e h'.symm⟩, fun h => h.1⟩
/-- one of those that are put off comes up -/
theorem Inv.take (hI : Inv P ops K asg rf pa0 listed a w D ord pend pa) {i : Nat} (hr : i ∈ Region.ready .any ops listed) (hi : i ∈ D.map (·.i)) :
    ∃ d0 : DE, d0.i = i ∧ kO P d0.o ≤ 1 ∧ ops[i]? = some d0.o ∧ YA P ops w d0.o d0.v a ∧ ∃ D', D'.length + 1 = D.length ∧ Inv P ops K asg rf pa0 (listed.setIfInBounds i true) (a.put d0.o.dst d0.v) w D' ord pend pa := by
  obtain ⟨_, o, ho, hw⟩ := hI.ready hr
  obtain ⟨d0, hd0, rfl⟩ := List.mem_map.1 hi
  obtain ⟨D1, D2, rfl⟩ := List.append_of_mem hd0
  obtain ⟨h1, h2, h3, h4⟩ := hI.dop d0 hd0
  rw [h1] at ho; cases ho
  obtain ⟨hp1, hp2, hp12⟩ := List.pairwise_append.1 hI.dd
  obtain ⟨hp3, hp4⟩ := List.pairwise_cons.1 hp2
  have hap : ∀ d ∈ D1, (∀ cs b, d.o.op ≠ .select cs b) ∧ d.o.apart ops d0.o = true := by
    intro d hd
    refine ⟨kO_sel (P := P) (by have := (hI.dop d (by simp [hd])).2.2.1; omega), ((hp12 d hd d0 (by simp)).2.2 _ h1).resolve_left ?_⟩
    rw [hw d.i (.inl (by simp only [List.map_append, List.mem_append]; exact .inl (List.mem_map_of_mem hd)))]; simp
  obtain ⟨h5, h6, h7⟩ := seq_first lks_phi (kO_sel (P := P) (by omega)) D1 D2 a hap hI.sq
  refine ⟨d0, rfl, h3, h1, h5.1, D1 ++ D2, by simp; omega, ?_⟩
  have hne : ∀ d ∈ D1 ++ D2, d.i ≠ d0.i := by
    intro d hd
    rcases List.mem_append.1 hd with hd | hd
    · exact (hp12 d hd d0 (by simp)).1
    · exact fun h => (hp3 d hd).1 h.symm
  obtain ⟨hs, hu⟩ := un_set (U' := fun j => j ∈ (D1 ++ D2).map (·.i) ∨ j ∈ ord) (i := d0.i) hI.sz hI.un (by
    intro j
    simp only [List.map_append, List.mem_append, List.map_cons, List.mem_cons]
    constructor
    · rintro ((h | h) | h)
      · refine ⟨.inl (.inl h), ?_⟩
        obtain ⟨d, hd, rfl⟩ := List.mem_map.1 h; exact hne d (by simp [hd])
      · refine ⟨.inl (.inr (.inr h)), ?_⟩
        obtain ⟨d, hd, rfl⟩ := List.mem_map.1 h; exact hne d (by simp [hd])
      · exact ⟨.inr h, fun e => (hI.dor d0 hd0 _ h).1 e.symm⟩
    · rintro ⟨(h | h | h) | h, hn⟩
      · exact .inl (.inl h)
      · exact absurd h hn
      · exact .inl (.inr h)
      · exact .inr h)
  have hsub : ∀ d ∈ D1 ++ D2, d ∈ D1 ++ d0 :: D2 := by
    intro d hd; rcases List.mem_append.1 hd with hd | hd <;> simp [hd]
  refine ⟨hs, hu, fun d hd => hI.dop d (hsub d hd), ?_, fun d hd => hI.dor d (hsub d hd), hI.row, ?_, by rw [← h7]; exact hI.le, hI.kp, hI.run⟩
  · exact List.pairwise_append.2 ⟨hp1, hp4, fun x hx y hy => hp12 x hx y (by simp [hy])⟩
  · refine seq_mono _ _ ?_ h6
    intro d hd b hb
    refine ⟨hb.1, ?_⟩
    rcases hb.2 with hb | ⟨p, h8, h9, h10, h11⟩
    · exact .inl hb
    · refine .inr ⟨p, h8, h9, ?_, h11⟩
      intro m hm
      obtain ⟨h12, q, h13, h14⟩ := h10 m hm
      refine ⟨?_, q, h13, h14⟩
      have hmn : m ≠ d0.i := by
        rintro rfl
        rw [h1] at h13; cases h13
        obtain ⟨e, he, hb, hem⟩ := waitsOn_spec.1 h14
        have hmU : e.on ∈ (D1 ++ d0 :: D2).map (·.i) := by
          rcases List.mem_cons.1 hem with hem | hem
          · rw [hem, h9]; exact List.mem_map_of_mem (hsub d hd)
          · exact (h10 _ hem).1
        have := hw e.on (.inl hmU)
        rw [waitsOn_spec.2 ⟨e, he, hb, by simp⟩] at this
        cases this
      simp only [List.map_append, List.mem_append, List.map_cons, List.mem_cons] at h12 ⊢
      rcases h12 with h | h | h
      · exact .inl h
      · exact absurd h hmn
      · exact .inr h
/-- one more is put off -/
theorem Inv.delay {k : Nat} {rest : List Nat} (hI : Inv P ops K asg rf pa0 listed a w D (k :: rest) pend pa) {o : Oper} (ho : ops[k]? = some o) (hk : kO P o ≤ 1) {v : Value} {pend' : List PE} {pa1 : PF} (hle : pa1.le (app D a)) (hkp : Keep asg rf pa0 pa1)
    (hao : ∀ d, o.dst = some d → d ∈ asg) (hp : ∀ p ∈ addD o k pend, p ∈ pend') (hy : YA P ops w o v (app D a)) (hl : Live P ops pend' ((D ++ [(⟨k, o, v⟩ : DE)]).map (·.i)) ⟨k, o, v⟩ (app D a))
    (hrun : opsD P ops K rest pend' (pa1.put o.dst v) w) : Inv P ops K asg rf pa0 listed a w (D ++ [(⟨k, o, v⟩ : DE)]) rest pend' (pa1.put o.dst v) := by
  obtain ⟨o', ho', h1, h2, h3, h4, _, h5⟩ := rowB_out hI.row
  rw [ho] at ho'; cases ho'
  refine ⟨hI.sz, ?_, ?_, ?_, ?_, h5, ?_, ?_, hkp.put hao _, hrun⟩
  · intro j hj
    rw [hI.un j hj]
    simp only [List.map_append, List.map_cons, List.map_nil, List.mem_append, List.mem_cons, List.not_mem_nil, or_false]
    constructor
    · rintro (h | h | h)
      · exact .inl (.inl h)
      · exact .inl (.inr h)
      · exact .inr h
    · rintro ((h | h) | h)
      · exact .inl h
      · exact .inr (.inl h)
      · exact .inr (.inr h)
  · intro d hd
    rcases List.mem_append.1 hd with hd | hd
    · exact hI.dop d hd
    · rw [List.mem_singleton.1 hd]
      refine ⟨ho, ?_, hk, fun e he hb => (h2 e he hb).1⟩
      cases hw : waitsOn o [k] with
      | false => rfl
      | true => obtain ⟨e, he, hb, hem⟩ := waitsOn_spec.1 hw; exact absurd (List.mem_singleton.1 hem) (h2 e he hb).2.1
  · refine List.pairwise_append.2 ⟨hI.dd, List.pairwise_singleton _ _, ?_⟩
    intro x hx y hy
    rw [List.mem_singleton.1 hy]
    exact hI.dor x hx k (by simp)
  · intro d hd x hx
    rcases List.mem_append.1 hd with hd | hd
    · exact hI.dor d hd x (by simp [hx])
    · rw [List.mem_singleton.1 hd]
      refine ⟨fun e => h1 (by rw [show k = x from e]; exact hx), ?_, fun q hq => h4 hk x hx q hq⟩
      cases hw : waitsOn o [x] with
      | false => rfl
      | true => obtain ⟨e, he, hb, hem⟩ := waitsOn_spec.1 hw; exact absurd (by rw [List.mem_singleton.1 hem]; exact hx) (h2 e he hb).2.2
  · refine seq_snoc _ _ (seq_mono _ _ ?_ hI.sq) ⟨hy, hl⟩
    intro d hd b hb
    exact ⟨hb.1, live_more hp (live_grow (by intro m hm; simp only [List.map_append, List.mem_append]; exact .inl hm) (by simp) ho hb.2)⟩
  · simp only [app, List.foldl_append, List.foldl_cons, List.foldl_nil]
    exact PF.le_put hle _ _
/-- the head comes up -/
theorem Inv.head {k : Nat} {rest : List Nat} (hI : Inv P ops K asg rf pa0 listed a w D (k :: rest) pend pa) (hr : k ∈ Region.ready .any ops listed) {o : Oper} (ho : ops[k]? = some o) (hs : ∀ cs b, o.op ≠ .select cs b) {v : Value} {w' : World} {pend' : List PE} {pa1 : PF} (hle : pa1.le (app D a)) (hkp : Keep asg rf pa0 pa1)
    (hao : ∀ d, o.dst = some d → d ∈ asg) (hp : ∀ p ∈ addD o k pend, p ∈ pend')
    (hy : w' = w ∨ ∀ p ∈ pend, waitsOn o (p.i :: p.desc) = false → opX P p.pa.t p.o w' fun v' _ => v' = p.v)
    (hrun : opsD P ops K rest pend' (pa1.put o.dst v) w') : Inv P ops K asg rf pa0 (listed.setIfInBounds k true) (a.put o.dst v) w' D rest pend' (pa1.put o.dst v) := by
  obtain ⟨o', ho', h1, h2, h3, h4, _, h5⟩ := rowB_out hI.row
  rw [ho] at ho'; cases ho'
  obtain ⟨_, o', ho', hw⟩ := hI.ready hr
  rw [ho] at ho'; cases ho'
  have hap : ∀ d ∈ D, (∀ cs b, d.o.op ≠ .select cs b) ∧ d.o.apart ops o = true := by
    intro d hd
    refine ⟨kO_sel (P := P) (by have := (hI.dop d hd).2.2.1; omega), ((hI.dor d hd k (by simp)).2.2 _ ho).resolve_left ?_⟩
    rw [hw d.i (.inl (List.mem_map_of_mem hd))]; simp
  obtain ⟨hs', hu⟩ := un_set (U' := fun j => j ∈ D.map (·.i) ∨ j ∈ rest) (i := k) hI.sz hI.un (by
    intro j
    simp only [List.mem_cons]
    constructor
    · rintro (h | h)
      · refine ⟨.inl h, ?_⟩
        obtain ⟨d, hd, rfl⟩ := List.mem_map.1 h; exact (hI.dor d hd k (by simp)).1
      · exact ⟨.inr (.inr h), fun e => h1 (e ▸ h)⟩
    · rintro ⟨h | h | h, hn⟩
      · exact .inl h
      · exact absurd h hn
      · exact .inr h)
  refine ⟨hs', hu, hI.dop, hI.dd, fun d hd x hx => hI.dor d hd x (by simp [hx]), h5, ?_, ?_, hkp.put hao _, hrun⟩
  · have hmap : SeqD (Phi P ops w' pend' (D.map (·.i))) D a := by
      refine seq_mono _ _ ?_ hI.sq
      intro d hd b hb
      have hlr := live_ready (k := k) (List.mem_map_of_mem hd) (fun m hm => hw m (.inl hm)) hb.2
      refine ⟨?_, ?_⟩
      · rcases hy with rfl | hy
        · exact hb.1
        · rcases hlr with h | ⟨p, h8, _, h10, _, _, h12⟩
          · exact h w'
          · exact h12 w' (hy p h8 h10)
      · rcases hlr with h | ⟨p, h8, h9, _, h10, h11, h12⟩
        · exact .inl h
        · refine .inr ⟨p, hp p ?_, h9, h11, h12⟩
          rw [← h10]; exact addD_mem h8
    exact seq_put lks_phi D a hap hmap
  · rw [app_put (ops := ops) D a (fun d hd => (hap d hd).2)]
    exact PF.le_put hle _ _
end
theorem inv_wp {ro : Option Nat} {ops : Array Oper} {K : PF → World → Prop} {asg : List Nat} {rf : Bool} {pa0 : PF} {Q : Exit → Act → World → Prop} (ha : ∀ o ∈ ops.toList, ∀ d, o.dst = some d → d ∈ asg)
    (hQ : ∀ pa a w, pa.le a → Keep asg rf pa0 pa → K pa w → Q .normal a w) :
    ∀ (n : Nat) (listed : Array Bool) (a : Act) (w : World) (D : List DE) (ord : List Nat) (pend : List PE) (pa : PF), Inv P ops K asg rf pa0 listed a w D ord pend pa → D.length + ord.length ≤ n → wpAnyIn (fen ro) 0 P .any ops Q n listed a w := by
  have hfin : ∀ {listed : Array Bool} {a : Act} {w : World} {D : List DE} {ord : List Nat} {pend : List PE} {pa : PF}, Inv P ops K asg rf pa0 listed a w D ord pend pa → D = [] ∧ ord = [] → Q .normal a w := by
    rintro listed a w D ord pend pa hI ⟨rfl, rfl⟩
    exact hQ _ _ _ hI.le hI.kp hI.run
  intro n
  induction n with
  | zero =>
    intro listed a w D ord pend pa hI hn
    have h : D = [] ∧ ord = [] := ⟨List.length_eq_zero_iff.1 (by omega), List.length_eq_zero_iff.1 (by omega)⟩
    refine ⟨?_, hfin hI h⟩
    obtain ⟨rfl, rfl⟩ := h
    apply List.eq_nil_iff_forall_not_mem.2
    intro i hi
    have := (hI.ready hi).1
    simp at this
  | succ n ih =>
    intro listed a w D ord pend pa hI hn
    refine ⟨fun h0 => hfin hI (hI.done h0), fun i hi => ?_⟩
    by_cases hiD : i ∈ D.map (·.i)
    · obtain ⟨d0, rfl, hk0, h1, h2, D', h3, h4⟩ := hI.take hi hiD
      have hd : ∀ c, d0.o.op ≠ .defer c := by
        intro c hc; simp [kO, hc] at hk0
      have hnext := ih _ _ _ D' ord pend pa h4 (by omega)
      unfold wpOpIn
      simp only [h1]
      rcases h2 with ⟨hw, hv | ⟨hv, hv'⟩⟩ | ⟨hw, hv⟩
      · rw [if_pos hw]
        refine ⟨fun _ _ => trivial, ?_⟩
        rw [semAt_fen hd, hv, Oper.uponIn_value]; exact hnext
      · rw [if_pos hw]
        refine ⟨fun _ _ => trivial, ?_⟩
        rw [semAt_fen hd, hv', Oper.uponIn_skip, ← hv]; exact hnext
      · rw [if_neg (by rw [hw]; simp)]
        exact ⟨fun _ _ => trivial, by rw [← hv]; exact hnext⟩
    · have hio : i ∈ ord := (hI.ready hi).1.resolve_left hiD
      clear hiD
      induction ord generalizing D pend pa with
      | nil => cases hio
      | cons k rest ihr =>
        obtain ⟨o, ho, h1, h2, h3, h4, h5, h6⟩ := rowB_out hI.row
        have hao : ∀ d, o.dst = some d → d ∈ asg := ha o (List.mem_of_getElem? (by rw [Array.getElem?_toList]; exact ho))
        obtain ⟨pa1, hle, hkp, hrun⟩ := stepD_out ha ho hI.le hI.kp hI.run
        by_cases hik : i = k
        · subst hik
          obtain ⟨_, o', ho', hw⟩ := hI.ready hi
          rw [ho] at ho'; cases ho'
          have hal : Alike ops o (app D a) a := by
            refine app_alike (kO_sel h3) D a fun d hd => ((hI.dor d hd i (by simp)).2.2 _ ho).resolve_left ?_
            rw [hw d.i (.inl (List.mem_map_of_mem hd))]; simp
          unfold wpOpIn
          simp only [ho]
          rw [← hal.2]
          rcases hrun with ⟨hwt, hrun⟩ | ⟨hwt, hrun⟩
          · rw [if_pos hwt]
            unfold runD at hrun
            split at hrun
            · rename_i hk0
              refine op_wp' hle hal.1.symm ?_ (cond_opX (by omega) hrun)
              rintro v w' ⟨rfl, h⟩
              exact ih _ _ _ D rest _ _ (hI.head hi ho (kO_sel h3) hle hkp hao (fun _ h => h) (.inl rfl) h) (by simp at hn; omega)
            · rename_i hk0
              refine op_wp' hle hal.1.symm ?_ (cond_opX (by omega) hrun)
              rintro v w' ⟨rfl, h⟩
              exact ih _ _ _ D rest _ _ (hI.head hi ho (kO_sel h3) hle hkp hao (fun _ h => List.mem_cons_of_mem _ h) (.inl rfl) h) (by simp at hn; omega)
            · refine op_wp' hle hal.1.symm ?_ hrun
              intro v w' h
              obtain ⟨h7, h8⟩ := rchk_out h
              exact ih _ _ _ D rest _ _ (hI.head hi ho (kO_sel h3) hle hkp hao (fun _ h => h) (.inr h8) h7) (by simp at hn; omega)
            · exact hrun.elim
          · rw [if_neg (by rw [hwt]; simp)]
            exact ⟨fun _ _ => trivial, ih _ _ _ D rest _ _ (hI.head hi ho (kO_sel h3) hle hkp hao (fun _ h => h) (.inl rfl) hrun) (by simp at hn; omega)⟩
        · have hir : i ∈ rest := (List.mem_cons.1 hio).resolve_left hik
          have hk1 : kO P o ≤ 1 := by
            rcases Nat.lt_or_ge 1 (kO P o) with h | h
            · exfalso
              obtain ⟨_, q, hq, hw⟩ := hI.ready hi
              obtain ⟨e, he, hb, hem⟩ := waitsOn_spec.1 (h5 (by omega) i hir q hq)
              have := hw e.on (.inr hem)
              rw [waitsOn_spec.2 ⟨e, he, hb, by simp⟩] at this
              cases this
            · exact h
          rcases hrun with ⟨hwt, hrun⟩ | ⟨hwt, hrun⟩
          · unfold runD at hrun
            split at hrun
            · rename_i hk0
              obtain ⟨v, h7, h8⟩ := opX_blind (ops := ops) hle hk0 hwt hrun
              exact ihr _ _ _ (hI.delay ho hk1 hle hkp hao (fun _ h => h) (h8 w) (.inl h8) h7) (by simp at hn ⊢; omega) hir
            · rename_i hk0
              obtain ⟨v, h7, h8⟩ := opX_run (ops := ops) hle (by omega) hwt hrun
              exact ihr _ _ _ (hI.delay ho hk1 hle hkp hao (fun _ h => List.mem_cons_of_mem _ h) h8 (.inr ⟨⟨k, pa1, o, v, []⟩, by simp, rfl, by simp, fun w' h => opX_again hle hk1 hwt h⟩) h7) (by simp at hn ⊢; omega) hir
            · omega
            · exact hrun.elim
          · exact ihr _ _ _ (hI.delay ho hk1 hle hkp hao (fun _ h => h) (.inr ⟨hwt, rfl⟩) (.inl fun w' => .inr ⟨hwt, rfl⟩) hrun) (by simp at hn ⊢; omega) hir
/-! ### Acts beside one another -/
theorem filF_mem {f : Nat → Bool} {x : Nat} : ∀ {l : List Nat}, x ∈ filF f l ↔ x ∈ l ∧ f x = true := by
  intro l
  induction l with
  | nil => simp [filF]
  | cons i r ih =>
    simp only [filF]
    cases h : f i with
    | true =>
      simp only [List.mem_cons, ih]
      constructor
      · rintro (rfl | h')
        · exact ⟨.inl rfl, h⟩
        · exact ⟨.inr h'.1, h'.2⟩
      · rintro ⟨rfl | h', h2⟩
        · exact .inl rfl
        · exact .inr ⟨h', h2⟩
    | false =>
      simp only [List.mem_cons, ih]
      constructor
      · exact fun h' => ⟨.inr h'.1, h'.2⟩
      · rintro ⟨rfl | h', h2⟩
        · rw [h] at h2; cases h2
        · exact ⟨h', h2⟩
theorem findF_some {f : Nat → Bool} {x : Nat} : ∀ {l : List Nat}, findF f l = some x → x ∈ l ∧ f x = true := by
  intro l
  induction l with
  | nil => intro h; cases h
  | cons i r ih =>
    intro h
    simp only [findF] at h
    cases hf : f i with
    | true => rw [hf] at h; cases h; exact ⟨List.mem_cons_self, hf⟩
    | false => rw [hf] at h; obtain ⟨h1, h2⟩ := ih h; exact ⟨List.mem_cons_of_mem _ h1, h2⟩
theorem lessF_mem {l : List Nat} {i x : Nat} : x ∈ lessF l i ↔ x ∈ l ∧ x ≠ i := by
  unfold lessF
  rw [filF_mem]
  refine and_congr_right fun _ => ?_
  rw [Bool.not_eq_true']
  constructor
  · intro h e; subst e; rw [Nat.beq_refl] at h; cases h
  · intro h
    cases hb : Nat.beq x i with
    | false => rfl
    | true => exact absurd (Nat.eq_of_beq_eq_true hb) h
theorem filF_len (f : Nat → Bool) : ∀ l : List Nat, (filF f l).length ≤ l.length := by
  intro l
  induction l with
  | nil => exact Nat.le_refl _
  | cons i r ih => simp only [filF]; split <;> simp only [List.length_cons] <;> omega
theorem lessF_len {l : List Nat} {i : Nat} (h : i ∈ l) : (lessF l i).length < l.length := by
  unfold lessF
  induction l with
  | nil => cases h
  | cons k r ih =>
    simp only [filF]
    have hl := filF_len (fun k => !Nat.beq k i) r
    by_cases hk : k = i
    · subst hk; simp only [Nat.beq_refl, Bool.not_true, List.length_cons]; omega
    · have hi := (List.mem_cons.1 h).resolve_left fun e => hk e.symm
      have := ih hi
      split <;> simp only [List.length_cons] <;> omega
theorem allF_all {f : Nat → Prop} : ∀ {l : List Nat}, allF f l → ∀ i ∈ l, f i := by
  intro l
  induction l with
  | nil => intro h; exact h.elim
  | cons i r ih =>
    intro h j hj
    cases r with
    | nil => rw [List.mem_singleton.1 hj]; exact h
    | cons k r =>
      rcases List.mem_cons.1 hj with rfl | hj
      · exact h.1
      · exact ih h.2 j hj
def Fork (P : Program) (ops : Array Oper) : Prop := ∀ i o, ops[i]? = some o → kO P o ≤ 2 ∧ (∀ e ∈ o.after, Region.binds .any e = true → e.on < i) ∧ (kO P o ≤ 1 → ∀ k q, k ≠ i → ops[k]? = some q → waitsOn q [i] = true ∨ waitsOn o [k] = true ∨ o.apart ops q = true)
theorem fork_of {ops : Array Oper} (h : forkB P ops = true) : Fork P ops := by
  intro i o ho
  have hi : i < ops.size := (Array.getElem?_eq_some_iff.1 ho).1
  have ho' : ops.toList[i]? = some o := by rw [Array.getElem?_toList]; exact ho
  unfold forkB at h
  have h := List.all_eq_true.1 h i (List.mem_range.2 hi)
  rw [ho'] at h
  simp only [Bool.and_eq_true, Bool.or_eq_true, Bool.not_eq_true', List.all_eq_true] at h
  obtain ⟨h1, h2, h3⟩ := h
  refine ⟨Nat.le_of_ble_eq_true h1, fun e he hb => ?_, fun hk k q hne hq => ?_⟩
  · have := (h2 e (by simpa using he)).resolve_left (by rw [hb]; simp)
    simpa [Nat.blt_eq] using this
  · have hk' : Nat.ble (kO P o) 1 = true := Nat.ble_eq_true_of_le hk
    have h3 := h3.resolve_left (by rw [hk']; simp)
    have hks : k < ops.size := (Array.getElem?_eq_some_iff.1 hq).1
    have h3 := (h3 k (List.mem_range.2 hks)).resolve_left (fun e => hne (Nat.eq_of_beq_eq_true e))
    have hq' : ops.toList[k]? = some q := by rw [Array.getElem?_toList]; exact hq
    rw [hq'] at h3
    simpa using h3
structure InvF (P : Program) (ops : Array Oper) (K : PF → World → Prop) (asg : List Nat) (rf : Bool) (pa0 : PF) (listed : Array Bool) (a : Act) (w : World) (D : List DE) (rest : List Nat) (n : Nat) (pend : List PE) (pa : PF) : Prop where
  sz : listed.size = ops.size
  un : ∀ j, j < ops.size → (listed.getD j true = false ↔ j ∈ D.map (·.i) ∨ j ∈ rest)
  lt : ∀ j ∈ rest, j < ops.size
  dop : ∀ d ∈ D, ops[d.i]? = some d.o ∧ kO P d.o ≤ 1
  dd : D.Pairwise fun d x => DR ops d x.i
  dor : ∀ d ∈ D, ∀ x ∈ rest, DR ops d x
  sq : SeqD (Phi P ops w pend (D.map (·.i))) D a
  le : pa.le (app D a)
  kp : Keep asg rf pa0 pa
  run : opsF P ops K n rest pend pa w
section
variable {ops : Array Oper} {K : PF → World → Prop} {asg : List Nat} {rf : Bool} {pa0 : PF} {listed : Array Bool} {a : Act} {D : List DE} {rest : List Nat} {n : Nat} {pend : List PE} {pa : PF}
theorem InvF.lt' (hI : InvF P ops K asg rf pa0 listed a w D rest n pend pa) {m : Nat} (hm : m ∈ D.map (·.i) ∨ m ∈ rest) : m < ops.size := by
  rcases hm with hm | hm
  · obtain ⟨d, hd, rfl⟩ := List.mem_map.1 hm
    exact (Array.getElem?_eq_some_iff.1 (hI.dop d hd).1).1
  · exact hI.lt m hm
theorem InvF.ready (hI : InvF P ops K asg rf pa0 listed a w D rest n pend pa) {i : Nat} (hr : i ∈ Region.ready .any ops listed) :
    (i ∈ D.map (·.i) ∨ i ∈ rest) ∧ ∃ o, ops[i]? = some o ∧ ∀ m, (m ∈ D.map (·.i) ∨ m ∈ rest) → waitsOn o [m] = false := by
  obtain ⟨h1, o, ho, h2⟩ := mem_ready.1 hr
  have hi : i < ops.size := (Array.getElem?_eq_some_iff.1 ho).1
  refine ⟨(hI.un i hi).1 h1, o, ho, fun m hm => ?_⟩
  cases hw : waitsOn o [m] with
  | false => rfl
  | true =>
    obtain ⟨e, he, hb, hem⟩ := waitsOn_spec.1 hw
    have h3 := h2 e he hb
    have h4 := getD_both' ((hI.un m (hI.lt' hm)).2 hm)
    rw [List.mem_singleton.1 hem, h4] at h3
    cases h3
theorem InvF.done (hF : Fork P ops) (hI : InvF P ops K asg rf pa0 listed a w D rest n pend pa) (h0 : Region.ready .any ops listed = []) : D = [] ∧ rest = [] := by
  have key : ∀ m i, i < m → ¬ (i ∈ D.map (·.i) ∨ i ∈ rest) := by
    intro m
    induction m with
    | zero => intro i h; omega
    | succ m ih =>
      intro i him hi
      have hlt := hI.lt' hi
      have ho : ops[i]? = some ops[i] := Array.getElem?_eq_getElem hlt
      have : i ∈ Region.ready .any ops listed := by
        refine mem_ready.2 ⟨(hI.un i hlt).2 hi, _, ho, fun e h1 h2 => ?_⟩
        have h3 := (hF i _ ho).2.1 e h1 h2
        exact getD_in' (by rw [hI.sz]; omega) fun h => ih e.on (by omega) ((hI.un _ (by omega)).1 h)
      rw [h0] at this
      cases this
  constructor
  · cases D with
    | nil => rfl
    | cons d r => exact absurd (.inl (by simp)) (key (d.i + 1) d.i (by omega))
  · cases rest with
    | nil => rfl
    | cons k r => exact absurd (.inr (by simp)) (key (k + 1) k (by omega))
theorem InvF.take (hI : InvF P ops K asg rf pa0 listed a w D rest n pend pa) {i : Nat} (hr : i ∈ Region.ready .any ops listed) (hi : i ∈ D.map (·.i)) :
    ∃ d0 : DE, d0.i = i ∧ kO P d0.o ≤ 1 ∧ ops[i]? = some d0.o ∧ YA P ops w d0.o d0.v a ∧ ∃ D', D'.length + 1 = D.length ∧ InvF P ops K asg rf pa0 (listed.setIfInBounds i true) (a.put d0.o.dst d0.v) w D' rest n pend pa := by
  obtain ⟨_, o, ho, hw⟩ := hI.ready hr
  obtain ⟨d0, hd0, rfl⟩ := List.mem_map.1 hi
  obtain ⟨D1, D2, rfl⟩ := List.append_of_mem hd0
  obtain ⟨h1, h3⟩ := hI.dop d0 hd0
  rw [h1] at ho; cases ho
  obtain ⟨hp1, hp2, hp12⟩ := List.pairwise_append.1 hI.dd
  obtain ⟨hp3, hp4⟩ := List.pairwise_cons.1 hp2
  have hap : ∀ d ∈ D1, (∀ cs b, d.o.op ≠ .select cs b) ∧ d.o.apart ops d0.o = true := by
    intro d hd
    refine ⟨kO_sel (P := P) (by have := (hI.dop d (by simp [hd])).2; omega), ((hp12 d hd d0 (by simp)).2.2 _ h1).resolve_left ?_⟩
    rw [hw d.i (.inl (by simp only [List.map_append, List.mem_append]; exact .inl (List.mem_map_of_mem hd)))]; simp
  obtain ⟨h5, h6, h7⟩ := seq_first lks_phi (kO_sel (P := P) (by omega)) D1 D2 a hap hI.sq
  refine ⟨d0, rfl, h3, h1, h5.1, D1 ++ D2, by simp; omega, ?_⟩
  have hne : ∀ d ∈ D1 ++ D2, d.i ≠ d0.i := by
    intro d hd
    rcases List.mem_append.1 hd with hd | hd
    · exact (hp12 d hd d0 (by simp)).1
    · exact fun h => (hp3 d hd).1 h.symm
  obtain ⟨hs, hu⟩ := un_set (U' := fun j => j ∈ (D1 ++ D2).map (·.i) ∨ j ∈ rest) (i := d0.i) hI.sz hI.un (by
    intro j
    simp only [List.map_append, List.mem_append, List.map_cons, List.mem_cons]
    constructor
    · rintro ((h | h) | h)
      · refine ⟨.inl (.inl h), ?_⟩
        obtain ⟨d, hd, rfl⟩ := List.mem_map.1 h; exact hne d (by simp [hd])
      · refine ⟨.inl (.inr (.inr h)), ?_⟩
        obtain ⟨d, hd, rfl⟩ := List.mem_map.1 h; exact hne d (by simp [hd])
      · exact ⟨.inr h, fun e => (hI.dor d0 hd0 _ h).1 e.symm⟩
    · rintro ⟨(h | h | h) | h, hn⟩
      · exact .inl (.inl h)
      · exact absurd h hn
      · exact .inl (.inr h)
      · exact .inr h)
  have hsub : ∀ d ∈ D1 ++ D2, d ∈ D1 ++ d0 :: D2 := by
    intro d hd; rcases List.mem_append.1 hd with hd | hd <;> simp [hd]
  refine ⟨hs, hu, hI.lt, fun d hd => hI.dop d (hsub d hd), ?_, fun d hd => hI.dor d (hsub d hd), ?_, by rw [← h7]; exact hI.le, hI.kp, hI.run⟩
  · exact List.pairwise_append.2 ⟨hp1, hp4, fun x hx y hy => hp12 x hx y (by simp [hy])⟩
  · refine seq_mono _ _ ?_ h6
    intro d hd b hb
    refine ⟨hb.1, ?_⟩
    rcases hb.2 with hb | ⟨p, h8, h9, h10, h11⟩
    · exact .inl hb
    · refine .inr ⟨p, h8, h9, ?_, h11⟩
      intro m hm
      obtain ⟨h12, q, h13, h14⟩ := h10 m hm
      refine ⟨?_, q, h13, h14⟩
      have hmn : m ≠ d0.i := by
        rintro rfl
        rw [h1] at h13; cases h13
        obtain ⟨e, he, hb, hem⟩ := waitsOn_spec.1 h14
        have hmU : e.on ∈ (D1 ++ d0 :: D2).map (·.i) := by
          rcases List.mem_cons.1 hem with hem | hem
          · rw [hem, h9]; exact List.mem_map_of_mem (hsub d hd)
          · exact (h10 _ hem).1
        have := hw e.on (.inl hmU)
        rw [waitsOn_spec.2 ⟨e, he, hb, by simp⟩] at this
        cases this
      simp only [List.map_append, List.mem_append, List.map_cons, List.mem_cons] at h12 ⊢
      rcases h12 with h | h | h
      · exact .inl h
      · exact absurd h hmn
      · exact .inr h
theorem InvF.delay (hF : Fork P ops) {k m : Nat} (hI : InvF P ops K asg rf pa0 listed a w D rest n pend pa) (hkr : k ∈ rest) {o : Oper} (ho : ops[k]? = some o) (hwr : waitsOn o rest = false) (hk : kO P o ≤ 1) {v : Value} {pend' : List PE} {pa1 : PF} (hle : pa1.le (app D a)) (hkp : Keep asg rf pa0 pa1)
    (hao : ∀ d, o.dst = some d → d ∈ asg) (hp : ∀ p ∈ addD o k pend, p ∈ pend') (hy : YA P ops w o v (app D a)) (hl : Live P ops pend' ((D ++ [(⟨k, o, v⟩ : DE)]).map (·.i)) ⟨k, o, v⟩ (app D a))
    (hrun : opsF P ops K m (lessF rest k) pend' (pa1.put o.dst v) w) : InvF P ops K asg rf pa0 listed a w (D ++ [(⟨k, o, v⟩ : DE)]) (lessF rest k) m pend' (pa1.put o.dst v) := by
  have hno : ∀ x ∈ rest, waitsOn o [x] = false := by
    intro x hx
    cases hw : waitsOn o [x] with
    | false => rfl
    | true => rw [waitsOn_mono (l' := rest) (by simpa using hx) hw] at hwr; cases hwr
  refine ⟨hI.sz, ?_, fun j hj => hI.lt j (lessF_mem.1 hj).1, ?_, ?_, ?_, ?_, ?_, hkp.put hao _, hrun⟩
  · intro j hj
    rw [hI.un j hj]
    simp only [List.map_append, List.map_cons, List.map_nil, List.mem_append, List.mem_cons, List.not_mem_nil, or_false, lessF_mem]
    constructor
    · rintro (h | h)
      · exact .inl (.inl h)
      · by_cases e : j = k
        · exact .inl (.inr e)
        · exact .inr ⟨h, e⟩
    · rintro ((h | h) | h)
      · exact .inl h
      · exact .inr (h ▸ hkr)
      · exact .inr h.1
  · intro d hd
    rcases List.mem_append.1 hd with hd | hd
    · exact hI.dop d hd
    · rw [List.mem_singleton.1 hd]; exact ⟨ho, hk⟩
  · refine List.pairwise_append.2 ⟨hI.dd, List.pairwise_singleton _ _, ?_⟩
    intro x hx y hy
    rw [List.mem_singleton.1 hy]
    exact hI.dor x hx k hkr
  · intro d hd x hx
    obtain ⟨hx1, hx2⟩ := lessF_mem.1 hx
    rcases List.mem_append.1 hd with hd | hd
    · exact hI.dor d hd x hx1
    · rw [List.mem_singleton.1 hd]
      refine ⟨fun e => hx2 e.symm, hno x hx1, fun q hq => ?_⟩
      rcases (hF k o ho).2.2 hk x q hx2 hq with h | h | h
      · exact .inl h
      · rw [hno x hx1] at h; cases h
      · exact .inr h
  · refine seq_snoc _ _ (seq_mono _ _ ?_ hI.sq) ⟨hy, hl⟩
    intro d hd b hb
    exact ⟨hb.1, live_more hp (live_grow (by intro m hm; simp only [List.map_append, List.mem_append]; exact .inl hm) (by simp) ho hb.2)⟩
  · simp only [app, List.foldl_append, List.foldl_cons, List.foldl_nil]
    exact PF.le_put hle _ _
theorem InvF.head {k m : Nat} (hI : InvF P ops K asg rf pa0 listed a w D rest n pend pa) (hkr : k ∈ rest) (hr : k ∈ Region.ready .any ops listed) {o : Oper} (ho : ops[k]? = some o) {v : Value} {w' : World} {pend' : List PE} {pa1 : PF} (hle : pa1.le (app D a)) (hkp : Keep asg rf pa0 pa1)
    (hao : ∀ d, o.dst = some d → d ∈ asg) (hp : ∀ p ∈ addD o k pend, p ∈ pend')
    (hy : w' = w ∨ ∀ p ∈ pend, waitsOn o (p.i :: p.desc) = false → opX P p.pa.t p.o w' fun v' _ => v' = p.v)
    (hrun : opsF P ops K m (lessF rest k) pend' (pa1.put o.dst v) w') : InvF P ops K asg rf pa0 (listed.setIfInBounds k true) (a.put o.dst v) w' D (lessF rest k) m pend' (pa1.put o.dst v) := by
  obtain ⟨_, o', ho', hw⟩ := hI.ready hr
  rw [ho] at ho'; cases ho'
  have hap : ∀ d ∈ D, (∀ cs b, d.o.op ≠ .select cs b) ∧ d.o.apart ops o = true := by
    intro d hd
    refine ⟨kO_sel (P := P) (by have := (hI.dop d hd).2; omega), ((hI.dor d hd k hkr).2.2 _ ho).resolve_left ?_⟩
    rw [hw d.i (.inl (List.mem_map_of_mem hd))]; simp
  obtain ⟨hs', hu⟩ := un_set (U' := fun j => j ∈ D.map (·.i) ∨ j ∈ lessF rest k) (i := k) hI.sz hI.un (by
    intro j
    simp only [lessF_mem]
    constructor
    · rintro (h | h)
      · refine ⟨.inl h, ?_⟩
        obtain ⟨d, hd, rfl⟩ := List.mem_map.1 h; exact (hI.dor d hd k hkr).1
      · exact ⟨.inr h.1, h.2⟩
    · rintro ⟨h | h, hn⟩
      · exact .inl h
      · exact .inr ⟨h, hn⟩)
  refine ⟨hs', hu, fun j hj => hI.lt j (lessF_mem.1 hj).1, hI.dop, hI.dd, fun d hd x hx => hI.dor d hd x (lessF_mem.1 hx).1, ?_, ?_, hkp.put hao _, hrun⟩
  · have hmap : SeqD (Phi P ops w' pend' (D.map (·.i))) D a := by
      refine seq_mono _ _ ?_ hI.sq
      intro d hd b hb
      have hlr := live_ready (k := k) (List.mem_map_of_mem hd) (fun m hm => hw m (.inl hm)) hb.2
      refine ⟨?_, ?_⟩
      · rcases hy with rfl | hy
        · exact hb.1
        · rcases hlr with h | ⟨p, h8, _, h10, _, _, h12⟩
          · exact h w'
          · exact h12 w' (hy p h8 h10)
      · rcases hlr with h | ⟨p, h8, h9, _, h10, h11, h12⟩
        · exact .inl h
        · refine .inr ⟨p, hp p ?_, h9, h11, h12⟩
          rw [← h10]; exact addD_mem h8
    exact seq_put lks_phi D a hap hmap
  · rw [app_put (ops := ops) D a (fun d hd => (hap d hd).2)]
    exact PF.le_put hle _ _
end
theorem fork_wp {ro : Option Nat} {ops : Array Oper} {K : PF → World → Prop} {asg : List Nat} {rf : Bool} {pa0 : PF} {Q : Exit → Act → World → Prop} (hF : Fork P ops) (ha : ∀ o ∈ ops.toList, ∀ d, o.dst = some d → d ∈ asg)
    (hQ : ∀ pa a w, pa.le a → Keep asg rf pa0 pa → K pa w → Q .normal a w) :
    ∀ (n : Nat) (listed : Array Bool) (a : Act) (w : World) (D : List DE) (rest : List Nat) (m : Nat) (pend : List PE) (pa : PF), InvF P ops K asg rf pa0 listed a w D rest m pend pa → D.length + rest.length ≤ n → wpAnyIn (fen ro) 0 P .any ops Q n listed a w := by
  have hfin : ∀ {listed : Array Bool} {a : Act} {w : World} {D : List DE} {rest : List Nat} {m : Nat} {pend : List PE} {pa : PF}, InvF P ops K asg rf pa0 listed a w D rest m pend pa → D = [] ∧ rest = [] → Q .normal a w := by
    rintro listed a w D rest m pend pa hI ⟨rfl, rfl⟩
    have h := hI.run
    unfold opsF at h
    exact hQ _ _ _ hI.le hI.kp h
  intro n
  induction n with
  | zero =>
    intro listed a w D rest m pend pa hI hn
    have h : D = [] ∧ rest = [] := ⟨List.length_eq_zero_iff.1 (by omega), List.length_eq_zero_iff.1 (by omega)⟩
    refine ⟨?_, hfin hI h⟩
    obtain ⟨rfl, rfl⟩ := h
    apply List.eq_nil_iff_forall_not_mem.2
    intro i hi
    have := (hI.ready hi).1
    simp at this
  | succ n ih =>
    intro listed a w D rest m pend pa hI hn
    refine ⟨fun h0 => hfin hI (hI.done hF h0), fun i hi => ?_⟩
    by_cases hiD : i ∈ D.map (·.i)
    · obtain ⟨d0, rfl, hk0, h1, h2, D', h3, h4⟩ := hI.take hi hiD
      have hd : ∀ c, d0.o.op ≠ .defer c := by
        intro c hc; simp [kO, hc] at hk0
      have hnext := ih _ _ _ D' rest m pend pa h4 (by omega)
      unfold wpOpIn
      simp only [h1]
      rcases h2 with ⟨hw, hv | ⟨hv, hv'⟩⟩ | ⟨hw, hv⟩
      · rw [if_pos hw]
        refine ⟨fun _ _ => trivial, ?_⟩
        rw [semAt_fen hd, hv, Oper.uponIn_value]; exact hnext
      · rw [if_pos hw]
        refine ⟨fun _ _ => trivial, ?_⟩
        rw [semAt_fen hd, hv', Oper.uponIn_skip, ← hv]; exact hnext
      · rw [if_neg (by rw [hw]; simp)]
        exact ⟨fun _ _ => trivial, by rw [← hv]; exact hnext⟩
    · have hio : i ∈ rest := (hI.ready hi).1.resolve_left hiD
      clear hiD
      induction m generalizing D rest pend pa with
      | zero =>
        have h := hI.run
        cases rest with
        | nil => cases hio
        | cons k r => unfold opsF at h; exact h.elim
      | succ m ihm =>
        have hrun0 := hI.run
        obtain ⟨k0, r0, e0⟩ : ∃ k r, rest = k :: r := by cases rest with
          | nil => cases hio
          | cons k r => exact ⟨k, r, rfl⟩
        have hrun0 : allF (fun j => stepD P ops j pend pa w fun pend pa w => opsF P ops K m (lessF rest j) pend pa w) (pickF P ops rest) := by
          rw [e0] at hrun0 ⊢; unfold opsF at hrun0; exact hrun0
        clear e0 k0 r0
        have hall := allF_all hrun0
        obtain ⟨_, oi, hoi, hwi⟩ := hI.ready hi
        have hwr : waitsOn oi rest = false := by
          cases hw : waitsOn oi rest with
          | false => rfl
          | true =>
            obtain ⟨e, he, hb, hem⟩ := waitsOn_spec.1 hw
            have := hwi e.on (.inr hem)
            rw [waitsOn_spec.2 ⟨e, he, hb, by simp⟩] at this
            cases this
        have hoi' : ops.toList[i]? = some oi := by rw [Array.getElem?_toList]; exact hoi
        -- the one that is drawn comes up
        have go : i ∈ pickF P ops rest → wpOpIn (fen ro) 0 P ops Q i (wpAnyIn (fen ro) 0 P .any ops Q n (listed.setIfInBounds i true)) a w := by
          intro hip
          have h3 := (hF i oi hoi).1
          have hao : ∀ d, oi.dst = some d → d ∈ asg := ha oi (List.mem_of_getElem? hoi')
          have hll := lessF_len hio
          obtain ⟨pa1, hle, hkp, hrun⟩ := stepD_out ha hoi hI.le hI.kp (hall i hip)
          have hal : Alike ops oi (app D a) a := by
            refine app_alike (kO_sel h3) D a fun d hd => ((hI.dor d hd i hio).2.2 _ hoi).resolve_left ?_
            rw [hwi d.i (.inl (List.mem_map_of_mem hd))]; simp
          unfold wpOpIn
          simp only [hoi]
          rw [← hal.2]
          rcases hrun with ⟨hwt, hrun⟩ | ⟨hwt, hrun⟩
          · rw [if_pos hwt]
            unfold runD at hrun
            split at hrun
            · rename_i hk0
              refine op_wp' hle hal.1.symm ?_ (cond_opX (by omega) hrun)
              rintro v w' ⟨rfl, h⟩
              exact ih _ _ _ D _ m _ _ (hI.head hio hi hoi hle hkp hao (fun _ h => h) (.inl rfl) h) (by omega)
            · rename_i hk0
              refine op_wp' hle hal.1.symm ?_ (cond_opX (by omega) hrun)
              rintro v w' ⟨rfl, h⟩
              exact ih _ _ _ D _ m _ _ (hI.head hio hi hoi hle hkp hao (fun _ h => List.mem_cons_of_mem _ h) (.inl rfl) h) (by omega)
            · refine op_wp' hle hal.1.symm ?_ hrun
              intro v w' h
              obtain ⟨h7, h8⟩ := rchk_out h
              exact ih _ _ _ D _ m _ _ (hI.head hio hi hoi hle hkp hao (fun _ h => h) (.inr h8) h7) (by omega)
            · exact hrun.elim
          · rw [if_neg (by rw [hwt]; simp)]
            exact ⟨fun _ _ => trivial, ih _ _ _ D _ m _ _ (hI.head hio hi hoi hle hkp hao (fun _ h => h) (.inl rfl) hrun) (by omega)⟩
        cases hf : findF (fun i => !waitB ops rest i && Nat.ble (kAt P ops i) 1) rest with
        | none =>
          refine go ?_
          unfold pickF
          rw [hf]
          refine filF_mem.2 ⟨hio, ?_⟩
          simp only [waitB, hoi', hwr, Bool.not_false]
        | some k =>
          have hpk : pickF P ops rest = [k] := by unfold pickF; rw [hf]
          by_cases hik : i = k
          · subst hik
            exact go (by rw [hpk]; simp)
          · obtain ⟨hkr, hkf⟩ := findF_some hf
            obtain ⟨ok, hok⟩ : ∃ o, ops[k]? = some o := ⟨_, Array.getElem?_eq_getElem (hI.lt k hkr)⟩
            have hok' : ops.toList[k]? = some ok := by rw [Array.getElem?_toList]; exact hok
            simp only [waitB, kAt, hok', Bool.and_eq_true, Bool.not_eq_true'] at hkf
            have hk1 : kO P ok ≤ 1 := Nat.le_of_ble_eq_true hkf.2
            have hao : ∀ d, ok.dst = some d → d ∈ asg := ha ok (List.mem_of_getElem? hok')
            have hll := lessF_len hkr
            have hir : i ∈ lessF rest k := lessF_mem.2 ⟨hio, hik⟩
            obtain ⟨pa1, hle, hkp, hrun⟩ := stepD_out ha hok hI.le hI.kp (hall k (by rw [hpk]; simp))
            rcases hrun with ⟨hwt, hrun⟩ | ⟨hwt, hrun⟩
            · unfold runD at hrun
              split at hrun
              · rename_i hk0
                obtain ⟨v, h7, h8⟩ := opX_blind (ops := ops) hle hk0 hwt hrun
                exact ihm _ _ _ _ (hI.delay hF hkr hok hkf.1 hk1 hle hkp hao (fun _ h => h) (h8 w) (.inl h8) h7) (by simp; omega) hir
              · rename_i hk0
                obtain ⟨v, h7, h8⟩ := opX_run (ops := ops) hle (by omega) hwt hrun
                exact ihm _ _ _ _ (hI.delay hF hkr hok hkf.1 hk1 hle hkp hao (fun _ h => List.mem_cons_of_mem _ h) h8 (.inr ⟨⟨k, pa1, ok, v, []⟩, by simp, rfl, by simp, fun w' h => opX_again hle hk1 hwt h⟩) h7) (by simp; omega) hir
              · omega
              · exact hrun.elim
            · exact ihm _ _ _ _ (hI.delay hF hkr hok hkf.1 hk1 hle hkp hao (fun _ h => h) (.inr ⟨hwt, rfl⟩) (.inl fun w' => .inr ⟨hwt, rfl⟩) hrun) (by simp; omega) hir
theorem drawn_wp {ro : Option Nat} {id : Nat} {ops : Array Oper} {K : PF → World → Prop} {asg : List Nat} {rf : Bool} {pa0 : PF} {Q : Exit → Act → World → Prop} (hP : P.follows .mixedOrders = true) (ha : ∀ o ∈ ops.toList, ∀ d, o.dst = some d → d ∈ asg)
    (hQ : ∀ pa a w, pa.le a → Keep asg rf pa0 pa → K pa w → Q .normal a w) {ord : List Nat} {pa : PF} {a : Act} (hle : pa.le a) (hk : Keep asg rf pa0 pa) (h : ex.drawX P ops ord pa w K) : (Code.region id ops true).wpIn (fen ro) 0 P Q a w := by
  unfold ex.drawX at h
  cases hc : canB P ops ord with
  | false =>
    rw [hc] at h
    cases hf : forkB P ops with
    | false => rw [hf] at h; exact h.elim
    | true =>
      rw [hf] at h
      refine wpIn_region_any hP ?_
      refine fork_wp (fork_of hf) ha hQ ops.size _ a _ [] (List.range ops.size) ops.size [] pa ⟨by simp, ?_, fun j hj => List.mem_range.1 hj, by simp, List.Pairwise.nil, by simp, trivial, hle, hk, h⟩ (by simp)
      intro j hj
      simp [Array.getD_eq_getD_getElem?, hj]
  | true =>
    rw [hc] at h
    simp only [canB, Bool.and_eq_true, List.all_eq_true] at hc
    obtain ⟨h1, h2, h3⟩ := hc
    refine wpIn_region_any hP ?_
    refine inv_wp ha hQ ops.size _ a _ [] ord [] pa ⟨by simp, ?_, by simp, List.Pairwise.nil, by simp, h3, trivial, hle, hk, h⟩ (by simp [Nat.eq_of_beq_eq_true h1])
    intro j hj
    have := h2 j (List.mem_range.2 hj)
    simp only [List.contains_eq_mem, decide_eq_true_eq] at this
    simp [Array.getD_eq_getD_getElem?, hj, this]
end Go.Proofs.YtbnadobjnmboiaaDoor.X
