/-
  E, part 1: what a piece of Go code must achieve, as a proposition in continuation form that the kernel can unfold ('ex'); light words for loads, stores, calls. No program is named here.
-/
import Derived.RangeFuncLeaves
import Derived.RangeFuncIn
import Derived.RangeFuncCalls
import Derived.RangeFuncRecord
import Derived.CallsIn
import Derived.OrdersIn
import Derived.KernelRfl
import Derived.WalkKit
namespace Go.Proofs.YtbnadobjnmboiaaDoor.X
open Go

/-! ### Partial frames -/
/-- an entry of a frame: a slot's value; or slots that are forgotten -/
inductive En where
  | v (i : Nat) (x : Value)
  | m (is : List Nat)
def getL : List En → Nat → Option Value
  | [], _ => none
  | .v j x :: r, i => cond (Nat.beq j i) (some x) (getL r i)
  | .m is :: r, i => cond (is.contains i) none (getL r i)
structure PF where
  n : Nat
  t : List En
  ds : List Deferred
def setB (n : Nat) (t : List En) (d : Nat) (v : Value) : List En := cond (Nat.blt d n) (.v d v :: t) t
def PF.put (pa : PF) (d : Option Tmp) (v : Value) : PF := match d with
  | some d => { pa with t := setB pa.n pa.t d v }
  | none => pa
def PF.le (pa : PF) (a : Act) : Prop := pa.ds = a.defers ∧ pa.n = a.tmps.size ∧ ∀ (i : Nat) (v : Value), getL pa.t i = some v → a.tmps[i]? = some v
def ev (t : List En) : Operand → Option Value
  | .tmp i => getL t i
  | .const v => some v
  | .global g => some (.pointer (some ⟨g, 0, none⟩))
  | .func f => some (.func (.func f) #[] #[])
def evK (t : List En) (x : Operand) (K : Value → Prop) : Prop := match ev t x with
  | some v => K v
  | none => False
def evs (t : List En) : List Operand → Option (List Value)
  | [] => some []
  | x :: r => match ev t x, evs t r with
    | some v, some vs => some (v :: vs)
    | _, _ => none
def evsK (t : List En) (xs : List Operand) (K : List Value → Prop) : Prop := match evs t xs with
  | some vs => K vs
  | none => False

/-! ### Kinds -/
inductive Kd where
  | int (k : IntKind) | bool | str | ptr | slice | other
def kdOf (P : Program) (t : TypeId) : Kd := match P.underlying t with
  | some (.int k) => .int k
  | some .bool => .bool
  | some .string => .str
  | some (.pointer _) => .ptr
  | some (.slice _) => .slice
  | _ => .other
/-- the kinds of a type's cells, in a row -/
def flat (P : Program) : Nat → TypeId → List Kd
  | 0, _ => []
  | d + 1, t => match P.underlying t with
    | some (.struct fs) => fs.toList.flatMap fun f => flat P d f.type
    | some (.array n e) => (List.replicate n (flat P d e)).flatten
    | _ => [kdOf P t]
def isAggB (P : Program) (t : TypeId) : Bool := match P.underlying t with
  | some (.struct _) | some (.array _ _) => true
  | _ => false
def sizeT (P : Program) (t : TypeId) : Nat := P.cellsOf t

/-! ### Light words -/
/-- a function is called -/
def CV (P : Program) (f : FuncId) (args : List Value) (w : World) (Q : Value → World → Prop) : Prop :=
  CallsIn Fence.wide 0 P f args.toArray w fun e w' => ∃ v, e = .returned v ∧ Q v w'
/-- a round of the loop whose record lies at l -/
def YV (P : Program) (l : Nat) (args : List Value) (w : World) (Q : Value → World → Prop) : Prop :=
  ∃ r, w.heap[l]? = some (.loop r) ∧ args.toArray.size = r.params.size ∧
    RoundIn Fence.wide 0 P l r.fn ((r.params.zip args.toArray).foldl (fun tmps (t, a) => tmps.setIfInBounds t a) r.tmps) r.assign r.body w fun e w' => ∃ v, e = .returned v ∧ Q v w'
def cnd (b : Bool) (x y : Prop) : Prop := match b with | true => x | false => y
def ldI (k : IntKind) (a : Addr) (w : World) (K : Int → Prop) : Prop := ∃ n, w.cell? a = some (.int k n) ∧ K n
def ldB (a : Addr) (w : World) (K : Bool → Prop) : Prop := ∃ n, w.cell? a = some (.bool n) ∧ K n
def ldS (a : Addr) (w : World) (K : ByteArray → Prop) : Prop := ∃ n, w.cell? a = some (.string n) ∧ K n
def ldP (a : Addr) (w : World) (K : Option Addr → Prop) : Prop := ∃ n, w.cell? a = some (.pointer n) ∧ K n
def ldL (a : Addr) (w : World) (K : Option Addr → Nat → Nat → Prop) : Prop := ∃ p n c, w.cell? a = some (.slice p n c) ∧ K p n c
def ldV (a : Addr) (w : World) (K : Value → Prop) : Prop := ∃ v, w.cell? a = some v ∧ K v
def ld1 (kd : Kd) (a : Addr) (w : World) (K : Value → Prop) : Prop := match kd with
  | .int k => ldI k a w fun n => K (.int k n)
  | .bool => ldB a w fun n => K (.bool n)
  | .str => ldS a w fun n => K (.string n)
  | .ptr => ldP a w fun n => K (.pointer n)
  | .slice => ldL a w fun p n c => K (.slice p n c)
  | .other => ldV a w K
def ldN (kds : List Kd) (a : Addr) (i : Nat) (w : World) (K : List Value → Prop) : Prop := match kds with
  | [] => K []
  | kd :: r => ld1 kd (a.add i) w fun v => ldN r a (i + 1) w fun vs => K (v :: vs)
def alc (cs : List Value) (t : TypeId) (w : World) (K : Nat → World → Prop) : Prop := K w.heap.size (w.alloc (.cells cs.toArray t))
def one (v : Value) : Prop := match v with | .agg _ | .tuple _ => False | _ => True
def st1 (v : Value) (a : Addr) (w : World) (K : World → Prop) : Prop := (∃ old, w.cell? a = some old) ∧ w.frozen? a = false ∧ K (w.setCell a v)
def stN (vs : List Value) (a : Addr) (i : Nat) (w : World) (K : World → Prop) : Prop := match vs with
  | [] => K w
  | v :: r => match v with
    | .agg _ | .tuple _ => False
    | v => st1 v (a.add i) w fun w1 => stN r a (i + 1) w1 K
def cellsL : Value → List Value
  | .agg cs => cs.toList
  | v => [v]
def nn (p : Option Addr) (K : Addr → Prop) : Prop := match p with | some a => K a | none => False
def nz (n : Int) (K : Prop) : Prop := n ≠ 0 ∧ K
/-- an index within a length -/
def ix (i : Int) (n : Nat) (K : Nat → Prop) : Prop := (0 ≤ i ∧ i < n) ∧ K i.toNat
/-- what a bare piece of the model's own comes to -/
def runV (P : Program) (s : Sem Value) (w : World) (K : Value → World → Prop) : Prop := ∃ v w', s.run P w = .ok v w' ∧ K v w'
def runS (P : Program) (s : Sem Value) (w : World) (K : Option Addr → Nat → Nat → World → Prop) : Prop := ∃ p n c w', s.run P w = .ok (.slice p n c) w' ∧ K p n c w'
def runB (P : Program) (s : Sem Value) (w : World) (K : Bool → Prop) : Prop := ∃ b, s.run P w = .ok (.bool b) w ∧ K b
def runT (P : Program) (s : Sem Value) (w : World) (K : ByteArray → Prop) : Prop := ∃ b, s.run P w = .ok (.string b) w ∧ K b
def runI (P : Program) (s : Sem Value) (w : World) (K : Int → World → Prop) : Prop := ∃ n w', s.run P w = .ok (.int .i64 n) w' ∧ K n w'
/-- two addresses held against each other, neither in bytes that a string shares -/
def bare (w : World) (b : Nat) : Prop := ∃ cs t, w.heap[b]? = some (.cells cs t (0, 0))
def eqP (a b : Addr) (w : World) (K : Bool → Prop) : Prop := (a.block = b.block ∨ (bare w a.block ∧ bare w b.block)) ∧ K (a == b)
/-- a loop: a relation and a measure -/
def LoopT {S : Type} (step : S → World → (S → World → Prop) → Prop) (s0 : S) (w0 : World) : Prop :=
  ∃ (I : S → World → Prop) (μ : S → World → Nat), I s0 w0 ∧ ∀ s w, I s w → step s w fun s' w' => I s' w' ∧ μ s' w' < μ s w
structure LoopSpec where
  S : Type
  emb : S → List (Nat × Value)
  ext : List En → Option S
  slots : List Nat
  fits : ∀ s, (emb s).map (·.1) = slots
  ok : ∀ t s, ext t = some s → ∀ x ∈ emb s, getL t x.1 = some x.2
  ord : List Nat := []
/-- a value of a row of kinds: told by its parts -/
def exK (kds : List Kd) (K : List Value → Prop) : Prop := match kds with
  | [] => K []
  | kd :: r => match kd with
    | .int k => ∃ n : Int, exK r fun vs => K (.int k n :: vs)
    | .bool => ∃ n : Bool, exK r fun vs => K (.bool n :: vs)
    | .str => ∃ n : ByteArray, exK r fun vs => K (.string n :: vs)
    | .ptr => ∃ n : Option Addr, exK r fun vs => K (.pointer n :: vs)
    | .slice => ∃ (p : Option Addr) (n c : Nat), exK r fun vs => K (.slice p n c :: vs)
    | .other => ∃ v : Value, exK r fun vs => K (v :: vs)
def exT (P : Program) (t : TypeId) (K : Value → Prop) : Prop := match isAggB P t with
  | true => exK (flat P 9 t) fun vs => K (.agg vs.toArray)
  | false => match kdOf P t with
    | .int k => ∃ n : Int, K (.int k n)
    | .bool => ∃ n : Bool, K (.bool n)
    | .str => ∃ n : ByteArray, K (.string n)
    | .ptr => ∃ n : Option Addr, K (.pointer n)
    | .slice => ∃ (p : Option Addr) (n c : Nat), K (.slice p n c)
    | .other => ∃ v : Value, K v
def exTs (P : Program) (ts : List TypeId) (K : List Value → Prop) : Prop := match ts with
  | [] => K []
  | t :: r => exT P t fun v => exTs P r fun vs => K (v :: vs)
/-- a value of a type: what it is made of. A call's several results: a tuple. -/
def isT (P : Program) (t : TypeId) (v : Value) (K : Value → Prop) : Prop := match P.underlying t with
  | some (.tuple ts) => exTs P ts.toList fun vs => v = .tuple vs.toArray ∧ K (.tuple vs.toArray)
  | _ => exT P t fun v' => v = v' ∧ K v'
end Go.Proofs.YtbnadobjnmboiaaDoor.X
