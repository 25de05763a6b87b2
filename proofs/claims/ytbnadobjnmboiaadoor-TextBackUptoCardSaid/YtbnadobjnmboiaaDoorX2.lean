/-
  E, part 2: operations, regions, code: 'ex P ann ro cur c pa w K': code c, from the partial frame pa and the world w on, ends so that K holds.
-/
import Derived.Test.YtbnadobjnmboiaaDoorX1
namespace Go.Proofs.YtbnadobjnmboiaaDoor.X
open Go

def zeroC (P : Program) (t : TypeId) : Option (List Value) := match P.info? t with
  | some i => i.zero.map cellsL
  | none => none
def setAll (off : Nat) : List Value → List Value → List Value
  | [], cs => cs
  | v :: r, cs => setAll (off + 1) r (cs.set off v)
def fillX (place : Nat → Option (Nat × Nat)) (cells : List Value) : List (Nat × Value) → Option (List Value)
  | [] => some cells
  | (i, v) :: rest => match place i with
    | none => none
    | some (off, size) => if (cellsL v).length ≠ size || off + (cellsL v).length > cells.length then none else fillX place (setAll off (cellsL v) cells) rest
def buildX (P : Program) (t : TypeId) (parts : List (Nat × Value)) : Option (List Value) := match zeroC P t with
  | none => none
  | some z => match P.underlying t with
    | some (.struct fs) => if fs.toList.all (fun f => (P.info? f.type).isSome) then fillX (fun i => (fs.toList[i]?).map fun f => (f.offset, sizeT P f.type)) z parts else none
    | some (.array _ e) => if (P.info? e).isSome then fillX (fun i => some (i * sizeT P e, sizeT P e)) z parts else none
    | _ => none
def zerosL (z : List Value) (n : Nat) : List Value := (List.range n).map fun i => z.getD (i % z.length) undef
def buildSX (P : Program) (e : TypeId) (len : Nat) (parts : List (Nat × Value)) : Option (List Value) :=
  if len * sizeT P e = 0 then (if (P.info? e).isNone then none else match parts with
    | [] => some []
    | _ :: _ => none) else if (P.info? e).isNone || len * sizeT P e > 2 ^ 24 || len * sizeT P e = 0 then none else match zeroC P e with
  | none => none
  | some z => if z.length ≠ sizeT P e then none else fillX (fun i => some (i * sizeT P e, sizeT P e)) (zerosL z (len * sizeT P e)) parts
def nthL : List Value → Nat → Option Value
  | [], _ => none
  | x :: _, 0 => some x
  | _ :: r, n + 1 => nthL r n
def ldT (P : Program) (t : TypeId) (a : Addr) (w : World) (K : Value → Prop) : Prop := if (P.underlying t).isNone then False else match isAggB P t with
  | true => if (flat P 9 t).length = sizeT P t then ldN (flat P 9 t) a 0 w fun vs => K (.agg vs.toArray) else False
  | false => ld1 (kdOf P t) a w K
def oneK (v : Value) (K : Prop) : Prop := match v with | .agg _ | .tuple _ => False | _ => K
def stT (P : Program) (t : TypeId) (v : Value) (a : Addr) (w : World) (K : World → Prop) : Prop := match isAggB P t with
  | true => match v with
    | .agg cs => if cs.toList.length = sizeT P t then stN cs.toList a 0 w K else False
    | _ => False
  | false => if sizeT P t = 1 then oneK v (st1 v a w K) else False
def nchk (v : Value) (K : Value → Prop) : Prop := match v with
  | .pointer p => nn p fun a => K (.pointer (some a))
  | .func fn f c => match fn with
    | .method _ => False
    | _ => K (.func fn f c)
  | .nilFunc | .nilIface => False
  | v => K v
def bitX (op : BinOp) (k : IntKind) (x y : Int) : Int := match op with
  | .and => k.wrap (BitVec.ofInt k.bits x &&& BitVec.ofInt k.bits y).toNat
  | .or => k.wrap (BitVec.ofInt k.bits x ||| BitVec.ofInt k.bits y).toNat
  | .xor => k.wrap (BitVec.ofInt k.bits x ^^^ BitVec.ofInt k.bits y).toNat
  | _ => k.wrap (BitVec.ofInt k.bits x &&& ~~~ BitVec.ofInt k.bits y).toNat
def nng (n : Int) (K : Prop) : Prop := 0 ≤ n ∧ K
def intX (op : BinOp) (k : IntKind) (a b : Int) (K : Value → Prop) : Prop := match op with
  | .add => K (.int k (k.wrap (a + b)))
  | .sub => K (.int k (k.wrap (a - b)))
  | .mul => K (.int k (k.wrap (a * b)))
  | .quo => nz b (K (.int k (k.wrap (a.tdiv b))))
  | .rem => nz b (K (.int k (a.tmod b)))
  | .and => K (.int k (bitX .and k a b))
  | .or => K (.int k (bitX .or k a b))
  | .xor => K (.int k (bitX .xor k a b))
  | .andNot => K (.int k (bitX .andNot k a b))
  | .shl => nng b (K (.int k (k.wrap (a * 2 ^ min b.toNat k.bits))))
  | .shr => nng b (K (.int k (a.fdiv (2 ^ min b.toNat k.bits))))
  | .eql => K (.bool (a == b))
  | .neq => K (.bool (a != b))
  | .lss => K (.bool (decide (a < b)))
  | .leq => K (.bool (decide (a ≤ b)))
  | .gtr => K (.bool (decide (a > b)))
  | .geq => K (.bool (decide (a ≥ b)))
def isShift (op : BinOp) : Bool := match op with | .shl | .shr => true | _ => false
def strX (op : BinOp) (a b : ByteArray) (K : Value → Prop) : Prop := match op with
  | .add => ((a.size + b.size : Nat) : Int) ≤ IntKind.i64.max ∧ K (.string (a ++ b))
  | .eql => K (.bool (a.toList == b.toList))
  | .neq => K (.bool !(a.toList == b.toList))
  | .lss => K (.bool (Op.bytesLess a.toList b.toList))
  | _ => False
def eqA (P : Program) (op : BinOp) (t : TypeId) (x y : Value) (w : World) (K : Bool → Prop) : Prop :=
  (eqGuard op t (.tmp 0) (.tmp 0) x y).run P w = .ok () w ∧ runB P (Go.binOp op t x y) w K
/-- two pointers compared -/
def eqPP (P : Program) (t : TypeId) (p q : Option Addr) (w : World) (K : Bool → Prop) : Prop := match q with
  | none => K p.isNone
  | some qa => match p with
    | none => False
    | some pa => if sizeT P (match P.underlying t with | some (.pointer e) => e | _ => 0) = 0 then False else eqP pa qa w K
def binX (P : Program) (op : BinOp) (t : TypeId) (x y : Value) (w : World) (K : Value → Prop) : Prop := match kdOf P t with
  | .int _ => match x, y with
    | .int k a, .int k' b => if isShift op || k = k' then intX op k a b K else False
    | _, _ => False
  | .str => match x, y with
    | .string a, .string b => strX op a b K
    | _, _ => False
  | .bool => match x, y with
    | .bool a, .bool b => match op with
      | .eql => K (.bool (a == b))
      | .neq => K (.bool !(a == b))
      | _ => False
    | _, _ => False
  | .ptr => match x, y with
    | .pointer p, .pointer q => match op with
      | .eql => match q with
        | none => K (.bool p.isNone)
        | some qa => match p with
          | none => False
          | some pa => if sizeT P (match P.underlying t with | some (.pointer e) => e | _ => 0) = 0 then False else eqP pa qa w fun b => K (.bool b)
      | .neq => match q with
        | none => K (.bool !p.isNone)
        | some qa => match p with
          | none => False
          | some pa => if sizeT P (match P.underlying t with | some (.pointer e) => e | _ => 0) = 0 then False else eqP pa qa w fun b => K (.bool !b)
      | _ => False
    | _, _ => False
  | .slice => match x, y with
    | .slice p _ _, .slice q _ _ => match q with
      | none => match op with
        | .eql => K (.bool p.isNone)
        | .neq => K (.bool !p.isNone)
        | _ => False
      | some _ => False
    | _, _ => False
  | .other => match op with
    | .eql => eqA P .eql t x y w fun b => K (.bool b)
    | .neq => eqA P .neq t x y w fun b => K (.bool b)
    | _ => False
/-- an operand that is written out -/
def isC : Operand → Bool
  | .const _ => true
  | _ => false
def nilY : Value → Bool
  | .nilIface => true
  | _ => false
def otherK : Kd → Bool
  | .other => true
  | _ => false
/-- held against nil, written out -/
def eqN (P : Program) (op : BinOp) (t : TypeId) (x y : Value) (w : World) (K : Bool → Prop) : Prop := runB P (Go.binOp op t x y) w K
def binC (c : Bool) (P : Program) (op : BinOp) (t : TypeId) (x y : Value) (w : World) (K : Value → Prop) : Prop := match c && (nilY y && otherK (kdOf P t)) with
  | true => match op with
    | .eql => eqN P .eql t x y w fun b => K (.bool b)
    | .neq => eqN P .neq t x y w fun b => K (.bool b)
    | _ => False
  | false => binX P op t x y w K
def unX (op : UnOp) (x : Value) (K : Value → Prop) : Prop := match op, x with
  | .not, .bool b => K (.bool !b)
  | .neg, .int k n => K (.int k (k.wrap (0 - n)))
  | .xor, .int k n => K (.int k (bitX .xor k (if k.signed then -1 else k.max) n))
  | _, _ => False
def cvX (P : Program) (s d : TypeId) (x : Value) (w : World) (K : Value → World → Prop) : Prop := match P.underlying d with
  | some (.int k) => match P.underlying s with
    | some _ => match x with
      | .int _ n => K (.int k (k.wrap n)) w
      | _ => False
    | none => False
  | some .string => match P.underlying s with
    | some .string => match x with
      | .string b => K (.string b) w
      | _ => False
    | some (.slice e) => match P.underlying e with
      | some (.int .u8) => match x with
        | .slice p n c => runT P (Conv.bytesToString (.slice p n c)) w fun b => K (.string b) w
        | _ => False
      | _ => False
    | _ => False
  | some (.slice _) => runS P (Go.convert s d x) w fun p n c w' => K (.slice p n c) w'
  | _ => False
/-- the bounds of a slice expression -/
def slB (n c : Nat) (lo hi mx : Option Int) (K : Nat → Nat → Nat → Prop) : Prop :=
  (∀ x, mx = some x → 0 ≤ x ∧ x ≤ c) ∧ (∀ x, hi = some x → 0 ≤ x ∧ x ≤ ((mx.map Int.toNat).getD c : Nat)) ∧ (∀ x, lo = some x → 0 ≤ x ∧ x ≤ ((hi.map Int.toNat).getD n : Nat)) ∧
    K ((lo.map Int.toNat).getD 0) ((hi.map Int.toNat).getD n) ((mx.map Int.toNat).getD c)
def slL (p : Option Addr) (n c sz : Nat) (lo hi mx : Option Int) (K : Option Addr → Nat → Nat → Prop) : Prop :=
  slB n c lo hi mx fun l h m => K (if m = l then p else p.map (·.add (l * sz))) (h - l) (m - l)
def slS (s : ByteArray) (lo hi : Option Int) (K : ByteArray → Prop) : Prop := slB s.size s.size lo hi none fun l h _ => K (s.extract l h)
def sx (s : ByteArray) (i : Int) (K : Int → Prop) : Prop := 0 ≤ i ∧ ∃ b, s[i.toNat]? = some b ∧ K b.toNat
/-- an optional bound -/
def evO (t : List En) (x : Option Operand) (K : Option Int → Prop) : Prop := match x with
  | none => K none
  | some x => evK t x fun v => match v with
    | .int _ n => K (some n)
    | _ => False
def slX (P : Program) (ty : TypeId) (v : Value) (lo hi mx : Option Int) (w : World) (K : Value → World → Prop) : Prop := match P.underlying ty with
  | some (.slice e) => match v with
    | .slice p n c => match hi, mx with
      | none, some _ => False
      | _, _ => if (P.info? e).isSome then slL p n c (sizeT P e) lo hi mx fun p n c => K (.slice p n c) w else False
    | _ => False
  | some .string => match v, mx with
    | .string s, none => slS s lo hi fun s => K (.string s) w
    | _, _ => False
  | some (.array n e) => match v with
    | .pointer p => nn p fun a => match hi, mx with
      | none, some _ => False
      | _, _ => if (P.info? e).isSome then slL (some a) n n (sizeT P e) lo hi mx fun p n c => K (.slice p n c) w else False
    | _ => False
  | _ => False
def partX (P : Program) (t : TypeId) (cs : List Value) (off : Nat) (K : Value → Prop) : Prop := if (P.underlying t).isNone then False else match isAggB P t with
  | true => K (.agg ((cs.drop off).take (sizeT P t)).toArray)
  | false => match nthL cs off with
    | some v => K v
    | none => False
/-- an element of an array by an index that is known to the walk alone -/
def elX (P : Program) (t : TypeId) (cs : List Value) (off : Nat) (K : Value → Prop) : Prop := if (P.underlying t).isNone then False else match isAggB P t with
  | true => False
  | false => ∃ v, cs[off]? = some v ∧ isT P t v K
def enters (P : Program) (f : FuncId) : Bool := match P.funcs[f]? with
  | some fn => fn.body.isSome && !(fn.name == "runtime.NumGoroutine")
  | none => false
/-- a function that the model stands in for -/
def extX (P : Program) (g : FuncId) (vs : List Value) (w : World) (Q : Value → World → Prop) : Prop :=
  ∃ fn e v w', P.funcs[g]? = some fn ∧ (fn.name == "runtime.NumGoroutine") = false ∧ fn.body.isNone = true ∧ Extern.findNext fn = none ∧ Extern.find fn = some e ∧ (e vs.toArray).run P w = .ok v w' ∧ Q v w'
def callVal (P : Program) (f : Value) (vs : List Value) (w : World) (Q : Value → World → Prop) : Prop := match f with
  | .func fn first cap => match fn with
    | .func g => match enters P g with
      | true => CV P g (first.toList ++ vs ++ cap.toList) w Q
      | false => extX P g (first.toList ++ vs ++ cap.toList) w Q
    | .yield l => YV P l (first.toList ++ vs) w Q
    | _ => False
  | _ => False
def mxI (k : IntKind) (K : Int → Prop) : Int → List Value → Prop
  | x, [] => K x
  | x, .int k' y :: r => if k = k' then mxI k K (if y > x then y else x) r else False
  | _, _ => False
def mnI (k : IntKind) (K : Int → Prop) : Int → List Value → Prop
  | x, [] => K x
  | x, .int k' y :: r => if k = k' then mnI k K (if y < x then y else x) r else False
  | _, _ => False
def builtX (P : Program) (b : Builtin) (ats : Array TypeId) (ty : TypeId) (vs : List Value) (w : World) (K : Value → World → Prop) : Prop := match b with
  | .len => match ats.toList, vs with
    | t :: _, v :: _ => match P.underlying t with
      | some .string => match v with | .string s => K (.int .i64 s.size) w | _ => False
      | some (.slice _) => match v with | .slice _ n _ => K (.int .i64 n) w | _ => False
      | some (.array n _) => K (.int .i64 n) w
      | _ => False
    | _, _ => False
  | .cap => match ats.toList, vs with
    | t :: _, v :: _ => match P.underlying t with
      | some (.slice _) => match v with | .slice _ _ c => K (.int .i64 c) w | _ => False
      | _ => False
    | _, _ => False
  | .max => match vs with
    | .int k x :: r => mxI k (fun n => K (.int k n) w) x r
    | _ => False
  | .min => match vs with
    | .int k x :: r => mnI k (fun n => K (.int k n) w) x r
    | _ => False
  | .append => runS P (Builtin.append_ ats ty vs.toArray) w fun p n c w' => K (.slice p n c) w'
  | .copy => runI P (Builtin.copy_ ats ty vs.toArray) w fun n w' => K (.int .i64 n) w'
  | .clear => runV P (Builtin.clear_ ats ty vs.toArray) w fun v w' => v = undef ∧ K undef w'
  | _ => False
def opX (P : Program) (t : List En) (o : Oper) (w : World) (K : Value → World → Prop) : Prop := match o.op with
  | .move x => evK t x fun v => K v w
  | .assign x => evK t x fun v => K v w
  | .pick c x y => evK t c fun c => match c with
    | .bool b => cnd b (evK t x fun v => K v w) (evK t y fun v => K v w)
    | _ => False
  | .alloc e => match zeroC P e with
    | some cs => alc cs e w fun b w' => K (.pointer (some ⟨b, 0, none⟩)) w'
    | none => False
  | .box e x => evK t x fun v => match isAggB P e with
    | true => alc (cellsL v) e w fun b w' => K (.pointer (some ⟨b, 0, none⟩)) w'
    | false => oneK v (alc [v] e w fun b w' => K (.pointer (some ⟨b, 0, none⟩)) w')
  | .build ty parts => evsK t (parts.toList.map (·.2)) fun vs => match buildX P ty ((parts.toList.map (·.1)).zip vs) with
    | some cs => K (.agg cs.toArray) w
    | none => False
  | .buildSlice ty len parts => match P.underlying ty with
    | some (.slice e) => evsK t (parts.toList.map (·.2)) fun vs => match buildSX P e len ((parts.toList.map (·.1)).zip vs) with
      | some cs => alc cs e w fun b w' => K (.slice (some ⟨b, 0, none⟩) len len) w'
      | none => False
    | _ => False
  | .load ty x => evK t x fun v => match v with
    | .pointer p => nn p fun a => ldT P ty a w fun v => K v w
    | _ => False
  | .store ty x y => evK t x fun p => evK t y fun v => match p with
    | .pointer p => nn p fun a => stT P ty v a w fun w' => K undef w'
    | _ => False
  | .nilCheck x => evK t x fun v => nchk v fun v => K v w
  | .binOp op ty ox oy _ => evK t ox fun x => evK t oy fun y => binC (isC ox || isC oy) P op ty x y w fun v => K v w
  | .unOp op _ x => evK t x fun x => unX op x fun v => K v w
  | .convert s d x => evK t x fun x => cvX P s d x w K
  | .makeInterface ty x => evK t x fun x => match P.underlying ty with
    | some (.interface _) => False
    | some _ => K (.iface ty x) w
    | none => False
  | .makeFunc fn first cap => evsK t first.toList fun vs => evsK t cap.toList fun cs => K (.func fn vs.toArray cs.toArray) w
  | .makeSlice ty l c => evK t l fun l => evK t c fun c => runS P (Instr.makeSlice ty l c) w fun p n c w' => K (.slice p n c) w'
  | .slice ty x lo hi mx => evK t x fun v => evO t lo fun lo => evO t hi fun hi => evO t mx fun mx => slX P ty v lo hi mx w K
  | .fieldAddr s x f => evK t x fun v => match v with
    | .pointer p => nn p fun a => match P.underlying s with
      | some (.struct fs) => match fs.toList[f]? with
        | some fd => if sizeT P fd.type = 0 then False else K (.pointer (some (a.add fd.offset))) w
        | none => False
      | _ => False
    | _ => False
  | .field s x f => evK t x fun v => match v with
    | .agg cs => match P.underlying s with
      | some (.struct fs) => match fs.toList[f]? with
        | some fd => partX P fd.type cs.toList fd.offset fun v => K v w
        | none => False
      | _ => False
    | _ => False
  | .indexAddr ty x i => evK t x fun v => evK t i fun i => match i with
    | .int _ i => match P.underlying ty with
      | some (.slice e) => match v with
        | .slice p n _ => if (P.info? e).isSome then ix i n fun j => nn p fun a => K (.pointer (some (a.add (j * sizeT P e)))) w else False
        | _ => False
      | some (.array n e) => match v with
        | .pointer p => if (P.info? e).isSome then nn p fun a => ix i n fun j => K (.pointer (some (a.add (j * sizeT P e)))) w else False
        | _ => False
      | _ => False
    | _ => False
  | .index ty x i => evK t x fun v => evK t i fun i => match i with
    | .int _ i => match P.underlying ty with
      | some .string => match v with
        | .string s => sx s i fun b => K (.int .u8 b) w
        | _ => False
      | some (.array n e) => match v with
        | .agg cs => if (P.info? e).isSome then ix i n fun j => elX P e cs.toList (j * sizeT P e) fun v => K v w else False
        | _ => False
      | _ => False
    | _ => False
  | .extract x j => evK t x fun v => match v with
    | .tuple vs => match nthL vs.toList j with
      | some v => K v w
      | none => False
    | _ => False
  | .call c => match c.callee with
    | .value f => evK t f fun fv => evsK t c.args.toList fun vs => callVal P fv vs w fun v w' => isT P o.type v fun v => K v w'
    | .builtin b => evsK t c.args.toList fun vs => builtX P b c.argTypes o.type vs w K
    | _ => False
  | _ => False

/-! ### Regions -/
def opsX (P : Program) (all : Array Oper) : List Oper → PF → World → (PF → World → Prop) → Prop
  | [], pa, w, K => K pa w
  | o :: rest, pa, w, K => match o.guard with
    | none => opX P pa.t o w fun v w' => opsX P all rest (pa.put o.dst v) w' K
    | some (j, want) => match (all.toList[j]?).bind (·.dst) with
      | none => False
      | some d => match getL pa.t d with
        | some (.bool b) => match want with
          | true => cnd b (opX P (.v d (.bool true) :: pa.t) o w fun v w' => opsX P all rest (PF.put { pa with t := .v d (.bool true) :: pa.t } o.dst v) w' K)
              (opsX P all rest (PF.put { pa with t := .v d (.bool false) :: pa.t } o.dst undef) w K)
          | false => cnd b (opsX P all rest (PF.put { pa with t := .v d (.bool true) :: pa.t } o.dst undef) w K)
              (opX P (.v d (.bool false) :: pa.t) o w fun v w' => opsX P all rest (PF.put { pa with t := .v d (.bool false) :: pa.t } o.dst v) w' K)
        | some (.tuple _) => opsX P all rest (pa.put o.dst undef) w K
        | _ => False

def drw (w : World) (K : World → Prop) : Prop := K w.drew
/-! ### Regions whose order is drawn: reads come as early as they may; each is read again behind an act that it may come after -/
def kO (P : Program) (o : Oper) : Nat := match o.op with
  | .move _ | .assign _ | .pick .. | .unOp .. | .makeInterface .. | .makeFunc .. | .fieldAddr .. | .indexAddr .. | .nilCheck _ | .extract .. | .build .. => 0
  | .binOp _ t _ _ _ => match kdOf P t with
    | .int _ | .bool | .str | .slice => 0
    | _ => 1
  | .load .. | .slice .. | .field .. | .index .. => 1
  | .convert _ d _ => match P.underlying d with
    | some (.int _) | some .string => 1
    | some (.slice _) => 2
    | _ => 3
  | .alloc .. | .box .. | .buildSlice .. | .store .. | .makeSlice .. => 2
  | .call c => match c.callee with
    | .value _ => 2
    | .builtin b => match b with
      | .len | .cap | .max | .min => 1
      | .append | .copy | .clear => 2
      | _ => 3
    | _ => 3
  | _ => 3
structure PE where
  i : Nat
  pa : PF
  o : Oper
  v : Value
  desc : List Nat
def waitsOn (o : Oper) (l : List Nat) : Bool := o.after.toList.any fun e => Region.binds .any e && l.contains e.on
def addE (o : Oper) (i : Nat) (p : PE) : PE := match waitsOn o (p.i :: p.desc) with
  | true => { p with desc := i :: p.desc }
  | false => p
def addD (o : Oper) (i : Nat) : List PE → List PE
  | [] => []
  | p :: r => addE o i p :: addD o i r
def rchk (P : Program) (o : Oper) (w : World) (K : Prop) : List PE → Prop
  | [] => K
  | p :: r => match waitsOn o (p.i :: p.desc) with
    | true => rchk P o w K r
    | false => opX P p.pa.t p.o w (fun v' _ => v' = p.v) ∧ rchk P o w K r
def runD (P : Program) (i : Nat) (o : Oper) (pend : List PE) (pa : PF) (w : World) (N : List PE → PF → World → Prop) : Prop := match kO P o with
  | 0 => opX P pa.t o w fun v w' => N (addD o i pend) (pa.put o.dst v) w'
  | 1 => opX P pa.t o w fun v w' => N (⟨i, pa, o, v, []⟩ :: addD o i pend) (pa.put o.dst v) w'
  | 2 => opX P pa.t o w fun v w' => rchk P o w' (N (addD o i pend) (pa.put o.dst v) w') pend
  | _ => False
def stepD (P : Program) (all : Array Oper) (i : Nat) (pend : List PE) (pa : PF) (w : World) (N : List PE → PF → World → Prop) : Prop := match all.toList[i]? with
  | none => False
  | some o => match o.guard with
    | none => runD P i o pend pa w N
    | some (j, want) => match (all.toList[j]?).bind (·.dst) with
      | none => False
      | some d => match getL pa.t d with
        | some (.bool b) => match want with
          | true => cnd b (runD P i o pend { pa with t := .v d (.bool true) :: pa.t } w N) (N (addD o i pend) (PF.put { pa with t := .v d (.bool false) :: pa.t } o.dst undef) w)
          | false => cnd b (N (addD o i pend) (PF.put { pa with t := .v d (.bool true) :: pa.t } o.dst undef) w) (runD P i o pend { pa with t := .v d (.bool false) :: pa.t } w N)
        | some (.tuple _) => N (addD o i pend) (pa.put o.dst undef) w
        | _ => False
def opsD (P : Program) (all : Array Oper) (K : PF → World → Prop) : List Nat → List PE → PF → World → Prop
  | [], _, pa, w => K pa w
  | i :: rest, pend, pa, w => stepD P all i pend pa w fun pend pa w => opsD P all K rest pend pa w
def rowB (P : Program) (ops : Array Oper) : List Nat → Bool
  | [] => true
  | i :: rest => match ops.toList[i]? with
    | none => false
    | some o => (!rest.contains i && o.after.toList.all (fun e => !Region.binds .any e || (Nat.blt e.on ops.size && !(i :: rest).contains e.on))) &&
      (match kO P o with
        | 0 | 1 => rest.all fun k => match ops.toList[k]? with
          | some q => waitsOn q [i] || o.apart ops q
          | none => false
        | 2 => rest.all fun k => match ops.toList[k]? with
          | some q => waitsOn q (i :: rest)
          | none => false
        | _ => false) && rowB P ops rest
def canB (P : Program) (ops : Array Oper) (ord : List Nat) : Bool := Nat.beq ord.length ops.size && ((List.range ops.size).all ord.contains && rowB P ops ord)
/-! acts beside one another: the order forks -/
def waitB (ops : Array Oper) (rest : List Nat) (i : Nat) : Bool := match ops.toList[i]? with
  | some o => waitsOn o rest
  | none => true
def kAt (P : Program) (ops : Array Oper) (i : Nat) : Nat := match ops.toList[i]? with
  | some o => kO P o
  | none => 3
def findF (f : Nat → Bool) : List Nat → Option Nat
  | [] => none
  | i :: r => match f i with
    | true => some i
    | false => findF f r
def filF (f : Nat → Bool) : List Nat → List Nat
  | [] => []
  | i :: r => match f i with
    | true => i :: filF f r
    | false => filF f r
/-- what comes next: a read that is ready; else each act that is -/
def pickF (P : Program) (ops : Array Oper) (rest : List Nat) : List Nat := match findF (fun i => !waitB ops rest i && Nat.ble (kAt P ops i) 1) rest with
  | some i => [i]
  | none => filF (fun i => !waitB ops rest i) rest
def lessF (rest : List Nat) (i : Nat) : List Nat := filF (fun k => !Nat.beq k i) rest
def allF (f : Nat → Prop) : List Nat → Prop
  | [] => False
  | i :: r => match r with
    | [] => f i
    | _ :: _ => f i ∧ allF f r
def opsF (P : Program) (all : Array Oper) (K : PF → World → Prop) : Nat → List Nat → List PE → PF → World → Prop
  | n, rest, pend, pa, w => match rest with
    | [] => K pa w
    | _ :: _ => match n with
      | 0 => False
      | n + 1 => allF (fun j => stepD P all j pend pa w fun pend pa w => opsF P all K n (lessF rest j) pend pa w) (pickF P all rest)
def forkB (P : Program) (ops : Array Oper) : Bool := (List.range ops.size).all fun i => match ops.toList[i]? with
  | none => false
  | some o => Nat.ble (kO P o) 2 && (o.after.toList.all (fun e => !Region.binds .any e || Nat.blt e.on i) &&
    (!Nat.ble (kO P o) 1 || (List.range ops.size).all fun k => Nat.beq k i || match ops.toList[k]? with
      | none => false
      | some q => waitsOn q [i] || (waitsOn o [k] || o.apart ops q)))
/-- the order that is given for a region -/
def ordSpec (l : List Nat) : LoopSpec where
  S := Unit
  emb := fun _ => []
  ext := fun _ => none
  slots := []
  fits := fun _ => rfl
  ok := fun _ _ h => by cases h
  ord := l
/-! ### Code -/
def assigned : Code → List Nat
  | .region _ ops _ => ops.toList.filterMap (·.dst) ++ ops.toList.filterMap fun o => o.guard.bind fun g => (ops.toList[g.1]?).bind (·.dst)
  | .seq a b | .cond _ a b => assigned a ++ assigned b
  | .block _ b | .loop b | .scope b => assigned b
  | _ => []
def hasRF : Code → Bool
  | .seq a b | .cond _ a b => hasRF a || hasRF b
  | .block _ b | .loop b | .scope b => hasRF b
  | .rangeFunc _ _ _ _ => true
  | _ => false
def clearL (is : List Nat) (t : List En) : List En := .m is :: t
def overL (xs : List (Nat × Value)) (t : List En) : List En := match xs with
  | [] => t
  | (i, v) :: r => .v i v :: overL r t
abbrev Kt := Exit → PF → World → Prop
def andThen (next : PF → World → Prop) (K : Kt) : Kt := fun e pa w => match e with
  | .normal => next pa w
  | e => K e pa w
def inBlk (id : Nat) (K : Kt) : Kt := fun e pa w => match e with
  | .exit id' => if id' = id then K .normal pa w else K (.exit id') pa w
  | e => K e pa w
def loopX (L : LoopSpec) (rf : Bool) (asg : List Nat) (body : PF → World → Kt → Prop) (pa : PF) (w : World) (K : Kt) : Prop := if (L.slots.all asg.contains) = false then False else match L.ext pa.t with
  | none => False
  | some s0 => match rf with
    | false => LoopT (fun s w A => body { pa with t := overL (L.emb s) (clearL asg pa.t) } w fun e pa' w' => match e with
        | .normal => match L.ext pa'.t with
          | some s' => A s' w'
          | none => False
        | e => K e pa' w') s0 w
    | true => LoopT (fun (s : L.S × List Deferred) w A => body { n := pa.n, t := overL (L.emb s.1) (clearL asg pa.t), ds := s.2 } w fun e pa' w' => match e with
        | .normal => match L.ext pa'.t with
          | some s' => A (s', pa'.ds) w'
          | none => False
        | e => K e pa' w') (s0, pa.ds) w
/-- ways that meet again: what comes behind them, J, is told once -/
def JoinT {S : Type} (B : (S → World → Prop) → Prop) (J : S → World → Prop) : Prop := B J
def joinX (L : LoopSpec) (rf : Bool) (asg : List Nat) (pa : PF) (X : (PF → World → Prop) → Prop) (Y : PF → World → Prop) : Prop := if (L.slots.all asg.contains) = false then False else match rf with
  | false => JoinT (fun (J : L.S → World → Prop) => X fun pa' w' => match L.ext pa'.t with
      | some s => J s w'
      | none => False) fun s w => Y { pa with t := overL (L.emb s) (clearL asg pa.t) } w
  | true => JoinT (fun (J : L.S × List Deferred → World → Prop) => X fun pa' w' => match L.ext pa'.t with
      | some s => J (s, pa'.ds) w'
      | none => False) fun s w => Y { n := pa.n, t := overL (L.emb s.1) (clearL asg pa.t), ds := s.2 } w
def inBlkJ (id : Nat) (J : PF → World → Prop) (K : Kt) : Kt := fun e pa w => match e with
  | .normal => J pa w
  | .exit id' => if id' = id then J pa w else K (.exit id') pa w
  | e => K e pa w
def parX (n : Nat) (ps : List Tmp) (vs : List Value) (t : List En) : List En := match ps, vs with
  | p :: ps, v :: vs => parX n ps vs (setB n t p v)
  | _, _ => t
/-- a loop's record in a state -/
def recAt (w : World) (l : Nat) (r : Loop) (st : LoopState) (j : Option Code) : Prop := w.heap[l]? = some (.loop { r with state := st, pending := j })
def jumpOf : Exit → Option (Option Code)
  | .normal => some none
  | .ret => some (some .ret)
  | .exit id => some (some (.exit id))
  | _ => none
/-- how a loop over a function is entered: the record r lies at l in w1 -/
def Entered (ro : Option Nat) (w : World) (r : Loop) (l : Nat) (w1 : World) (mark : List Deferred) : Prop := match ro with
  | none => l = w.heap.size + 1 ∧ w1 = (w.alloc (.deferred (some []))).alloc (.loop { r with state := .ready, pending := none }) ∧ mark = [{ target := .collected w.heap.size, args := #[] }]
  | some _ => l = w.heap.size ∧ w1 = w.alloc (.loop { r with state := .ready, pending := none }) ∧ mark = []
/-- the record turned -/
def setR (w : World) (l : Nat) (r : Loop) (st : LoopState) (j : Option Code) (K : World → Prop) : Prop := K (w.putObj l (.loop { r with state := st, pending := j }))
/-- the values that a round is handed -/
def b0 (vs : List Value) (K : Prop) : Prop := match vs with | [] => K | _ => False
def b1 (vs : List Value) (K : Value → Prop) : Prop := match vs with | [v] => K v | _ => False
def b2 (vs : List Value) (K : Value → Value → Prop) : Prop := match vs with | [v, u] => K v u | _ => False
/-- the type of what the assignment takes of a round's value -/
def takes (p : Tmp) (o : Oper) : Option TypeId := match o.op with
  | .assign x => if (match x with | .tmp t => t == p | _ => false) then some o.type else none
  | .move x => if (match x with | .tmp t => t == p | _ => false) then some o.type else none
  | .store t _ x => if (match x with | .tmp t' => t' == p | _ => false) then some t else none
  | .box t x => if (match x with | .tmp t' => t' == p | _ => false) then some t else none
  | _ => none
def firstSome (p : Tmp) : List Oper → Option TypeId
  | [] => none
  | o :: r => match takes p o with
    | some t => some t
    | none => firstSome p r
def parTy (p : Tmp) : Code → Option TypeId
  | .region _ ops _ => firstSome p ops.toList
  | .seq a b => match parTy p a with
    | some t => some t
    | none => parTy p b
  | _ => none
def typed (P : Program) (t : Option TypeId) (v : Value) (K : Value → Prop) : Prop := match t with
  | some t => isT P t v K
  | none => K v
/-- A RANGE OVER A FUNCTION: B l r vs: a round, of the values vs; K: what comes behind. -/
def callFn (P : Program) (f : Value) (vs : List Value) (w : World) (Q : Value → World → Prop) : Prop := match f with
  | .func fn first cap => match fn with
    | .func g => match enters P g with
      | true => CV P g (first.toList ++ vs ++ cap.toList) w Q
      | false => False
    | _ => False
  | _ => False
def inLoop (ro : Option Nat) (w : World) (K : Prop) : Prop := match ro with
  | none => K
  | some l0 => (∃ r0, w.heap[l0]? = some (.loop r0)) ∧ K
def RF (P : Program) (ro : Option Nat) (np : Nat) (g : Value) (w : World) (B : Nat → Loop → List Value → World → (Value → World → Prop) → Prop) (K : List Deferred → Option Code → World → Prop) : Prop :=
  inLoop ro w <| ∀ r l w1 mark, Entered ro w r l w1 mark →
    (∀ vs w' Q, vs.length = np → recAt w' l r .ready none → B l r vs w' Q → YV P l vs w' Q) →
    callFn P g [.func (.yield l) #[] #[]] w1 fun _ w2 => ∃ st j, recAt w2 l r st j ∧ st ≠ .busy ∧ setR w2 l r .exhausted j fun w3 => K mark j w3
def roundX (assign body : PF → World → Kt → Prop) (l : Nat) (r : Loop) (pa : PF) (w : World) (Q : Value → World → Prop) : Prop :=
  assign pa w fun e pa1 w1 => match e with
    | .normal => recAt w1 l r .ready none ∧ setR w1 l r .busy none fun w2 => body pa1 w2 fun e _ w3 => match jumpOf e with
      | some none => recAt w3 l r .busy none ∧ setR w3 l r .ready none fun w4 => Q (.bool true) w4
      | some (some c) => recAt w3 l r .busy none ∧ setR w3 l r .done (some c) fun w4 => Q (.bool false) w4
      | none => False
    | _ => False
def parsX (P : Program) (n : Nat) (ps : List Tmp) (assign : Code) (vs : List Value) (t : List En) (K : List En → Prop) : Prop := match ps with
  | [] => b0 vs (K t)
  | [p] => b1 vs fun v => typed P (parTy p assign) v fun v => K (setB n t p v)
  | [p, q] => b2 vs fun v u => typed P (parTy p assign) v fun v => typed P (parTy q assign) u fun u => K (setB n (setB n t p v) q u)
  | _ => False
/-- the exits of a piece of code that lead out of it -/
def exitsOf : Code → List Nat
  | .exit id => [id]
  | .seq a b | .cond _ a b => exitsOf a ++ exitsOf b
  | .block id b => (exitsOf b).filter (· != id)
  | .loop b | .scope b => exitsOf b
  | .rangeFunc _ _ a b => exitsOf a ++ exitsOf b
  | _ => []
def uniq : List Nat → List Nat
  | [] => []
  | i :: r => if r.contains i then uniq r else i :: uniq r
def xsX (ids : List Nat) (id : Nat) (K : Nat → Prop) : Prop := match ids with
  | [] => False
  | i :: r => (id = i → K i) ∧ (id ≠ i → xsX r id K)
def jmpX (j : Option Code) (n r : Prop) (x : Nat → Prop) : Prop := match j with
  | none => n
  | some .ret => r
  | some (.exit id) => x id
  | some _ => False
def ex (P : Program) (ann : Nat → Option LoopSpec) : Code → (ro : Option Nat) → (path : Nat) → PF → World → Kt → Prop
  | .skip, _, _, pa, w, K => K .normal pa w
  | .label _, _, _, pa, w, K => K .normal pa w
  | .seq x y, ro, p, pa, w, K => match ann p with
    | none => ex P ann x ro (2 * p) pa w (andThen (fun pa w => ex P ann y ro (2 * p + 1) pa w K) K)
    | some L => joinX L (hasRF x) (assigned x) pa (fun J => ex P ann x ro (2 * p) pa w (andThen J K)) (fun pa w => ex P ann y ro (2 * p + 1) pa w K)
  | .cond c x y, ro, p, pa, w, K => match ev pa.t c with
    | some (.bool b) => cnd b (ex P ann x ro (2 * p) pa w K) (ex P ann y ro (2 * p + 1) pa w K)
    | _ => False
  | .block id b, ro, p, pa, w, K => match ann p with
    | none => ex P ann b ro (2 * p) pa w (inBlk id K)
    | some L => joinX L (hasRF b) (assigned b) pa (fun J => ex P ann b ro (2 * p) pa w (inBlkJ id J K)) (fun pa w => K .normal pa w)
  | .exit id, _, _, pa, w, K => K (.exit id) pa w
  | .ret, _, _, pa, w, K => K .ret pa w
  | .region _ ops draw, _, p, pa, w, K => match draw with
    | false => opsX P ops ops.toList pa w fun pa w => K .normal pa w
    | true => match ann p with
      | some L => drawX P ops L.ord pa w fun pa w => K .normal pa w
      | none => False
  | .loop b, ro, p, pa, w, K => match ann p with
    | some L => loopX L (hasRF b) (assigned b) (fun pa w K => ex P ann b ro (2 * p) pa w K) pa w K
    | none => False
  | .rangeFunc f ps assign body, ro, p, pa, w, K => evK pa.t f fun g => RF P ro ps.size g w
      (fun l r vs w Q => parsX P pa.n ps.toList assign vs pa.t fun t => roundX (fun pa w K => ex P ann assign (some l) (2 * p) pa w K) (fun pa w K => ex P ann body (some l) (2 * p + 1) pa w K) l r { n := pa.n, t := t, ds := [] } w Q)
      (fun mark j w => jmpX j (K .normal { pa with ds := mark ++ pa.ds } w) (K .ret { pa with ds := mark ++ pa.ds } w) (fun id => xsX (uniq (exitsOf body)) id fun i => K (.exit i) { pa with ds := mark ++ pa.ds } w))
  | _, _, _, _, _, _ => False
where
  drawX (P : Program) (ops : Array Oper) (ord : List Nat) (pa : PF) (w : World) (K : PF → World → Prop) : Prop := match canB P ops ord with
    | true => drw w fun w => opsD P ops K ord [] pa w
    | false => match forkB P ops with
      | true => drw w fun w => opsF P ops K ops.size (List.range ops.size) [] pa w
      | false => False

/-! ### A function -/
def takeX : List Deferred → World → (World → Prop) → Prop
  | [], w, K => K w
  | d :: ds, w, K => match d.target with
    | .collected r => w.heap[r]? = some (.deferred (some [])) ∧ takeX ds (w.putObj r (.deferred none)) K
    | _ => False
def resX (P : Program) (t : List En) (w : World) : List ResultVar → (List Value → Prop) → Prop
  | [], K => K []
  | .tmp i :: r, K => match getL t i with
    | some v => resX P t w r fun vs => K (v :: vs)
    | none => False
  | .cell i ty :: r, K => match getL t i with
    | some (.pointer p) => nn p fun a => ldT P ty a w fun v => resX P t w r fun vs => K (v :: vs)
    | _ => False
def retX (P : Program) (rs : List ResultVar) (Q : Value → World → Prop) : Kt := fun e pa w => match e with
  | .normal | .ret => takeX pa.ds w fun w => resX P pa.t w rs fun vs => match vs with
    | [v] => Q v w
    | vs => Q (.tuple vs.toArray) w
  | _ => False
def args0 : Nat → List Value → List En
  | _, [] => []
  | i, v :: r => .v i v :: args0 (i + 1) r
def frame0 (n : Nat) (vs : List Value) : PF := { n := vs.length + (n - vs.length), t := args0 0 vs, ds := [] }
def fnX (P : Program) (ann : Nat → Option LoopSpec) (fn : Func) (vs : List Value) (w : World) (Q : Value → World → Prop) : Prop := match fn.body with
  | some c => ex P ann c none 1 (frame0 fn.ntmps vs) w (retX P fn.results.toList Q)
  | none => False
end Go.Proofs.YtbnadobjnmboiaaDoor.X
