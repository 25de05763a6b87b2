/-
  The walks and the laws beneath the statement: part 1.
-/
import Derived.RangeFuncLeaves
import Derived.RangeFuncIn
import Derived.RangeFuncCalls
import Derived.RangeFuncRecord
import Derived.CallsIn
import Derived.OrdersIn
import Derived.KernelRfl
import Derived.WalkKit
import Derived.Laws.Cells
import Derived.Laws.Small
import Derived.Laws.Build
import Derived.Laws.Externs
import Derived.Still
set_option maxRecDepth 100000
set_option linter.unusedVariables false
set_option linter.unusedSimpArgs false
set_option maxHeartbeats 4000000
namespace Go.Proofs.YtidcijbnbdemeaaGreat.X
open Go
inductive En where
 | v (i:Nat) (x:Value)
 | m (is:List Nat)
def getL:List En→Nat→Option Value
 | [],_=>none
 | .v j x :: r,i=>cond (Nat.beq j i) (some x) (getL r i)
 | .m is :: r,i=>cond (is.contains i) none (getL r i)
structure PF where
 n:Nat
 t:List En
 ds:List Deferred
def setB (n:Nat) (t:List En) (d:Nat) (v:Value):List En:=cond (Nat.blt d n) (.v d v :: t) t
def PF.put (pa:PF) (d:Option Tmp) (v:Value):PF:=match d with
 | some d=>{ pa with t:=setB pa.n pa.t d v }
 | none=>pa
def PF.le (pa:PF) (a:Act):Prop:=pa.ds = a.defers∧pa.n = a.tmps.size∧∀ (i:Nat) (v:Value),getL pa.t i = some v→a.tmps[i]? = some v
def ev (t:List En):Operand→Option Value
 | .tmp i=>getL t i
 | .const v=>some v
 | .global g=>some (.pointer (some ⟨g,0,none⟩))
 | .func f=>some (.func (.func f) #[] #[])
def evK (t:List En) (x:Operand) (K:Value→Prop):Prop:=match ev t x with
 | some v=>K v
 | none=>False
def evs (t:List En):List Operand→Option (List Value)
 | []=>some []
 | x :: r=>match ev t x,evs t r with
  | some v,some vs=>some (v :: vs)
  | _,_=>none
def evsK (t:List En) (xs:List Operand) (K:List Value→Prop):Prop:=match evs t xs with
 | some vs=>K vs
 | none=>False
inductive Kd where
 | int (k:IntKind) | bool | str | ptr | slice | other
def kdOf (P:Program) (t:TypeId):Kd:=match P.underlying t with
 | some (.int k)=>.int k
 | some .bool=>.bool
 | some .string=>.str
 | some (.pointer _)=>.ptr
 | some (.slice _)=>.slice
 | _=>.other
def flat (P:Program):Nat→TypeId→List Kd
 | 0,_=>[]
 | d + 1,t=>match P.underlying t with
  | some (.struct fs)=>fs.toList.flatMap fun f=>flat P d f.type
  | some (.array n e)=>(List.replicate n (flat P d e)).flatten
  | _=>[kdOf P t]
def isAggB (P:Program) (t:TypeId):Bool:=match P.underlying t with
 | some (.struct _) | some (.array _ _)=>true
 | _=>false
def sizeT (P:Program) (t:TypeId):Nat:=P.cellsOf t
def CV (P:Program) (f:FuncId) (args:List Value) (w:World) (Q:Value→World→Prop):Prop :=
 CallsIn Fence.wide 0 P f args.toArray w fun e w'=>∃ v,e = .returned v∧Q v w'
def YV (P:Program) (l:Nat) (args:List Value) (w:World) (Q:Value→World→Prop):Prop :=
 ∃ r,w.heap[l]? = some (.loop r)∧args.toArray.size = r.params.size ∧
  RoundIn Fence.wide 0 P l r.fn ((r.params.zip args.toArray).foldl (fun tmps (t,a)=>tmps.setIfInBounds t a) r.tmps) r.assign r.body w fun e w'=>∃ v,e = .returned v∧Q v w'
def cnd (b:Bool) (x y:Prop):Prop:=match b with | true=>x | false=>y
def ldI (k:IntKind) (a:Addr) (w:World) (K:Int→Prop):Prop:=∃ n,w.cell? a = some (.int k n)∧K n
def ldB (a:Addr) (w:World) (K:Bool→Prop):Prop:=∃ n,w.cell? a = some (.bool n)∧K n
def ldS (a:Addr) (w:World) (K:ByteArray→Prop):Prop:=∃ n,w.cell? a = some (.string n)∧K n
def ldP (a:Addr) (w:World) (K:Option Addr→Prop):Prop:=∃ n,w.cell? a = some (.pointer n)∧K n
def ldL (a:Addr) (w:World) (K:Option Addr→Nat→Nat→Prop):Prop:=∃ p n c,w.cell? a = some (.slice p n c)∧K p n c
def ldV (a:Addr) (w:World) (K:Value→Prop):Prop:=∃ v,w.cell? a = some v∧K v
def ld1 (kd:Kd) (a:Addr) (w:World) (K:Value→Prop):Prop:=match kd with
 | .int k=>ldI k a w fun n=>K (.int k n)
 | .bool=>ldB a w fun n=>K (.bool n)
 | .str=>ldS a w fun n=>K (.string n)
 | .ptr=>ldP a w fun n=>K (.pointer n)
 | .slice=>ldL a w fun p n c=>K (.slice p n c)
 | .other=>ldV a w K
def ldN (kds:List Kd) (a:Addr) (i:Nat) (w:World) (K:List Value→Prop):Prop:=match kds with
 | []=>K []
 | kd :: r=>ld1 kd (a.add i) w fun v=>ldN r a (i + 1) w fun vs=>K (v :: vs)
def alc (cs:List Value) (t:TypeId) (w:World) (K:Nat→World→Prop):Prop:=K w.heap.size (w.alloc (.cells cs.toArray t))
def one (v:Value):Prop:=match v with | .agg _ | .tuple _=>False | _=>True
def st1 (v:Value) (a:Addr) (w:World) (K:World→Prop):Prop:=(∃ old,w.cell? a = some old)∧w.frozen? a = false∧K (w.setCell a v)
def stN (vs:List Value) (a:Addr) (i:Nat) (w:World) (K:World→Prop):Prop:=match vs with
 | []=>K w
 | v :: r=>match v with
  | .agg _ | .tuple _=>False
  | v=>st1 v (a.add i) w fun w1=>stN r a (i + 1) w1 K
def cellsL:Value→List Value
 | .agg cs=>cs.toList
 | v=>[v]
def nn (p:Option Addr) (K:Addr→Prop):Prop:=match p with | some a=>K a | none=>False
def nz (n:Int) (K:Prop):Prop:=n≠0∧K
def ix (i:Int) (n:Nat) (K:Nat→Prop):Prop:=(0≤i∧i < n)∧K i.toNat
def runV (P:Program) (s:Sem Value) (w:World) (K:Value→World→Prop):Prop:=∃ v w',s.run P w = .ok v w'∧K v w'
def runS (P:Program) (s:Sem Value) (w:World) (K:Option Addr→Nat→Nat→World→Prop):Prop:=∃ p n c w',s.run P w = .ok (.slice p n c) w'∧K p n c w'
def runB (P:Program) (s:Sem Value) (w:World) (K:Bool→Prop):Prop:=∃ b,s.run P w = .ok (.bool b) w∧K b
def runT (P:Program) (s:Sem Value) (w:World) (K:ByteArray→Prop):Prop:=∃ b,s.run P w = .ok (.string b) w∧K b
def runI (P:Program) (s:Sem Value) (w:World) (K:Int→World→Prop):Prop:=∃ n w',s.run P w = .ok (.int .i64 n) w'∧K n w'
def bare (w:World) (b:Nat):Prop:=∃ cs t,w.heap[b]? = some (.cells cs t (0,0))
def eqP (a b:Addr) (w:World) (K:Bool→Prop):Prop:=(a.block = b.block∨(bare w a.block∧bare w b.block))∧K (a == b)
def LoopT {S:Type} (step:S→World→(S→World→Prop)→Prop) (s0:S) (w0:World):Prop :=
 ∃ (I:S→World→Prop) (μ:S→World→Nat),I s0 w0∧∀ s w,I s w→step s w fun s' w'=>I s' w'∧μ s' w' < μ s w
structure LSp where
 S:Type
 emb:S→List (Nat×Value)
 ext:List En→Option S
 slots:List Nat
 fits:∀ s,(emb s).map (·.1) = slots
 ok:∀ t s,ext t = some s→∀ x∈emb s,getL t x.1 = some x.2
 ord:List Nat:=[]
def exK (kds:List Kd) (K:List Value→Prop):Prop:=match kds with
 | []=>K []
 | kd :: r=>match kd with
  | .int k=>∃ n:Int,exK r fun vs=>K (.int k n :: vs)
  | .bool=>∃ n:Bool,exK r fun vs=>K (.bool n :: vs)
  | .str=>∃ n:ByteArray,exK r fun vs=>K (.string n :: vs)
  | .ptr=>∃ n:Option Addr,exK r fun vs=>K (.pointer n :: vs)
  | .slice=>∃ (p:Option Addr) (n c:Nat),exK r fun vs=>K (.slice p n c :: vs)
  | .other=>∃ v:Value,exK r fun vs=>K (v :: vs)
def exT (P:Program) (t:TypeId) (K:Value→Prop):Prop:=match isAggB P t with
 | true=>exK (flat P 9 t) fun vs=>K (.agg vs.toArray)
 | false=>match kdOf P t with
  | .int k=>∃ n:Int,K (.int k n)
  | .bool=>∃ n:Bool,K (.bool n)
  | .str=>∃ n:ByteArray,K (.string n)
  | .ptr=>∃ n:Option Addr,K (.pointer n)
  | .slice=>∃ (p:Option Addr) (n c:Nat),K (.slice p n c)
  | .other=>∃ v:Value,K v
def exTs (P:Program) (ts:List TypeId) (K:List Value→Prop):Prop:=match ts with
 | []=>K []
 | t :: r=>exT P t fun v=>exTs P r fun vs=>K (v :: vs)
def isT (P:Program) (t:TypeId) (v:Value) (K:Value→Prop):Prop:=match P.underlying t with
 | some (.tuple ts)=>exTs P ts.toList fun vs=>v = .tuple vs.toArray∧K (.tuple vs.toArray)
 | _=>exT P t fun v'=>v = v'∧K v'
def zeroC (P:Program) (t:TypeId):Option (List Value):=match P.info? t with
 | some i=>i.zero.map cellsL
 | none=>none
def setAll (off:Nat):List Value→List Value→List Value
 | [],cs=>cs
 | v :: r,cs=>setAll (off + 1) r (cs.set off v)
def fillX (place:Nat→Option (Nat×Nat)) (cells:List Value):List (Nat×Value)→Option (List Value)
 | []=>some cells
 | (i,v) :: rest=>match place i with
  | none=>none
  | some (off,size)=>if (cellsL v).length≠size || off + (cellsL v).length > cells.length then none else fillX place (setAll off (cellsL v) cells) rest
def buildX (P:Program) (t:TypeId) (parts:List (Nat×Value)):Option (List Value):=match zeroC P t with
 | none=>none
 | some z=>match P.underlying t with
  | some (.struct fs)=>if fs.toList.all (fun f=>(P.info? f.type).isSome) then fillX (fun i=>(fs.toList[i]?).map fun f=>(f.offset,sizeT P f.type)) z parts else none
  | some (.array _ e)=>if (P.info? e).isSome then fillX (fun i=>some (i * sizeT P e,sizeT P e)) z parts else none
  | _=>none
def zerosL (z:List Value) (n:Nat):List Value:=(List.range n).map fun i=>z.getD (i % z.length) undef
def buildSX (P:Program) (e:TypeId) (len:Nat) (parts:List (Nat×Value)):Option (List Value) :=
 if len * sizeT P e = 0 then (if (P.info? e).isNone then none else match parts with
  | []=>some []
  | _ :: _=>none) else if (P.info? e).isNone || len * sizeT P e > 2 ^ 24 || len * sizeT P e = 0 then none else match zeroC P e with
 | none=>none
 | some z=>if z.length≠sizeT P e then none else fillX (fun i=>some (i * sizeT P e,sizeT P e)) (zerosL z (len * sizeT P e)) parts
def nthL:List Value→Nat→Option Value
 | [],_=>none
 | x :: _,0=>some x
 | _ :: r,n + 1=>nthL r n
def ldT (P:Program) (t:TypeId) (a:Addr) (w:World) (K:Value→Prop):Prop:=if (P.underlying t).isNone then False else match isAggB P t with
 | true=>if (flat P 9 t).length = sizeT P t then ldN (flat P 9 t) a 0 w fun vs=>K (.agg vs.toArray) else False
 | false=>ld1 (kdOf P t) a w K
def oneK (v:Value) (K:Prop):Prop:=match v with | .agg _ | .tuple _=>False | _=>K
def stT (P:Program) (t:TypeId) (v:Value) (a:Addr) (w:World) (K:World→Prop):Prop:=match isAggB P t with
 | true=>match v with
  | .agg cs=>if cs.toList.length = sizeT P t then stN cs.toList a 0 w K else False
  | _=>False
 | false=>if sizeT P t = 1 then oneK v (st1 v a w K) else False
def nchk (v:Value) (K:Value→Prop):Prop:=match v with
 | .pointer p=>nn p fun a=>K (.pointer (some a))
 | .func fn f c=>match fn with
  | .method _=>False
  | _=>K (.func fn f c)
 | .nilFunc | .nilIface=>False
 | v=>K v
def bitX (op:BinOp) (k:IntKind) (x y:Int):Int:=match op with
 | .and=>k.wrap (BitVec.ofInt k.bits x &&& BitVec.ofInt k.bits y).toNat
 | .or=>k.wrap (BitVec.ofInt k.bits x ||| BitVec.ofInt k.bits y).toNat
 | .xor=>k.wrap (BitVec.ofInt k.bits x ^^^ BitVec.ofInt k.bits y).toNat
 | _=>k.wrap (BitVec.ofInt k.bits x &&& ~~~ BitVec.ofInt k.bits y).toNat
def nng (n:Int) (K:Prop):Prop:=0≤n∧K
def intX (op:BinOp) (k:IntKind) (a b:Int) (K:Value→Prop):Prop:=match op with
 | .add=>K (.int k (k.wrap (a + b)))
 | .sub=>K (.int k (k.wrap (a - b)))
 | .mul=>K (.int k (k.wrap (a * b)))
 | .quo=>nz b (K (.int k (k.wrap (a.tdiv b))))
 | .rem=>nz b (K (.int k (a.tmod b)))
 | .and=>K (.int k (bitX .and k a b))
 | .or=>K (.int k (bitX .or k a b))
 | .xor=>K (.int k (bitX .xor k a b))
 | .andNot=>K (.int k (bitX .andNot k a b))
 | .shl=>nng b (K (.int k (k.wrap (a * 2 ^ min b.toNat k.bits))))
 | .shr=>nng b (K (.int k (a.fdiv (2 ^ min b.toNat k.bits))))
 | .eql=>K (.bool (a == b))
 | .neq=>K (.bool (a != b))
 | .lss=>K (.bool (decide (a < b)))
 | .leq=>K (.bool (decide (a≤b)))
 | .gtr=>K (.bool (decide (a > b)))
 | .geq=>K (.bool (decide (a≥b)))
def isShift (op:BinOp):Bool:=match op with | .shl | .shr=>true | _=>false
def strX (op:BinOp) (a b:ByteArray) (K:Value→Prop):Prop:=match op with
 | .add=>((a.size + b.size:Nat):Int)≤IntKind.i64.max∧K (.string (a ++ b))
 | .eql=>K (.bool (a.toList == b.toList))
 | .neq=>K (.bool !(a.toList == b.toList))
 | .lss=>K (.bool (Op.bytesLess a.toList b.toList))
 | _=>False
def eqA (P:Program) (op:BinOp) (t:TypeId) (x y:Value) (w:World) (K:Bool→Prop):Prop :=
 (eqGuard op t (.tmp 0) (.tmp 0) x y).run P w = .ok () w∧runB P (Go.binOp op t x y) w K
def binX (P:Program) (op:BinOp) (t:TypeId) (x y:Value) (w:World) (K:Value→Prop):Prop:=match kdOf P t with
 | .int _=>match x,y with
  | .int k a,.int k' b=>if isShift op || k = k' then intX op k a b K else False
  | _,_=>False
 | .str=>match x,y with
  | .string a,.string b=>strX op a b K
  | _,_=>False
 | .bool=>match x,y with
  | .bool a,.bool b=>match op with
   | .eql=>K (.bool (a == b))
   | .neq=>K (.bool !(a == b))
   | _=>False
  | _,_=>False
 | .ptr=>match x,y with
  | .pointer p,.pointer q=>match op with
   | .eql=>match q with
    | none=>K (.bool p.isNone)
    | some qa=>match p with
     | none=>False
     | some pa=>if sizeT P (match P.underlying t with | some (.pointer e)=>e | _=>0) = 0 then False else eqP pa qa w fun b=>K (.bool b)
   | .neq=>match q with
    | none=>K (.bool !p.isNone)
    | some qa=>match p with
     | none=>False
     | some pa=>if sizeT P (match P.underlying t with | some (.pointer e)=>e | _=>0) = 0 then False else eqP pa qa w fun b=>K (.bool !b)
   | _=>False
  | _,_=>False
 | .slice=>match x,y with
  | .slice p _ _,.slice q _ _=>match q with
   | none=>match op with
    | .eql=>K (.bool p.isNone)
    | .neq=>K (.bool !p.isNone)
    | _=>False
   | some _=>False
  | _,_=>False
 | .other=>match op with
  | .eql=>eqA P .eql t x y w fun b=>K (.bool b)
  | .neq=>eqA P .neq t x y w fun b=>K (.bool b)
  | _=>False
def unX (op:UnOp) (x:Value) (K:Value→Prop):Prop:=match op,x with
 | .not,.bool b=>K (.bool !b)
 | .neg,.int k n=>K (.int k (k.wrap (0 - n)))
 | .xor,.int k n=>K (.int k (bitX .xor k (if k.signed then -1 else k.max) n))
 | _,_=>False
def cvX (P:Program) (s d:TypeId) (x:Value) (w:World) (K:Value→World→Prop):Prop:=match P.underlying d with
 | some (.int k)=>match P.underlying s with
  | some _=>match x with
   | .int _ n=>K (.int k (k.wrap n)) w
   | _=>False
  | none=>False
 | some .string=>match P.underlying s with
  | some .string=>match x with
   | .string b=>K (.string b) w
   | _=>False
  | some (.slice e)=>match P.underlying e with
   | some (.int .u8)=>match x with
    | .slice p n c=>runT P (Conv.bytesToString (.slice p n c)) w fun b=>K (.string b) w
    | _=>False
   | _=>False
  | _=>False
 | some (.slice _)=>runS P (Go.convert s d x) w fun p n c w'=>K (.slice p n c) w'
 | _=>False
def slB (n c:Nat) (lo hi mx:Option Int) (K:Nat→Nat→Nat→Prop):Prop :=
 (∀ x,mx = some x→0≤x∧x≤c)∧(∀ x,hi = some x→0≤x∧x≤((mx.map Int.toNat).getD c:Nat))∧(∀ x,lo = some x→0≤x∧x≤((hi.map Int.toNat).getD n:Nat)) ∧
  K ((lo.map Int.toNat).getD 0) ((hi.map Int.toNat).getD n) ((mx.map Int.toNat).getD c)
def slL (p:Option Addr) (n c sz:Nat) (lo hi mx:Option Int) (K:Option Addr→Nat→Nat→Prop):Prop :=
 slB n c lo hi mx fun l h m=>K (if m = l then p else p.map (·.add (l * sz))) (h - l) (m - l)
def slS (s:ByteArray) (lo hi:Option Int) (K:ByteArray→Prop):Prop:=slB s.size s.size lo hi none fun l h _=>K (s.extract l h)
def sx (s:ByteArray) (i:Int) (K:Int→Prop):Prop:=0≤i∧∃ b,s[i.toNat]? = some b∧K b.toNat
def evO (t:List En) (x:Option Operand) (K:Option Int→Prop):Prop:=match x with
 | none=>K none
 | some x=>evK t x fun v=>match v with
  | .int _ n=>K (some n)
  | _=>False
def slX (P:Program) (ty:TypeId) (v:Value) (lo hi mx:Option Int) (w:World) (K:Value→World→Prop):Prop:=match P.underlying ty with
 | some (.slice e)=>match v with
  | .slice p n c=>match hi,mx with
   | none,some _=>False
   | _,_=>if (P.info? e).isSome then slL p n c (sizeT P e) lo hi mx fun p n c=>K (.slice p n c) w else False
  | _=>False
 | some .string=>match v,mx with
  | .string s,none=>slS s lo hi fun s=>K (.string s) w
  | _,_=>False
 | some (.array n e)=>match v with
  | .pointer p=>nn p fun a=>match hi,mx with
   | none,some _=>False
   | _,_=>if (P.info? e).isSome then slL (some a) n n (sizeT P e) lo hi mx fun p n c=>K (.slice p n c) w else False
  | _=>False
 | _=>False
def partX (P:Program) (t:TypeId) (cs:List Value) (off:Nat) (K:Value→Prop):Prop:=if (P.underlying t).isNone then False else match isAggB P t with
 | true=>K (.agg ((cs.drop off).take (sizeT P t)).toArray)
 | false=>match nthL cs off with
  | some v=>K v
  | none=>False
def elX (P:Program) (t:TypeId) (cs:List Value) (off:Nat) (K:Value→Prop):Prop:=if (P.underlying t).isNone then False else match isAggB P t with
 | true=>False
 | false=>∃ v,cs[off]? = some v∧isT P t v K
def enters (P:Program) (f:FuncId):Bool:=match P.funcs[f]? with
 | some fn => fn.body.isSome && !(fn.name == "runtime.NumGoroutine")
 | none=>false
def extX (P:Program) (g:FuncId) (vs:List Value) (w:World) (Q:Value→World→Prop):Prop :=
 ∃ fn e v w', P.funcs[g]? = some fn ∧ (fn.name == "runtime.NumGoroutine") = false ∧ fn.body.isNone = true ∧ Extern.findNext fn = none ∧ Extern.find fn = some e ∧ (e vs.toArray).run P w = .ok v w' ∧ Q v w'
def callVal (P:Program) (f:Value) (vs:List Value) (w:World) (Q:Value→World→Prop):Prop:=match f with
 | .func fn first cap=>match fn with
  | .func g=>match enters P g with
   | true=>CV P g (first.toList ++ vs ++ cap.toList) w Q
   | false=>extX P g (first.toList ++ vs ++ cap.toList) w Q
  | .yield l=>YV P l (first.toList ++ vs) w Q
  | _=>False
 | _=>False
def mxI (k:IntKind) (K:Int→Prop):Int→List Value→Prop
 | x,[]=>K x
 | x,.int k' y :: r=>if k = k' then mxI k K (if y > x then y else x) r else False
 | _,_=>False
def mnI (k:IntKind) (K:Int→Prop):Int→List Value→Prop
 | x,[]=>K x
 | x,.int k' y :: r=>if k = k' then mnI k K (if y < x then y else x) r else False
 | _,_=>False
def builtX (P:Program) (b:Builtin) (ats:Array TypeId) (ty:TypeId) (vs:List Value) (w:World) (K:Value→World→Prop):Prop:=match b with
 | .len=>match ats.toList,vs with
  | t :: _,v :: _=>match P.underlying t with
   | some .string=>match v with | .string s=>K (.int .i64 s.size) w | _=>False
   | some (.slice _)=>match v with | .slice _ n _=>K (.int .i64 n) w | _=>False
   | some (.array n _)=>K (.int .i64 n) w
   | _=>False
  | _,_=>False
 | .cap=>match ats.toList,vs with
  | t :: _,v :: _=>match P.underlying t with
   | some (.slice _)=>match v with | .slice _ _ c=>K (.int .i64 c) w | _=>False
   | _=>False
  | _,_=>False
 | .max=>match vs with
  | .int k x :: r=>mxI k (fun n=>K (.int k n) w) x r
  | _=>False
 | .min=>match vs with
  | .int k x :: r=>mnI k (fun n=>K (.int k n) w) x r
  | _=>False
 | .append=>runS P (Builtin.append_ ats ty vs.toArray) w fun p n c w'=>K (.slice p n c) w'
 | .copy=>runI P (Builtin.copy_ ats ty vs.toArray) w fun n w'=>K (.int .i64 n) w'
 | .clear=>runV P (Builtin.clear_ ats ty vs.toArray) w fun v w'=>v = undef∧K undef w'
 | _=>False
def opX (P:Program) (t:List En) (o:Oper) (w:World) (K:Value→World→Prop):Prop:=match o.op with
 | .move x=>evK t x fun v=>K v w
 | .assign x=>evK t x fun v=>K v w
 | .pick c x y=>evK t c fun c=>match c with
  | .bool b=>cnd b (evK t x fun v=>K v w) (evK t y fun v=>K v w)
  | _=>False
 | .alloc e=>match zeroC P e with
  | some cs=>alc cs e w fun b w'=>K (.pointer (some ⟨b,0,none⟩)) w'
  | none=>False
 | .box e x=>evK t x fun v=>match isAggB P e with
  | true=>alc (cellsL v) e w fun b w'=>K (.pointer (some ⟨b,0,none⟩)) w'
  | false=>oneK v (alc [v] e w fun b w'=>K (.pointer (some ⟨b,0,none⟩)) w')
 | .build ty parts=>evsK t (parts.toList.map (·.2)) fun vs=>match buildX P ty ((parts.toList.map (·.1)).zip vs) with
  | some cs=>K (.agg cs.toArray) w
  | none=>False
 | .buildSlice ty len parts=>match P.underlying ty with
  | some (.slice e)=>evsK t (parts.toList.map (·.2)) fun vs=>match buildSX P e len ((parts.toList.map (·.1)).zip vs) with
   | some cs=>alc cs e w fun b w'=>K (.slice (some ⟨b,0,none⟩) len len) w'
   | none=>False
  | _=>False
 | .load ty x=>evK t x fun v=>match v with
  | .pointer p=>nn p fun a=>ldT P ty a w fun v=>K v w
  | _=>False
 | .store ty x y=>evK t x fun p=>evK t y fun v=>match p with
  | .pointer p=>nn p fun a=>stT P ty v a w fun w'=>K undef w'
  | _=>False
 | .nilCheck x=>evK t x fun v=>nchk v fun v=>K v w
 | .binOp op ty x y _=>evK t x fun x=>evK t y fun y=>binX P op ty x y w fun v=>K v w
 | .unOp op _ x=>evK t x fun x=>unX op x fun v=>K v w
 | .convert s d x=>evK t x fun x=>cvX P s d x w K
 | .makeInterface ty x=>evK t x fun x=>match P.underlying ty with
  | some (.interface _)=>False
  | some _=>K (.iface ty x) w
  | none=>False
 | .makeFunc fn first cap=>evsK t first.toList fun vs=>evsK t cap.toList fun cs=>K (.func fn vs.toArray cs.toArray) w
 | .makeSlice ty l c=>evK t l fun l=>evK t c fun c=>runS P (Instr.makeSlice ty l c) w fun p n c w'=>K (.slice p n c) w'
 | .slice ty x lo hi mx=>evK t x fun v=>evO t lo fun lo=>evO t hi fun hi=>evO t mx fun mx=>slX P ty v lo hi mx w K
 | .fieldAddr s x f=>evK t x fun v=>match v with
  | .pointer p=>nn p fun a=>match P.underlying s with
   | some (.struct fs)=>match fs.toList[f]? with
    | some fd=>if sizeT P fd.type = 0 then False else K (.pointer (some (a.add fd.offset))) w
    | none=>False
   | _=>False
  | _=>False
 | .field s x f=>evK t x fun v=>match v with
  | .agg cs=>match P.underlying s with
   | some (.struct fs)=>match fs.toList[f]? with
    | some fd=>partX P fd.type cs.toList fd.offset fun v=>K v w
    | none=>False
   | _=>False
  | _=>False
 | .indexAddr ty x i=>evK t x fun v=>evK t i fun i=>match i with
  | .int _ i=>match P.underlying ty with
   | some (.slice e)=>match v with
    | .slice p n _=>if (P.info? e).isSome then ix i n fun j=>nn p fun a=>K (.pointer (some (a.add (j * sizeT P e)))) w else False
    | _=>False
   | some (.array n e)=>match v with
    | .pointer p=>if (P.info? e).isSome then nn p fun a=>ix i n fun j=>K (.pointer (some (a.add (j * sizeT P e)))) w else False
    | _=>False
   | _=>False
  | _=>False
 | .index ty x i=>evK t x fun v=>evK t i fun i=>match i with
  | .int _ i=>match P.underlying ty with
   | some .string=>match v with
    | .string s=>sx s i fun b=>K (.int .u8 b) w
    | _=>False
   | some (.array n e)=>match v with
    | .agg cs=>if (P.info? e).isSome then ix i n fun j=>elX P e cs.toList (j * sizeT P e) fun v=>K v w else False
    | _=>False
   | _=>False
  | _=>False
 | .extract x j=>evK t x fun v=>match v with
  | .tuple vs=>match nthL vs.toList j with
   | some v=>K v w
   | none=>False
  | _=>False
 | .call c=>match c.callee with
  | .value f=>evK t f fun fv=>evsK t c.args.toList fun vs=>callVal P fv vs w fun v w'=>isT P o.type v fun v=>K v w'
  | .builtin b=>evsK t c.args.toList fun vs=>builtX P b c.argTypes o.type vs w K
  | _=>False
 | _=>False
def opsX (P:Program) (all:Array Oper):List Oper→PF→World→(PF→World→Prop)→Prop
 | [],pa,w,K=>K pa w
 | o :: rest,pa,w,K=>match o.guard with
  | none=>opX P pa.t o w fun v w'=>opsX P all rest (pa.put o.dst v) w' K
  | some (j,want)=>match (all.toList[j]?).bind (·.dst) with
   | none=>False
   | some d=>match getL pa.t d with
    | some (.bool b)=>match want with
     | true=>cnd b (opX P (.v d (.bool true) :: pa.t) o w fun v w'=>opsX P all rest (PF.put { pa with t:=.v d (.bool true) :: pa.t } o.dst v) w' K)
      (opsX P all rest (PF.put { pa with t:=.v d (.bool false) :: pa.t } o.dst undef) w K)
     | false=>cnd b (opsX P all rest (PF.put { pa with t:=.v d (.bool true) :: pa.t } o.dst undef) w K)
      (opX P (.v d (.bool false) :: pa.t) o w fun v w'=>opsX P all rest (PF.put { pa with t:=.v d (.bool false) :: pa.t } o.dst v) w' K)
    | some (.tuple _)=>opsX P all rest (pa.put o.dst undef) w K
    | _=>False
def drw (w:World) (K:World→Prop):Prop:=K w.drew
def kO (P:Program) (o:Oper):Nat:=match o.op with
 | .move _ | .assign _ | .pick .. | .unOp .. | .makeInterface .. | .makeFunc .. | .fieldAddr .. | .indexAddr .. | .nilCheck _ | .extract .. | .build ..=>0
 | .binOp _ t _ _ _=>match kdOf P t with
  | .int _ | .bool | .str | .slice=>0
  | _=>1
 | .load .. | .slice .. | .field .. | .index ..=>1
 | .convert _ d _=>match P.underlying d with
  | some (.int _) | some .string=>1
  | some (.slice _)=>2
  | _=>3
 | .alloc .. | .box .. | .buildSlice .. | .store .. | .makeSlice ..=>2
 | .call c=>match c.callee with
  | .value _=>2
  | .builtin b=>match b with
   | .len | .cap | .max | .min=>1
   | .append | .copy | .clear=>2
   | _=>3
  | _=>3
 | _=>3
structure PE where
 i:Nat
 pa:PF
 o:Oper
 v:Value
 desc:List Nat
def waitsOn (o:Oper) (l:List Nat):Bool:=o.after.toList.any fun e=>Region.binds .any e && l.contains e.on
def addE (o:Oper) (i:Nat) (p:PE):PE:=match waitsOn o (p.i :: p.desc) with
 | true=>{ p with desc:=i :: p.desc }
 | false=>p
def addD (o:Oper) (i:Nat):List PE→List PE
 | []=>[]
 | p :: r=>addE o i p :: addD o i r
def rchk (P:Program) (o:Oper) (w:World) (K:Prop):List PE→Prop
 | []=>K
 | p :: r=>match waitsOn o (p.i :: p.desc) with
  | true=>rchk P o w K r
  | false=>opX P p.pa.t p.o w (fun v' _=>v' = p.v)∧rchk P o w K r
def runD (P:Program) (i:Nat) (o:Oper) (pend:List PE) (pa:PF) (w:World) (N:List PE→PF→World→Prop):Prop:=match kO P o with
 | 0=>opX P pa.t o w fun v w'=>N (addD o i pend) (pa.put o.dst v) w'
 | 1=>opX P pa.t o w fun v w'=>N (⟨i,pa,o,v,[]⟩ :: addD o i pend) (pa.put o.dst v) w'
 | 2=>opX P pa.t o w fun v w'=>rchk P o w' (N (addD o i pend) (pa.put o.dst v) w') pend
 | _=>False
def stepD (P:Program) (all:Array Oper) (i:Nat) (pend:List PE) (pa:PF) (w:World) (N:List PE→PF→World→Prop):Prop:=match all.toList[i]? with
 | none=>False
 | some o=>match o.guard with
  | none=>runD P i o pend pa w N
  | some (j,want)=>match (all.toList[j]?).bind (·.dst) with
   | none=>False
   | some d=>match getL pa.t d with
    | some (.bool b)=>match want with
     | true=>cnd b (runD P i o pend { pa with t:=.v d (.bool true) :: pa.t } w N) (N (addD o i pend) (PF.put { pa with t:=.v d (.bool false) :: pa.t } o.dst undef) w)
     | false=>cnd b (N (addD o i pend) (PF.put { pa with t:=.v d (.bool true) :: pa.t } o.dst undef) w) (runD P i o pend { pa with t:=.v d (.bool false) :: pa.t } w N)
    | some (.tuple _)=>N (addD o i pend) (pa.put o.dst undef) w
    | _=>False
def opsD (P:Program) (all:Array Oper) (K:PF→World→Prop):List Nat→List PE→PF→World→Prop
 | [],_,pa,w=>K pa w
 | i :: rest,pend,pa,w=>stepD P all i pend pa w fun pend pa w=>opsD P all K rest pend pa w
def rowB (P:Program) (ops:Array Oper):List Nat→Bool
 | []=>true
 | i :: rest=>match ops.toList[i]? with
  | none=>false
  | some o=>(!rest.contains i && o.after.toList.all (fun e=>!Region.binds .any e || (Nat.blt e.on ops.size && !(i :: rest).contains e.on))) &&
   (match kO P o with
    | 0 | 1=>rest.all fun k=>match ops.toList[k]? with
     | some q=>waitsOn q [i] || o.apart ops q
     | none=>false
    | 2=>rest.all fun k=>match ops.toList[k]? with
     | some q=>waitsOn q (i :: rest)
     | none=>false
    | _=>false) && rowB P ops rest
def canB (P:Program) (ops:Array Oper) (ord:List Nat):Bool:=Nat.beq ord.length ops.size && ((List.range ops.size).all ord.contains && rowB P ops ord)
def waitB (ops:Array Oper) (rest:List Nat) (i:Nat):Bool:=match ops.toList[i]? with
 | some o=>waitsOn o rest
 | none=>true
def kAt (P:Program) (ops:Array Oper) (i:Nat):Nat:=match ops.toList[i]? with
 | some o=>kO P o
 | none=>3
def findF (f:Nat→Bool):List Nat→Option Nat
 | []=>none
 | i :: r=>match f i with
  | true=>some i
  | false=>findF f r
def filF (f:Nat→Bool):List Nat→List Nat
 | []=>[]
 | i :: r=>match f i with
  | true=>i :: filF f r
  | false=>filF f r
def pickF (P:Program) (ops:Array Oper) (rest:List Nat):List Nat:=match findF (fun i=>!waitB ops rest i && Nat.ble (kAt P ops i) 1) rest with
 | some i=>[i]
 | none=>filF (fun i=>!waitB ops rest i) rest
def lessF (rest:List Nat) (i:Nat):List Nat:=filF (fun k=>!Nat.beq k i) rest
def allF (f:Nat→Prop):List Nat→Prop
 | []=>False
 | i :: r=>match r with
  | []=>f i
  | _ :: _=>f i∧allF f r
def opsF (P:Program) (all:Array Oper) (K:PF→World→Prop):Nat→List Nat→List PE→PF→World→Prop
 | n,rest,pend,pa,w=>match rest with
  | []=>K pa w
  | _ :: _=>match n with
   | 0=>False
   | n + 1=>allF (fun j=>stepD P all j pend pa w fun pend pa w=>opsF P all K n (lessF rest j) pend pa w) (pickF P all rest)
def forkB (P:Program) (ops:Array Oper):Bool:=(List.range ops.size).all fun i=>match ops.toList[i]? with
 | none=>false
 | some o=>Nat.ble (kO P o) 2 && (o.after.toList.all (fun e=>!Region.binds .any e || Nat.blt e.on i) &&
  (!Nat.ble (kO P o) 1 || (List.range ops.size).all fun k=>Nat.beq k i || match ops.toList[k]? with
   | none=>false
   | some q=>waitsOn q [i] || (waitsOn o [k] || o.apart ops q)))
def ordSpec (l:List Nat):LSp where
 S:=Unit
 emb:=fun _=>[]
 ext:=fun _=>none
 slots:=[]
 fits:=fun _=>rfl
 ok:=fun _ _ h=>by cases h
 ord:=l
def assigned:Code→List Nat
 | .region _ ops _=>ops.toList.filterMap (·.dst) ++ ops.toList.filterMap fun o=>o.guard.bind fun g=>(ops.toList[g.1]?).bind (·.dst)
 | .seq a b | .cond _ a b=>assigned a ++ assigned b
 | .block _ b | .loop b | .scope b=>assigned b
 | _=>[]
def hasRF:Code→Bool
 | .seq a b | .cond _ a b=>hasRF a || hasRF b
 | .block _ b | .loop b | .scope b=>hasRF b
 | .rangeFunc _ _ _ _=>true
 | _=>false
def clearL (is:List Nat) (t:List En):List En:=.m is :: t
def overL (xs:List (Nat×Value)) (t:List En):List En:=match xs with
 | []=>t
 | (i,v) :: r=>.v i v :: overL r t
abbrev Kt:=Exit→PF→World→Prop
def andThen (next:PF→World→Prop) (K:Kt):Kt:=fun e pa w=>match e with
 | .normal=>next pa w
 | e=>K e pa w
def inBlk (id:Nat) (K:Kt):Kt:=fun e pa w=>match e with
 | .exit id'=>if id' = id then K .normal pa w else K (.exit id') pa w
 | e=>K e pa w
def loopX (L:LSp) (rf:Bool) (asg:List Nat) (body:PF→World→Kt→Prop) (pa:PF) (w:World) (K:Kt):Prop:=if (L.slots.all asg.contains) = false then False else match L.ext pa.t with
 | none=>False
 | some s0=>match rf with
  | false=>LoopT (fun s w A=>body { pa with t:=overL (L.emb s) (clearL asg pa.t) } w fun e pa' w'=>match e with
   | .normal=>match L.ext pa'.t with
    | some s'=>A s' w'
    | none=>False
   | e=>K e pa' w') s0 w
  | true=>LoopT (fun (s:L.S×List Deferred) w A=>body { n:=pa.n,t:=overL (L.emb s.1) (clearL asg pa.t),ds:=s.2 } w fun e pa' w'=>match e with
   | .normal=>match L.ext pa'.t with
    | some s'=>A (s',pa'.ds) w'
    | none=>False
   | e=>K e pa' w') (s0,pa.ds) w
def JoinT {S:Type} (B:(S→World→Prop)→Prop) (J:S→World→Prop):Prop:=B J
def joinX (L:LSp) (rf:Bool) (asg:List Nat) (pa:PF) (X:(PF→World→Prop)→Prop) (Y:PF→World→Prop):Prop:=if (L.slots.all asg.contains) = false then False else match rf with
 | false=>JoinT (fun (J:L.S→World→Prop)=>X fun pa' w'=>match L.ext pa'.t with
  | some s=>J s w'
  | none=>False) fun s w=>Y { pa with t:=overL (L.emb s) (clearL asg pa.t) } w
 | true=>JoinT (fun (J:L.S×List Deferred→World→Prop)=>X fun pa' w'=>match L.ext pa'.t with
  | some s=>J (s,pa'.ds) w'
  | none=>False) fun s w=>Y { n:=pa.n,t:=overL (L.emb s.1) (clearL asg pa.t),ds:=s.2 } w
def inBlkJ (id:Nat) (J:PF→World→Prop) (K:Kt):Kt:=fun e pa w=>match e with
 | .normal=>J pa w
 | .exit id'=>if id' = id then J pa w else K (.exit id') pa w
 | e=>K e pa w
def parX (n:Nat) (ps:List Tmp) (vs:List Value) (t:List En):List En:=match ps,vs with
 | p :: ps,v :: vs=>parX n ps vs (setB n t p v)
 | _,_=>t
def recAt (w:World) (l:Nat) (r:Loop) (st:LoopState) (j:Option Code):Prop:=w.heap[l]? = some (.loop { r with state:=st,pending:=j })
def jumpOf:Exit→Option (Option Code)
 | .normal=>some none
 | .ret=>some (some .ret)
 | .exit id=>some (some (.exit id))
 | _=>none
def Entered (ro:Option Nat) (w:World) (r:Loop) (l:Nat) (w1:World) (mark:List Deferred):Prop:=match ro with
 | none=>l = w.heap.size + 1∧w1 = (w.alloc (.deferred (some []))).alloc (.loop { r with state:=.ready,pending:=none })∧mark = [{ target:=.collected w.heap.size,args:=#[] }]
 | some _=>l = w.heap.size∧w1 = w.alloc (.loop { r with state:=.ready,pending:=none })∧mark = []
def setR (w:World) (l:Nat) (r:Loop) (st:LoopState) (j:Option Code) (K:World→Prop):Prop:=K (w.putObj l (.loop { r with state:=st,pending:=j }))
def b0 (vs:List Value) (K:Prop):Prop:=match vs with | []=>K | _=>False
def b1 (vs:List Value) (K:Value→Prop):Prop:=match vs with | [v]=>K v | _=>False
def b2 (vs:List Value) (K:Value→Value→Prop):Prop:=match vs with | [v,u]=>K v u | _=>False
def takes (p:Tmp) (o:Oper):Option TypeId:=match o.op with
 | .assign x=>if (match x with | .tmp t=>t == p | _=>false) then some o.type else none
 | .move x=>if (match x with | .tmp t=>t == p | _=>false) then some o.type else none
 | .store t _ x=>if (match x with | .tmp t'=>t' == p | _=>false) then some t else none
 | .box t x=>if (match x with | .tmp t'=>t' == p | _=>false) then some t else none
 | _=>none
def firstSome (p:Tmp):List Oper→Option TypeId
 | []=>none
 | o :: r=>match takes p o with
  | some t=>some t
  | none=>firstSome p r
def parTy (p:Tmp):Code→Option TypeId
 | .region _ ops _=>firstSome p ops.toList
 | .seq a b=>match parTy p a with
  | some t=>some t
  | none=>parTy p b
 | _=>none
def typed (P:Program) (t:Option TypeId) (v:Value) (K:Value→Prop):Prop:=match t with
 | some t=>isT P t v K
 | none=>K v
def callFn (P:Program) (f:Value) (vs:List Value) (w:World) (Q:Value→World→Prop):Prop:=match f with
 | .func fn first cap=>match fn with
  | .func g=>match enters P g with
   | true=>CV P g (first.toList ++ vs ++ cap.toList) w Q
   | false=>False
  | _=>False
 | _=>False
def inLoop (ro:Option Nat) (w:World) (K:Prop):Prop:=match ro with
 | none=>K
 | some l0=>(∃ r0,w.heap[l0]? = some (.loop r0))∧K
def RF (P:Program) (ro:Option Nat) (np:Nat) (g:Value) (w:World) (B:Nat→Loop→List Value→World→(Value→World→Prop)→Prop) (K:List Deferred→Option Code→World→Prop):Prop :=
 inLoop ro w <| ∀ r l w1 mark,Entered ro w r l w1 mark →
  (∀ vs w' Q,vs.length = np→recAt w' l r .ready none→B l r vs w' Q→YV P l vs w' Q) →
  callFn P g [.func (.yield l) #[] #[]] w1 fun _ w2=>∃ st j,recAt w2 l r st j∧st≠.busy∧setR w2 l r .exhausted j fun w3=>K mark j w3
def roundX (assign body:PF→World→Kt→Prop) (l:Nat) (r:Loop) (pa:PF) (w:World) (Q:Value→World→Prop):Prop :=
 assign pa w fun e pa1 w1=>match e with
  | .normal=>recAt w1 l r .ready none∧setR w1 l r .busy none fun w2=>body pa1 w2 fun e _ w3=>match jumpOf e with
   | some none=>recAt w3 l r .busy none∧setR w3 l r .ready none fun w4=>Q (.bool true) w4
   | some (some c)=>recAt w3 l r .busy none∧setR w3 l r .done (some c) fun w4=>Q (.bool false) w4
   | none=>False
  | _=>False
def parsX (P:Program) (n:Nat) (ps:List Tmp) (assign:Code) (vs:List Value) (t:List En) (K:List En→Prop):Prop:=match ps with
 | []=>b0 vs (K t)
 | [p]=>b1 vs fun v=>typed P (parTy p assign) v fun v=>K (setB n t p v)
 | [p,q]=>b2 vs fun v u=>typed P (parTy p assign) v fun v=>typed P (parTy q assign) u fun u=>K (setB n (setB n t p v) q u)
 | _=>False
def exitsOf:Code→List Nat
 | .exit id=>[id]
 | .seq a b | .cond _ a b=>exitsOf a ++ exitsOf b
 | .block id b=>(exitsOf b).filter (· != id)
 | .loop b | .scope b=>exitsOf b
 | .rangeFunc _ _ a b=>exitsOf a ++ exitsOf b
 | _=>[]
def uniq:List Nat→List Nat
 | []=>[]
 | i :: r=>if r.contains i then uniq r else i :: uniq r
def xsX (ids:List Nat) (id:Nat) (K:Nat→Prop):Prop:=match ids with
 | []=>False
 | i :: r=>(id = i→K i)∧(id≠i→xsX r id K)
def jmpX (j:Option Code) (n r:Prop) (x:Nat→Prop):Prop:=match j with
 | none=>n
 | some .ret=>r
 | some (.exit id)=>x id
 | some _=>False
def ex (P:Program) (ann:Nat→Option LSp):Code→(ro:Option Nat)→(path:Nat)→PF→World→Kt→Prop
 | .skip,_,_,pa,w,K=>K .normal pa w
 | .label _,_,_,pa,w,K=>K .normal pa w
 | .seq x y,ro,p,pa,w,K=>match ann p with
  | none=>ex P ann x ro (2 * p) pa w (andThen (fun pa w=>ex P ann y ro (2 * p + 1) pa w K) K)
  | some L=>joinX L (hasRF x) (assigned x) pa (fun J=>ex P ann x ro (2 * p) pa w (andThen J K)) (fun pa w=>ex P ann y ro (2 * p + 1) pa w K)
 | .cond c x y,ro,p,pa,w,K=>match ev pa.t c with
  | some (.bool b)=>cnd b (ex P ann x ro (2 * p) pa w K) (ex P ann y ro (2 * p + 1) pa w K)
  | _=>False
 | .block id b,ro,p,pa,w,K=>match ann p with
  | none=>ex P ann b ro (2 * p) pa w (inBlk id K)
  | some L=>joinX L (hasRF b) (assigned b) pa (fun J=>ex P ann b ro (2 * p) pa w (inBlkJ id J K)) (fun pa w=>K .normal pa w)
 | .exit id,_,_,pa,w,K=>K (.exit id) pa w
 | .ret,_,_,pa,w,K=>K .ret pa w
 | .region _ ops draw,_,p,pa,w,K=>match draw with
  | false=>opsX P ops ops.toList pa w fun pa w=>K .normal pa w
  | true=>match ann p with
   | some L=>drawX P ops L.ord pa w fun pa w=>K .normal pa w
   | none=>False
 | .loop b,ro,p,pa,w,K=>match ann p with
  | some L=>loopX L (hasRF b) (assigned b) (fun pa w K=>ex P ann b ro (2 * p) pa w K) pa w K
  | none=>False
 | .rangeFunc f ps assign body,ro,p,pa,w,K=>evK pa.t f fun g=>RF P ro ps.size g w
  (fun l r vs w Q=>parsX P pa.n ps.toList assign vs pa.t fun t=>roundX (fun pa w K=>ex P ann assign (some l) (2 * p) pa w K) (fun pa w K=>ex P ann body (some l) (2 * p + 1) pa w K) l r { n:=pa.n,t:=t,ds:=[] } w Q)
  (fun mark j w=>jmpX j (K .normal { pa with ds:=mark ++ pa.ds } w) (K .ret { pa with ds:=mark ++ pa.ds } w) (fun id=>xsX (uniq (exitsOf body)) id fun i=>K (.exit i) { pa with ds:=mark ++ pa.ds } w))
 | _,_,_,_,_,_=>False
where
 drawX (P:Program) (ops:Array Oper) (ord:List Nat) (pa:PF) (w:World) (K:PF→World→Prop):Prop:=match canB P ops ord with
  | true=>drw w fun w=>opsD P ops K ord [] pa w
  | false=>match forkB P ops with
   | true=>drw w fun w=>opsF P ops K ops.size (List.range ops.size) [] pa w
   | false=>False
def takeX:List Deferred→World→(World→Prop)→Prop
 | [],w,K=>K w
 | d :: ds,w,K=>match d.target with
  | .collected r=>w.heap[r]? = some (.deferred (some []))∧takeX ds (w.putObj r (.deferred none)) K
  | _=>False
def resX (P:Program) (t:List En) (w:World):List ResultVar→(List Value→Prop)→Prop
 | [],K=>K []
 | .tmp i :: r,K=>match getL t i with
  | some v=>resX P t w r fun vs=>K (v :: vs)
  | none=>False
 | .cell i ty :: r,K=>match getL t i with
  | some (.pointer p)=>nn p fun a=>ldT P ty a w fun v=>resX P t w r fun vs=>K (v :: vs)
  | _=>False
def retX (P:Program) (rs:List ResultVar) (Q:Value→World→Prop):Kt:=fun e pa w=>match e with
 | .normal | .ret=>takeX pa.ds w fun w=>resX P pa.t w rs fun vs=>match vs with
  | [v]=>Q v w
  | vs=>Q (.tuple vs.toArray) w
 | _=>False
def args0:Nat→List Value→List En
 | _,[]=>[]
 | i,v :: r=>.v i v :: args0 (i + 1) r
def frame0 (n:Nat) (vs:List Value):PF:={ n:=vs.length + (n - vs.length),t:=args0 0 vs,ds:=[] }
def fnX (P:Program) (ann:Nat→Option LSp) (fn:Func) (vs:List Value) (w:World) (Q:Value→World→Prop):Prop:=match fn.body with
 | some c=>ex P ann c none 1 (frame0 fn.ntmps vs) w (retX P fn.results.toList Q)
 | none=>False
theorem getL_v (j:Nat) (x:Value) (r:List En) (i:Nat):getL (.v j x :: r) i = if j = i then some x else getL r i:=by
 simp only [getL]
 by_cases h:j = i
 · subst h; simp
 · have:Nat.beq j i = false:=by
    cases hx:Nat.beq j i
    · rfl
    · exact absurd (Nat.eq_of_beq_eq_true hx) h
   simp [h,this]
theorem getL_m (is:List Nat) (r:List En) (i:Nat):getL (.m is :: r) i = if i∈is then none else getL r i:=by
 simp only [getL]
 by_cases h:i∈is
 · simp [h]
 · simp [h]
theorem setB_eq (n:Nat) (t:List En) (d:Nat) (v:Value):setB n t d v = if d < n then .v d v :: t else t:=by
 unfold setB
 by_cases h:d < n
 · have:Nat.blt d n = true:=by simpa [Nat.blt_eq] using h
   simp [h,this]
 · have:Nat.blt d n = false:=by
    cases hx:Nat.blt d n
    · rfl
    · rw [Nat.blt_eq] at hx; exact absurd hx h
   simp [h,this]
theorem le_set {n:Nat} {t:List En} {tm:Array Value} (h1:n = tm.size) (h:∀ (i:Nat) (v:Value),getL t i = some v→tm[i]? = some v) (d:Nat) (v:Value) :
 n = (tm.setIfInBounds d v).size∧∀ (i:Nat) (u:Value),getL (setB n t d v) i = some u→(tm.setIfInBounds d v)[i]? = some u:=by
 refine ⟨by simpa using h1,fun i u hu=>?_⟩
 rw [setB_eq] at hu
 rw [Array.getElem?_setIfInBounds]
 split at hu
 · rename_i hd
   rw [getL_v] at hu
   split at hu
   · rename_i e; subst e; rw [if_pos rfl,if_pos (by omega)]; exact hu
   · rename_i e; rw [if_neg e]; exact h i u hu
 · rename_i hd
   split
   · rename_i e; subst e
     have:=h d u hu
     rw [Array.getElem?_eq_none (by omega)] at this; cases this
   · exact h i u hu
theorem PF.le_put {pa:PF} {a:Act} (h:pa.le a) (d:Option Tmp) (v:Value):(pa.put d v).le (a.put d v):=by
 obtain ⟨h1,h2,h3⟩:=h
 cases d with
 | none=>exact ⟨h1,h2,h3⟩
 | some d=>exact ⟨h1,le_set h2 h3 d v⟩
theorem ev_sound {pa:PF} {a:Act} (h:pa.le a) {x:Operand} {v:Value} (hx:ev pa.t x = some v):a.eval x = v:=by
 cases x with
 | tmp i=>simp only [ev] at hx; have:=h.2.2 i v hx; simp [Act.eval,Array.getD_eq_getD_getElem?,this]
 | const c=>simpa [ev,Act.eval] using hx
 | global g=>simpa [ev,Act.eval] using hx
 | func f=>simpa [ev,Act.eval] using hx
theorem evK_out {t:List En} {x:Operand} {K:Value→Prop} (h:evK t x K):∃ v,ev t x = some v∧K v:=by
 unfold evK at h
 split at h
 · exact ⟨_,by assumption,h⟩
 · exact h.elim
theorem evs_sound {pa:PF} {a:Act} (h:pa.le a):∀ {xs:List Operand} {vs:List Value},evs pa.t xs = some vs→xs.map a.eval = vs:=by
 intro xs
 induction xs with
 | nil=>intro vs hv; simp only [evs,Option.some.injEq] at hv; subst hv; rfl
 | cons x r ih =>
  intro vs hv
  simp only [evs] at hv
  split at hv
  · rename_i v vs' h1 h2; cases hv; simp [ev_sound h h1,ih h2]
  · cases hv
theorem evsK_out {t:List En} {xs:List Operand} {K:List Value→Prop} (h:evsK t xs K):∃ vs,evs t xs = some vs∧K vs:=by
 unfold evsK at h
 split at h
 · exact ⟨_,by assumption,h⟩
 · exact h.elim
theorem map_toArray {xs:Array Operand} {f:Operand→Value} {vs:List Value} (h:xs.toList.map f = vs):xs.map f = vs.toArray:=by
 subst h; apply Array.toList_inj.1; simp
theorem isAgg_run (P:Program) (t:TypeId) (w:World) (d:TypeDesc) (h:P.underlying t = some d):(isAgg t).run P w = .ok (isAggB P t) w:=by
 cases d <;> simp [isAgg,underlying,h,isAggB]
theorem isAgg_run' (P:Program) (t:TypeId) (w:World) (h:(P.underlying t).isSome):(isAgg t).run P w = .ok (isAggB P t) w:=by
 obtain ⟨d,h⟩:=Option.isSome_iff_exists.1 h; exact isAgg_run P t w d h
theorem info_of_underlying {P:Program} {t:TypeId} {d:TypeDesc} (h:P.underlying t = some d):∃ i,P.info? t = some i:=by
 unfold Program.underlying at h
 split at h
 · rename_i h1; exact ⟨_,h1⟩
 · rename_i h1; exact ⟨_,h1⟩
 · cases h
theorem sizeOf_run (P:Program) (t:TypeId) (w:World) (h:(P.info? t).isSome):(sizeOf t).run P w = .ok (sizeT P t) w:=by
 obtain ⟨i,h⟩:=Option.isSome_iff_exists.1 h
 simp [sizeOf,typeInfo,h,sizeT,Program.cellsOf]
theorem size_info {P:Program} {t:TypeId} (h:sizeT P t≠0):(P.info? t).isSome:=by
 cases e:P.info? t with
 | some i=>rfl
 | none=>exfalso; apply h; simp [sizeT,Program.cellsOf,e]
theorem info_of_agg {P:Program} {t:TypeId} (h:isAggB P t = true):(P.info? t).isSome:=by
 cases hu:P.underlying t with
 | none=>simp [isAggB,hu] at h
 | some d=>obtain ⟨i,hi⟩:=info_of_underlying hu; simp [hi]
def oneB (v:Value):Bool:=match v with | .agg _ | .tuple _=>false | _=>true
theorem ld1_out {kd:Kd} {a:Addr} {w:World} {K:Value→Prop} (h:ld1 kd a w K):∃ v,w.cell? a = some v∧K v:=by
 cases kd <;> simp only [ld1,ldI,ldB,ldS,ldP,ldL,ldV] at h
 · obtain ⟨n,h1,h2⟩:=h; exact ⟨_,h1,h2⟩
 · obtain ⟨n,h1,h2⟩:=h; exact ⟨_,h1,h2⟩
 · obtain ⟨n,h1,h2⟩:=h; exact ⟨_,h1,h2⟩
 · obtain ⟨n,h1,h2⟩:=h; exact ⟨_,h1,h2⟩
 · obtain ⟨p,n,c,h1,h2⟩:=h; exact ⟨_,h1,h2⟩
 · exact h
theorem ldN_out {a:Addr} {w:World}:∀ (kds:List Kd) (i:Nat) (K:List Value→Prop),ldN kds a i w K →
 ∃ vs:List Value,vs.length = kds.length∧(∀ j v,vs[j]? = some v→w.cell? (a.add (i + j)) = some v)∧K vs:=by
 intro kds
 induction kds with
 | nil=>intro i K h; exact ⟨[],rfl,by simp,h⟩
 | cons kd r ih =>
  intro i K h
  obtain ⟨v,h1,h2⟩:=ld1_out h
  obtain ⟨vs,h3,h4,h5⟩:=ih _ _ h2
  refine ⟨v :: vs,by simp [h3],fun j u hj=>?_,h5⟩
  cases j with
  | zero=>simp at hj; subst hj; exact h1
  | succ j=>simp at hj; have:=h4 j u hj; rw [show i + (j + 1) = i + 1 + j from by omega]; exact this
theorem run_load_cell {P:Program} {a:Addr} {w:World} {v:Value} (h:w.cell? a = some v):(load a).run P w = .ok v w:=by simp [h]
theorem ldT_out {P:Program} {t:TypeId} {a:Addr} {w:World} {K:Value→Prop} (h:ldT P t a w K):∃ v,(loadVar t a).run P w = .ok v w∧K v:=by
 unfold ldT at h
 split at h
 · exact h.elim
 rename_i hu
 have hu:(P.underlying t).isSome:=by cases hx:P.underlying t <;> simp_all
 have ha:=isAgg_run' P t w hu
 cases hb:isAggB P t with
 | true =>
  rw [hb] at h
  simp only at h
  split at h
  · rename_i hl
    obtain ⟨vs,h1,h2,h3⟩:=ldN_out _ _ _ h
    refine ⟨_,?_,h3⟩
    obtain ⟨d,hd⟩:=Option.isSome_iff_exists.1 hu
    obtain ⟨i,hi⟩:=info_of_underlying hd
    have hs:=sizeOf_run P t w (by simp [hi])
    have hl2:=run_loadCells_list (P:=P) (w:=w) a vs (fun j v hj=>by have:=h2 j v hj; rwa [Nat.zero_add] at this)
    simp only [loadVar,Sem.run_bind,ha,hb,Result.andThen_ok,if_true,hs,← hl,← h1,hl2,Sem.run_pure]
  · exact h.elim
 | false =>
  rw [hb] at h
  obtain ⟨v,h1,h2⟩:=ld1_out h
  refine ⟨v,?_,h2⟩
  simp only [loadVar,Sem.run_bind,ha,hb,Result.andThen_ok,Bool.false_eq_true,if_false]
  exact run_load_cell h1
theorem run_store_cell {P:Program} {a:Addr} {w:World} {v old:Value} (ho:oneB v = true) (h:w.cell? a = some old) (hf:w.frozen? a = false):(store a v).run P w = .ok () (w.setCell a v):=by
 cases v <;> simp_all [store,Sem.run,oneB]
theorem stN_out {P:Program} {a:Addr}:∀ (vs:List Value) (i:Nat) (w:World) (K:World→Prop),stN vs a i w K→∃ w',(storeCells a vs i).run P w = .ok () w'∧K w':=by
 intro vs
 induction vs with
 | nil=>intro i w K h; exact ⟨w,by simp [storeCells],h⟩
 | cons v r ih =>
  intro i w K h
  have key:st1 v (a.add i) w (fun w1=>stN r a (i + 1) w1 K)∧oneB v = true:=by
   cases v <;> simp_all [stN,oneB]
  obtain ⟨⟨⟨old,h1⟩,h2,h3⟩,ho⟩:=key
  obtain ⟨w',h4,h5⟩:=ih _ _ _ h3
  refine ⟨w',?_,h5⟩
  simp only [storeCells,Sem.run_bind,run_store_cell ho h1 h2,Result.andThen_ok,h4]
theorem oneK_out {v:Value} {K:Prop} (h:oneK v K):oneB v = true∧v.cells = #[v]∧K:=by
 cases v <;> simp_all [oneK,oneB,Value.cells]
theorem stT_out {P:Program} {t:TypeId} {v:Value} {a:Addr} {w:World} {K:World→Prop} (h:stT P t v a w K):∃ w',(storeVar t a v).run P w = .ok () w'∧K w':=by
 unfold stT at h
 split at h
 · rename_i hb
   split at h
   · rename_i cs
     split at h
     · rename_i hl
       obtain ⟨w',h1,h2⟩:=stN_out (P:=P) _ _ _ _ h
       refine ⟨w',?_,h2⟩
       have hi:(P.info? t).isSome:=by
        by_cases h0:sizeT P t = 0
        · exact info_of_agg hb
        · exact size_info h0
       have hs:=sizeOf_run P t w hi
       have hl':cs.size = sizeT P t:=by simpa using hl
       simp only [storeVar,Sem.run_bind,hs,Result.andThen_ok,Value.cells,hl',ne_eq,not_true_eq_false,if_false]
       simpa using h1
     · exact h.elim
   · exact h.elim
 · split at h
   · rename_i hl
     obtain ⟨ho,hc,h⟩:=oneK_out h
     obtain ⟨⟨old,h1⟩,h2,h3⟩:=h
     refine ⟨_,?_,h3⟩
     have hs:=sizeOf_run P t w (size_info (by omega))
     simp only [storeVar,Sem.run_bind,hs,Result.andThen_ok,hc,hl]
     have:=run_store_cell (P:=P) (a:=a) ho h1 h2
     simp [storeCells,this,Addr.add]
   · exact h.elim
theorem cellsL_eq (v:Value):cellsL v = v.cells.toList:=by cases v <;> rfl
theorem zeroC_run {P:Program} {t:TypeId} {cs:List Value} (h:zeroC P t = some cs) (w:World):∃ v,(zeroValue t).run P w = .ok v w∧v.cells = cs.toArray:=by
 unfold zeroC at h
 split at h
 · rename_i i hi
   cases hz:i.zero with
   | none=>simp [hz] at h
   | some z =>
    simp [hz] at h
    refine ⟨z,by simp [zeroValue,typeInfo,hi,hz],?_⟩
    rw [← h,cellsL_eq]
 · cases h
theorem run_newVar {P:Program} {t:TypeId} {v:Value} {w:World}:(newVar t v).run P w = .ok ⟨w.heap.size,0,none⟩ (w.alloc (.cells v.cells t)):=by
 simp only [newVar,newRow,Sem.run_bind,run_newObj,Result.andThen_ok,Sem.run_pure]; rfl
theorem run_newRow {P:Program} {t:TypeId} {cs:Array Value} {w:World}:(newRow t cs).run P w = .ok ⟨w.heap.size,0,none⟩ (w.alloc (.cells cs t)):=by
 simp only [newRow,Sem.run_bind,run_newObj,Result.andThen_ok,Sem.run_pure]; rfl
theorem nn_out {p:Option Addr} {K:Addr→Prop} (h:nn p K):∃ a,p = some a∧K a:=by
 cases p with
 | none=>exact h.elim
 | some a=>exact ⟨a,rfl,h⟩
variable {P:Program} {w:World}
theorem ite_out {c:Prop} [Decidable c] {K:Prop} (h:if c then K else False):c∧K:=by
 split at h
 · exact ⟨by assumption,h⟩
 · exact h.elim
theorem ite_out' {c:Prop} [Decidable c] {K:Prop} (h:if c then False else K):¬ c∧K:=by
 split at h
 · exact h.elim
 · exact ⟨by assumption,h⟩
theorem underlying_run {t:TypeId} {d:TypeDesc} (h:P.underlying t = some d):(underlying t).run P w = .ok d w:=by
 simp [underlying,h]
theorem intX_out {op:BinOp} {k k':IntKind} {a b:Int} {t:TypeId} {K:Value→Prop} (hk:isShift op = true∨k = k') (h:intX op k a b K) :
 ∃ v,(Go.binOp op t (.int k a) (.int k' b)).run P w = .ok v w∧K v:=by
 cases op <;> simp only [intX,nz,nng] at h <;> simp only [isShift,Bool.false_eq_true,false_or,true_or] at hk <;> (try subst hk)
 case add | sub | mul=>exact ⟨_,by simp [Go.binOp,Op.intArith],h⟩
 case quo | rem=>obtain ⟨h0,h⟩:=h; exact ⟨_,by simp [Go.binOp,Op.intDiv,h0],h⟩
 case and | or | xor | andNot=>exact ⟨_,by simp [Go.binOp,Op.intBits,bitX],h⟩
 case shl | shr=>obtain ⟨h0,h⟩:=h; exact ⟨_,by simp [Go.binOp,Op.shift,Int.not_lt.2 h0],h⟩
 case eql | neq | lss | leq | gtr | geq=>exact ⟨_,by simp [Go.binOp,Op.intCmp],h⟩
theorem eqGuard_run {op:BinOp} {t:TypeId} {x y:Operand} {a b:Value} (h:(∀ xs ys,¬ (a = .agg xs∧b = .agg ys))∧¬ (a = .nilIface∧b = .nilIface)):(eqGuard op t x y a b).run P w = .ok () w:=by
 have key:(match a,b with
  | .nilIface,.nilIface=>(do
   if (x matches .const _) || (y matches .const _) then return
   if ← Op.eqGuardIn Op.maxDepth t a b then unsupported (.noEntry "binop/eql: two nil values of an interface type with methods, neither of them the literal nil") : Sem Unit)
  | .agg _,.agg _=>(do
   if !(← program).eqGuardType (← program).depth t then return
   if ← Op.eqGuardIn Op.maxDepth t a b then unsupported (.noEntry "binop/eql: two nil values of an interface type with methods, in a part of a struct or an array") : Sem Unit)
  | _,_=>pure ()).run P w = .ok () w:=by
  split
  · exact absurd ⟨rfl,rfl⟩ h.2
  · exact absurd ⟨rfl,rfl⟩ (h.1 _ _)
  · rfl
 cases op <;> first | rfl | exact key
theorem eqGuard_any {op:BinOp} {t:TypeId} {x y:Operand} {a b:Value} (h:(eqGuard op t (.tmp 0) (.tmp 0) a b).run P w = .ok () w):(eqGuard op t x y a b).run P w = .ok () w:=by
 by_cases hn:a = .nilIface∧b = .nilIface
 · obtain ⟨rfl,rfl⟩:=hn
   have h':(if (x matches .const _) || (y matches .const _) then true else false) = true∨(if (x matches .const _) || (y matches .const _) then true else false) = false:=by cases (if (x matches .const _) || (y matches .const _) then true else false) <;> simp
   cases op <;> first | rfl | skip
   all_goals
    cases x <;> cases y <;> first | exact h | rfl
 · by_cases ha:∀ xs ys,¬ (a = .agg xs∧b = .agg ys)
   · exact eqGuard_run ⟨ha,hn⟩
   · simp only [Classical.not_forall,Classical.not_not] at ha
     obtain ⟨xs,ys,rfl,rfl⟩:=ha
     cases op <;> exact h
theorem strX_out {op:BinOp} {a b:ByteArray} {t:TypeId} {K:Value→Prop} (h:strX op a b K):∃ v,(Go.binOp op t (.string a) (.string b)).run P w = .ok v w∧K v:=by
 cases op <;> simp only [strX] at h
 case add =>
  obtain ⟨h0,h⟩:=h
  refine ⟨_,?_,h⟩
  have h1:¬ ((a.size + b.size:Nat):Int) > IntKind.i64.max:=by omega
  simp only [Go.binOp,Op.stringOp,if_neg h1,Sem.run_pure]
 case eql | neq | lss=>exact ⟨_,by simp [Go.binOp,Op.stringOp],h⟩
 all_goals exact h.elim
theorem run_sameAddr {a b:Addr} (h:a.block = b.block∨(bare w a.block∧bare w b.block)):(sameAddr a b).run P w = .ok (a == b) w:=by
 unfold sameAddr
 by_cases e:a.block = b.block
 · simp [e]
 · obtain ⟨⟨cs,t,h1⟩,⟨cs',t',h2⟩⟩:=h.resolve_left e
   have f1:w.frozen? a = false:=by simp [World.frozen?,h1]
   have f2:w.frozen? b = false:=by simp [World.frozen?,h2]
   have s1:w.shape? a.block = some (t,cs.size):=by simp [World.shape?,h1]
   have s2:w.shape? b.block = some (t',cs'.size):=by simp [World.shape?,h2]
   have f3:w.frozen? { block:=a.block,off:=cs.size } = false:=by simp [World.frozen?,h1]
   have f4:w.frozen? { block:=b.block,off:=cs'.size } = false:=by simp [World.frozen?,h2]
   have ne:(a == b) = false:=by
    rw [beq_eq_false_iff_ne]; intro hab; exact e (by rw [hab])
   simp [e,f1,f2,s1,s2,f3,f4,noView,viewAt,mayBeOne,stringish,ne]
theorem run_eq_ptr {op:BinOp} {t e:TypeId} {p q:Option Addr} {b:Bool} (hu:P.underlying t = some (.pointer e)) (hop:op = .eql∨op = .neq)
 (h:(Op.equalIn (9999 + 1) t (.pointer p) (.pointer q)).run P w = .ok b w):(Go.binOp op t (.pointer p) (.pointer q)).run P w = .ok (.bool (match op with | .eql=>b | _=>!b)) w:=by
 rcases hop with rfl | rfl
 · show (do pure (.bool (← Op.equalIn (9999 + 1) t (.pointer p) (.pointer q))):Sem Value).run P w = _
   rw [Sem.run_bind,h]; rfl
 · show (do pure (.bool (!(← Op.equalIn (9999 + 1) t (.pointer p) (.pointer q)))):Sem Value).run P w = _
   rw [Sem.run_bind,h]; rfl
theorem equalIn_ptr_nil {t e:TypeId} {p:Option Addr} (hu:P.underlying t = some (.pointer e)):(Op.equalIn (9999 + 1) t (.pointer p) (.pointer none)).run P w = .ok p.isNone w:=by
 have:=underlying_run (P:=P) (w:=w) hu
 rw [Op.equalIn,Sem.run_bind,this]
 cases p <;> rfl
theorem equalIn_ptr_ptr {t e:TypeId} {a b:Addr} (hu:P.underlying t = some (.pointer e)) (h0:¬ sizeT P e = 0) (hb:a.block = b.block∨(bare w a.block∧bare w b.block)) :
 (Op.equalIn (9999 + 1) t (.pointer (some a)) (.pointer (some b))).run P w = .ok (a == b) w:=by
 have:=underlying_run (P:=P) (w:=w) hu
 have hs:=sizeOf_run P e w (size_info h0)
 rw [Op.equalIn,Sem.run_bind,this]
 simp only [Result.andThen_ok,Sem.run_bind,hs,ne_eq,h0,not_false_eq_true,if_true,run_sameAddr hb]
theorem run_eq_slice_nil {op:BinOp} {t e:TypeId} {p:Option Addr} {n c n' c':Nat} (hu:P.underlying t = some (.slice e)) (hop:op = .eql∨op = .neq) :
 (Go.binOp op t (.slice p n c) (.slice none n' c')).run P w = .ok (.bool (match op with | .eql=>p.isNone | _=>!p.isNone)) w:=by
 have hr:=underlying_run (P:=P) (w:=w) hu
 have h:(Op.equalIn (9999 + 1) t (.slice p n c) (.slice none n' c')).run P w = .ok p.isNone w:=by
  rw [Op.equalIn,Sem.run_bind,hr]
  cases p <;> rfl
 rcases hop with rfl | rfl
 · show (do pure (.bool (← Op.equalIn (9999 + 1) t (.slice p n c) (.slice none n' c'))):Sem Value).run P w = _
   rw [Sem.run_bind,h]; rfl
 · show (do pure (.bool (!(← Op.equalIn (9999 + 1) t (.slice p n c) (.slice none n' c')))):Sem Value).run P w = _
   rw [Sem.run_bind,h]; rfl
theorem binX_out {op:BinOp} {t:TypeId} {x y:Value} {ox oy:Operand} {K:Value→Prop} (h:binX P op t x y w K) :
 ∃ v,(do eqGuard op t ox oy x y; Go.binOp op t x y:Sem Value).run P w = .ok v w∧K v:=by
 unfold binX at h
 cases hk:kdOf P t with
 | int k0 =>
  rw [hk] at h
  cases x <;> cases y <;> simp only at h <;> try exact h.elim
  obtain ⟨hc,h⟩:=ite_out h
  obtain ⟨v,h1,h2⟩:=intX_out (P:=P) (w:=w) (t:=t) (by simpa using hc) h
  exact ⟨v,by rw [Sem.run_bind,eqGuard_run (by simp)]; exact h1,h2⟩
 | str =>
  rw [hk] at h
  cases x <;> cases y <;> simp only at h <;> try exact h.elim
  obtain ⟨v,h1,h2⟩:=strX_out (P:=P) (w:=w) (t:=t) h
  exact ⟨v,by rw [Sem.run_bind,eqGuard_run (by simp)]; exact h1,h2⟩
 | bool =>
  rw [hk] at h
  have hu:P.underlying t = some .bool:=by
   unfold kdOf at hk
   split at hk <;> first | assumption | cases hk
  cases x <;> cases y <;> simp only at h <;> try exact h.elim
  cases op <;> simp only at h <;> try exact h.elim
  · exact ⟨_,by rw [Sem.run_bind,eqGuard_run (by simp)]; exact run_eql_bool (P:=P) w t _ _ hu,h⟩
  · exact ⟨_,by rw [Sem.run_bind,eqGuard_run (by simp)]; exact run_neq_bool (P:=P) w t _ _ hu,h⟩
 | ptr =>
  rw [hk] at h
  have hu:∃ e,P.underlying t = some (.pointer e):=by
   unfold kdOf at hk
   split at hk <;> first | exact ⟨_,by assumption⟩ | cases hk
  obtain ⟨e,hu⟩:=hu
  cases x <;> cases y <;> simp only at h <;> try exact h.elim
  rename_i p q
  cases op <;> simp only at h <;> try exact h.elim
  all_goals
   cases q with
   | none=>exact ⟨_,by rw [Sem.run_bind,eqGuard_run (by simp)]; exact run_eq_ptr hu (by simp) (equalIn_ptr_nil hu),h⟩
   | some qa =>
    cases p with
    | none=>exact h.elim
    | some pa =>
     simp only [hu] at h
     obtain ⟨h0,hb,h⟩:=ite_out' h
     exact ⟨_,by rw [Sem.run_bind,eqGuard_run (by simp)]; exact run_eq_ptr hu (by simp) (equalIn_ptr_ptr hu h0 hb),h⟩
 | slice =>
  rw [hk] at h
  have hu:∃ e,P.underlying t = some (.slice e):=by
   unfold kdOf at hk
   split at hk <;> first | exact ⟨_,by assumption⟩ | cases hk
  obtain ⟨e,hu⟩:=hu
  cases x <;> cases y <;> simp only at h <;> try exact h.elim
  rename_i p n c q n' c'
  cases q with
  | some _=>exact h.elim
  | none =>
   cases op <;> simp only at h <;> try exact h.elim
   all_goals exact ⟨_,by rw [Sem.run_bind,eqGuard_run (by simp)]; exact run_eq_slice_nil hu (by simp),h⟩
 | other =>
  rw [hk] at h
  cases op <;> simp only [eqA,runB] at h <;> try exact h.elim
  all_goals
   obtain ⟨h0,b,h1,h2⟩:=h
   exact ⟨_,by rw [Sem.run_bind,eqGuard_any h0]; exact h1,h2⟩
variable {P:Program} {w:World}
theorem cvX_out {s d:TypeId} {x:Value} {K:Value→World→Prop} (h:cvX P s d x w K):∃ v w',(Go.convert s d x).run P w = .ok v w'∧K v w':=by
 unfold cvX at h
 split at h
 · rename_i k hd
   split at h
   · rename_i us hs
     cases x <;> simp only at h <;> try exact h.elim
     refine ⟨_,_,?_,h⟩
     simp only [Go.convert,Sem.run_bind,underlying_run hs,underlying_run hd,Result.andThen_ok]
     cases us <;> simp [Conv.intToInt]
   · exact h.elim
 · rename_i hd
   split at h
   · rename_i hs
     cases x <;> simp only at h <;> try exact h.elim
     refine ⟨_,_,?_,h⟩
     simp only [Go.convert,Sem.run_bind,underlying_run hs,underlying_run hd,Result.andThen_ok]
     simp
   · rename_i e hs
     split at h
     · rename_i he
       cases x <;> simp only at h <;> try exact h.elim
       obtain ⟨b,h1,h2⟩:=h
       refine ⟨_,_,?_,h2⟩
       simp only [Go.convert,Sem.run_bind,underlying_run hs,underlying_run hd,underlying_run he,Result.andThen_ok,h1]
     · exact h.elim
   · exact h.elim
 · obtain ⟨p,n,c,w',h1,h2⟩:=h
   exact ⟨_,_,h1,h2⟩
 · exact h.elim
theorem sliceBound_run {k:IntKind} {i:Int} {y:Nat} {code:BoundsCode} (h:0≤i∧i≤y):(Instr.sliceBound (.int k i) y code).run P w = .ok i.toNat w:=by
 simp [Instr.sliceBound,asIntOf,h]
theorem slB_run {n c:Nat} {lo hi mx:Option Value} {lo' hi' mx':Option Int} {K:Nat→Nat→Nat→Prop} (b:Bool)
 (hlo:∀ v,lo = some v→∃ k i,v = .int k i∧lo' = some i) (hlo':lo = none→lo' = none)
 (hhi:∀ v,hi = some v→∃ k i,v = .int k i∧hi' = some i) (hhi':hi = none→hi' = none)
 (hmx:∀ v,mx = some v→∃ k i,v = .int k i∧mx' = some i) (hmx':mx = none→mx' = none)
 (hnm:¬ (hi' = none∧mx'.isSome)) (h:slB n c lo' hi' mx' K) :
 ∃ l hh m,(Instr.sliceBounds b n c lo hi mx).run P w = .ok (l,hh,m) w∧K l hh m:=by
 obtain ⟨h1,h2,h3,h4⟩:=h
 refine ⟨_,_,_,?_,h4⟩
 have hm:(mx = none∧mx' = none)∨∃ k i,mx = some (.int k i)∧mx' = some i:=by
  cases mx with
  | none=>exact .inl ⟨rfl,hmx' rfl⟩
  | some v=>obtain ⟨k,i,rfl,e⟩:=hmx v rfl; exact .inr ⟨k,i,rfl,e⟩
 have hh:(hi = none∧hi' = none)∨∃ k i,hi = some (.int k i)∧hi' = some i:=by
  cases hi with
  | none=>exact .inl ⟨rfl,hhi' rfl⟩
  | some v=>obtain ⟨k,i,rfl,e⟩:=hhi v rfl; exact .inr ⟨k,i,rfl,e⟩
 have hl:(lo = none∧lo' = none)∨∃ k i,lo = some (.int k i)∧lo' = some i:=by
  cases lo with
  | none=>exact .inl ⟨rfl,hlo' rfl⟩
  | some v=>obtain ⟨k,i,rfl,e⟩:=hlo v rfl; exact .inr ⟨k,i,rfl,e⟩
 clear hlo hlo' hhi hhi' hmx hmx'
 unfold Instr.sliceBounds
 rcases hm with ⟨rfl,rfl⟩ | ⟨km,im,rfl,rfl⟩ <;> rcases hh with ⟨rfl,rfl⟩ | ⟨kh,ih,rfl,rfl⟩ <;> rcases hl with ⟨rfl,rfl⟩ | ⟨kl,il,rfl,rfl⟩ <;>
  first
  | (exact absurd ⟨rfl,rfl⟩ hnm)
  | (simp only [Option.map_none,Option.map_some,Option.getD_none,Option.getD_some,Sem.run_bind,Sem.run_pure,Result.andThen_ok] at *
     (try rw [sliceBound_run (h1 _ rfl)])
     (try simp only [Result.andThen_ok])
     (try rw [sliceBound_run (h2 _ rfl)])
     (try simp only [Result.andThen_ok])
     (try rw [sliceBound_run (h3 _ rfl)])
     (try simp only [Result.andThen_ok]))
theorem evO_out {pa:PF} {a:Act} (hle:pa.le a) {x:Option Operand} {K:Option Int→Prop} (h:evO pa.t x K) :
 ∃ o,K o∧(∀ v,x.map a.eval = some v→∃ k i,v = .int k i∧o = some i)∧(x.map a.eval = none→o = none):=by
 cases x with
 | none=>exact ⟨none,h,by simp,fun _=>rfl⟩
 | some x =>
  obtain ⟨v,h1,h2⟩:=evK_out (K:=fun v=>match v with | .int _ n=>K (some n) | _=>False) h
  have:=ev_sound hle h1
  cases v <;> simp only at h2
  exact ⟨_,h2,by simp [this],by simp⟩
theorem slX_out {ty:TypeId} {v:Value} {lo hi mx:Option Value} {lo' hi' mx':Option Int} {K:Value→World→Prop}
 (hlo:∀ v,lo = some v→∃ k i,v = .int k i∧lo' = some i) (hlo':lo = none→lo' = none)
 (hhi:∀ v,hi = some v→∃ k i,v = .int k i∧hi' = some i) (hhi':hi = none→hi' = none)
 (hmx:∀ v,mx = some v→∃ k i,v = .int k i∧mx' = some i) (hmx':mx = none→mx' = none)
 (h:slX P ty v lo' hi' mx' w K):∃ v' w',(Instr.sliceAt ty v lo hi mx).run P w = .ok v' w'∧K v' w':=by
 unfold slX at h
 split at h
 · rename_i e hu
   cases v <;> simp only at h <;> try exact h.elim
   rename_i p n c
   have h':¬ (hi' = none∧mx'.isSome)∧(P.info? e).isSome = true∧slL p n c (sizeT P e) lo' hi' mx' (fun p n c=>K (.slice p n c) w):=by
    cases hi' <;> cases mx' <;> simp only at h <;> first | exact h.elim | (obtain ⟨a,b⟩:=ite_out h; exact ⟨by simp,a,b⟩)
   obtain ⟨hn,hi,h⟩:=h'
   obtain ⟨l,hh,m,h1,h2⟩:=slB_run (P:=P) (w:=w) true hlo hlo' hhi hhi' hmx hmx' hn h
   refine ⟨_,_,?_,h2⟩
   have hr:=underlying_run (P:=P) (w:=w) hu
   simp only [Instr.sliceAt,Instr.slice,Sem.run_bind,hr,Result.andThen_ok,h1,sizeOf_run P e w hi,Sem.run_pure]
 · rename_i hu
   cases v <;> (try (simp only at h; done)) <;> (try exact h.elim)
   rename_i s
   cases mx' with
   | some _=>exact h.elim
   | none =>
    have hmn:mx = none:=by
     cases mx with
     | none=>rfl
     | some v=>obtain ⟨k,i,_,e⟩:=hmx v rfl; cases e
    subst hmn
    obtain ⟨l,hh,m,h1,h2⟩:=slB_run (P:=P) (w:=w) false hlo hlo' hhi hhi' hmx hmx' (by simp) h
    refine ⟨_,_,?_,h2⟩
    have hr:=underlying_run (P:=P) (w:=w) hu
    simp only [Instr.sliceAt,Instr.slice,Sem.run_bind,hr,Result.andThen_ok,h1,Option.isSome_none,Bool.false_eq_true,if_false,Sem.run_pure]
 · rename_i n e hu
   cases v <;> simp only at h <;> try exact h.elim
   rename_i p
   obtain ⟨a,rfl,h⟩:=nn_out h
   have h':¬ (hi' = none∧mx'.isSome)∧(P.info? e).isSome = true∧slL (some a) n n (sizeT P e) lo' hi' mx' (fun p n c=>K (.slice p n c) w):=by
    cases hi' <;> cases mx' <;> simp only at h <;> first | exact h.elim | (obtain ⟨a,b⟩:=ite_out h; exact ⟨by simp,a,b⟩)
   obtain ⟨hn,hi,h⟩:=h'
   obtain ⟨l,hh,m,h1,h2⟩:=slB_run (P:=P) (w:=w) false hlo hlo' hhi hhi' hmx hmx' hn h
   refine ⟨_,_,?_,h2⟩
   have hr:=underlying_run (P:=P) (w:=w) hu
   simp only [Instr.sliceAt,Sem.run_bind,hr,Result.andThen_ok,Instr.sureAddr,h1,sizeOf_run P e w hi,Sem.run_pure]
   split <;> simp_all
 · exact h.elim
theorem setAll_eq (vs:List Value):∀ (off:Nat) (cs:Array Value) (k:Nat),(vs.toArray.zipIdx k).foldl (fun cs (c,j)=>cs.setIfInBounds (off + j) c) cs = (setAll (off + k) vs cs.toList).toArray:=by
 induction vs with
 | nil=>intro off cs k; rfl
 | cons v r ih =>
  intro off cs k
  have:((v :: r).toArray.zipIdx k) = #[(v,k)] ++ (r.toArray.zipIdx (k + 1)):=by
   apply Array.toList_inj.1; simp
  rw [this,Array.foldl_append]
  simp only [List.foldl_toArray,List.foldl_cons,List.foldl_nil]
  rw [ih off _ (k + 1)]
  simp only [setAll,Array.toList_setIfInBounds,Nat.add_assoc]
theorem fill_eq (place:Nat→Option (Nat×Nat)):∀ (parts:List (Nat×Value)) (cs:List Value) (out:List Value),fillX place cs parts = some out→Instr.fill place cs.toArray parts = some out.toArray:=by
 intro parts
 induction parts with
 | nil=>intro cs out h; simp only [fillX,Option.some.injEq] at h; subst h; rfl
 | cons x r ih =>
  obtain ⟨i,v⟩:=x
  intro cs out h
  simp only [fillX] at h
  simp only [Instr.fill]
  cases hp:place i with
  | none=>rw [hp] at h; cases h
  | some os =>
   obtain ⟨off,size⟩:=os
   rw [hp] at h
   simp only at h ⊢
   split at h
   · cases h
   · rename_i hc
     have hc':¬ (v.cells.size≠size || off + v.cells.size > cs.toArray.size) = true:=by
      rw [cellsL_eq] at hc; simpa using hc
     rw [if_neg hc']
     have h2:=ih _ _ h
     rw [← h2]
     congr 1
     have:=setAll_eq v.cells.toList off cs.toArray 0
     rw [cellsL_eq]
     simpa using this
theorem mapM_run {α β:Type} (f:α→Sem β) (g:α→β) (xs:List α) (h:∀ x∈xs,(f x).run P w = .ok (g x) w):(xs.mapM f).run P w = .ok (xs.map g) w:=by
 induction xs with
 | nil=>rfl
 | cons x r ih =>
  rw [List.mapM_cons,Sem.run_bind,h x (by simp)]
  simp only [Result.andThen_ok,Sem.run_bind,ih (fun y hy=>h y (by simp [hy])),Sem.run_pure,List.map_cons]
theorem build_out {ty:TypeId} {parts:List (Nat×Value)} {cs:List Value} (h:buildX P ty parts = some cs):(Instr.build ty parts.toArray).run P w = .ok (.agg cs.toArray) w:=by
 unfold buildX at h
 split at h
 · cases h
 · rename_i z hz
   obtain ⟨zv,hz1,hz2⟩:=zeroC_run hz w
   split at h
   · rename_i fs hu
     split at h
     · rename_i hall
       have hr:=underlying_run (P:=P) (w:=w) hu
       have hm:(fs.mapM fun f=>(do pure (f.offset,← sizeOf f.type):Sem (Nat×Nat))).run P w = .ok (fs.map fun f=>(f.offset,sizeT P f.type)) w:=by
        rw [Array.mapM_eq_mapM_toList,Sem.run_map,mapM_run _ (fun f=>(f.offset,sizeT P f.type))]
        · simp only [Result.andThen_ok]; congr 1; apply Array.toList_inj.1; simp
        · intro f hf
          have:=List.all_eq_true.1 hall f hf
          simp only [Sem.run_bind,sizeOf_run P f.type w (by simpa using this),Result.andThen_ok,Sem.run_pure]
       have hf:=fill_eq _ _ _ _ h
       have hp:(fun i:Nat=>(fs.map fun f=>(f.offset,sizeT P f.type))[i]?) = fun i=>(fs.toList[i]?).map fun f=>(f.offset,sizeT P f.type):=by
        funext i; simp
       simp only [Instr.build,Sem.run_bind,hz1,Result.andThen_ok,hr,hm,hz2,hp,hf,Sem.run_pure]
     · cases h
   · rename_i n e hu
     split at h
     · rename_i hi
       have hr:=underlying_run (P:=P) (w:=w) hu
       have hf:=fill_eq _ _ _ _ h
       simp only [Instr.build,Sem.run_bind,hz1,Result.andThen_ok,hr,sizeOf_run P e w hi,hz2,hf,Sem.run_pure]
     · cases h
   · cases h
theorem buildS_out {ty e:TypeId} {len:Nat} {parts:List (Nat×Value)} {cs:List Value} (hu:P.underlying ty = some (.slice e)) (h:buildSX P e len parts = some cs) :
 (Instr.buildSlice ty len parts.toArray).run P w = .ok (.slice (some ⟨w.heap.size,0,none⟩) len len) (w.alloc (.cells cs.toArray e)):=by
 unfold buildSX at h
 split at h
 · rename_i h0
   split at h
   · cases h
   · rename_i hi
     have hi:(P.info? e).isSome:=by cases hx:P.info? e <;> simp_all
     have hr:=underlying_run (P:=P) (w:=w) hu
     cases parts with
     | cons x r=>cases h
     | nil =>
      cases h
      simp only [Instr.buildSlice,Sem.run_bind,hr,Result.andThen_ok,sizeOf_run P e w hi,h0,if_neg (show ¬ 0 > 2 ^ 24 by omega),if_true,Sem.run_pure,Sem.run_ite]
      simp only [List.toArray,Instr.fill]
      have e0:(Array.map (fun x=>(default:Value)) (Array.range 0)) = #[]:=by apply Array.toList_inj.1; simp
      simp [Instr.fill,run_newRow,e0]
 split at h
 · cases h
 · rename_i hc
   split at h
   · cases h
   · rename_i z hz
     split at h
     · cases h
     · rename_i hzl
       obtain ⟨zv,hz1,hz2⟩:=zeroC_run hz w
       simp only [Bool.or_eq_true,decide_eq_true_eq,not_or] at hc
       obtain ⟨⟨hc1,hc2⟩,hc3⟩:=hc
       have hi:(P.info? e).isSome:=by cases hx:P.info? e <;> simp_all
       have hr:=underlying_run (P:=P) (w:=w) hu
       have hf:=fill_eq _ _ _ _ h
       have hzz:((Array.range (len * sizeT P e)).map (z.toArray[· % z.toArray.size]!)) = (zerosL z (len * sizeT P e)).toArray:=by
        apply Array.toList_inj.1
        simp only [Array.toList_map,Array.toList_range,zerosL,List.size_toArray]
        apply List.map_congr_left
        intro i hi
        have hz0:0 < z.length:=by
         rcases Nat.eq_zero_or_pos z.length with h0 | h0
         · exfalso; apply hc3; have:sizeT P e = 0:=by omega
           simp [this]
         · exact h0
        have hm:i % z.length < z.length:=Nat.mod_lt _ hz0
        simp [List.getD_eq_getElem?_getD,hm,getElem!_pos]
       simp only [Instr.buildSlice,Sem.run_bind,hr,Result.andThen_ok,sizeOf_run P e w hi,if_neg hc2,if_neg hc3,hz1,hz2,Sem.run_pure,hzz,hf,run_newRow,Sem.run_ite]
theorem partX_out {t:TypeId} {cs:Array Value} {off:Nat} {K:Value→Prop} (h:partX P t cs.toList off K):∃ v,(part t cs off).run P w = .ok v w∧K v:=by
 unfold partX at h
 split at h
 · exact h.elim
 rename_i hu
 have hu:(P.underlying t).isSome:=by cases hx:P.underlying t <;> simp_all
 have ha:=isAgg_run' P t w hu
 obtain ⟨d,hd⟩:=Option.isSome_iff_exists.1 hu
 obtain ⟨i,hi⟩:=info_of_underlying hd
 split at h
 · rename_i hb
   refine ⟨_,?_,h⟩
   simp only [part,Sem.run_bind,ha,hb,Result.andThen_ok,if_true,sizeOf_run P t w (by simp [hi]),Sem.run_pure]
   congr 2
   apply Array.toList_inj.1
   simp [List.take_drop]
   try (congr 1; omega)
 · rename_i hb
   split at h
   · rename_i v hv
     refine ⟨v,?_,h⟩
     have hv':cs[off]? = some v:=by
      have:∀ (l:List Value) (n:Nat),nthL l n = l[n]?:=by
       intro l; induction l with
       | nil=>intro n; rfl
       | cons x r ih=>intro n; cases n <;> simp [nthL,ih]
      rw [this] at hv; simpa using hv
     simp only [part,Sem.run_bind,ha,hb,Result.andThen_ok,Bool.false_eq_true,if_false,hv',Sem.run_pure]
   · exact h.elim
theorem nthL_eq (l:List Value):∀ n,nthL l n = l[n]?:=by
 induction l with
 | nil=>intro n; rfl
 | cons x r ih=>intro n; cases n <;> simp [nthL,ih]
theorem elX_out {t:TypeId} {cs:Array Value} {off:Nat} {K:Value→Prop} (h:elX P t cs.toList off K):∃ v,(part t cs off).run P w = .ok v w∧∃ u,v = u∧isT P t u K:=by
 unfold elX at h
 split at h
 · exact h.elim
 rename_i hu
 have hu:(P.underlying t).isSome:=by cases hx:P.underlying t <;> simp_all
 have ha:=isAgg_run' P t w hu
 split at h
 · exact h.elim
 · rename_i hb
   obtain ⟨v,h1,h2⟩:=h
   refine ⟨v,?_,v,rfl,h2⟩
   have hv':cs[off]? = some v:=by simpa using h1
   simp only [part,Sem.run_bind,ha,hb,Result.andThen_ok,Bool.false_eq_true,if_false,hv',Sem.run_pure]
variable {P:Program} {w:World}
theorem exK_out {kds:List Kd} {K:List Value→Prop} (h:exK kds K):∃ vs,K vs:=by
 induction kds generalizing K with
 | nil=>exact ⟨_,h⟩
 | cons kd r ih =>
  cases kd <;> simp only [exK] at h
  · obtain ⟨n,h⟩:=h; obtain ⟨vs,h⟩:=ih h; exact ⟨_,h⟩
  · obtain ⟨n,h⟩:=h; obtain ⟨vs,h⟩:=ih h; exact ⟨_,h⟩
  · obtain ⟨n,h⟩:=h; obtain ⟨vs,h⟩:=ih h; exact ⟨_,h⟩
  · obtain ⟨n,h⟩:=h; obtain ⟨vs,h⟩:=ih h; exact ⟨_,h⟩
  · obtain ⟨p,n,c,h⟩:=h; obtain ⟨vs,h⟩:=ih h; exact ⟨_,h⟩
  · obtain ⟨n,h⟩:=h; obtain ⟨vs,h⟩:=ih h; exact ⟨_,h⟩
theorem exT_out {t:TypeId} {K:Value→Prop} (h:exT P t K):∃ v,K v:=by
 unfold exT at h
 split at h
 · obtain ⟨vs,h⟩:=exK_out h; exact ⟨_,h⟩
 · split at h
   · exact ⟨_,h.choose_spec⟩
   · exact ⟨_,h.choose_spec⟩
   · exact ⟨_,h.choose_spec⟩
   · exact ⟨_,h.choose_spec⟩
   · obtain ⟨p,n,c,h⟩:=h; exact ⟨_,h⟩
   · exact ⟨_,h.choose_spec⟩
theorem exTs_out {ts:List TypeId} {K:List Value→Prop} (h:exTs P ts K):∃ vs,K vs:=by
 induction ts generalizing K with
 | nil=>exact ⟨_,h⟩
 | cons t r ih=>simp only [exTs] at h; obtain ⟨v,h⟩:=exT_out h; obtain ⟨vs,h⟩:=ih h; exact ⟨_,h⟩
theorem isT_out {t:TypeId} {v:Value} {K:Value→Prop} (h:isT P t v K):K v:=by
 unfold isT at h
 split at h
 · obtain ⟨vs,h1,h2⟩:=exTs_out h; rw [h1]; exact h2
 · obtain ⟨v',h1,h2⟩:=exT_out h; rw [h1]; exact h2
theorem value_run {s:Sem Value} {v:Value} {w':World} (h:s.run P w = .ok v w'):(do pure (Next.value (← s)):Sem Next).run P w = .ok (.value v) w':=by
 rw [Sem.run_bind,h]; rfl
def OkOp (P:Program) (o:Oper) (a:Act) (w:World) (K:Value→World→Prop):Prop :=
 ∃ v w',K v w'∧((execOp a.eval o).run P w = .ok (.value v) w'∨(v = undef∧(execOp a.eval o).run P w = .ok .skip w'))
theorem mxI_out {k:IntKind} {K:Int→Prop}:∀ (r:List Value) (x:Int),mxI k K x r→∃ n,(r.foldlM Builtin.max2 (.int k x)).run P w = .ok (.int k n) w∧K n:=by
 intro r
 induction r with
 | nil=>intro x h; exact ⟨x,rfl,h⟩
 | cons y r ih =>
  intro x h
  cases y <;> simp only [mxI] at h
  obtain ⟨e,h'⟩:=ite_out h
  subst e
  obtain ⟨n,h1,h2⟩:=ih _ h'
  exact ⟨n,by rw [List.foldlM_cons,Sem.run_bind]; exact h1,h2⟩
theorem mnI_out {k:IntKind} {K:Int→Prop}:∀ (r:List Value) (x:Int),mnI k K x r→∃ n,(r.foldlM Builtin.min2 (.int k x)).run P w = .ok (.int k n) w∧K n:=by
 intro r
 induction r with
 | nil=>intro x h; exact ⟨x,rfl,h⟩
 | cons y r ih =>
  intro x h
  cases y <;> simp only [mnI] at h
  obtain ⟨e,h'⟩:=ite_out h
  subst e
  obtain ⟨n,h1,h2⟩:=ih _ h'
  exact ⟨n,by rw [List.foldlM_cons,Sem.run_bind]; exact h1,h2⟩
theorem len_run {ats:Array TypeId} {ty t:TypeId} {r:List TypeId} {v:Value} {vr:List Value} {n:Nat} (ha:ats.toList = t :: r)
 (h:(P.underlying t = some .string∧∃ s,v = .string s∧n = s.size)∨((∃ e,P.underlying t = some (.slice e))∧∃ p c,v = .slice p n c)∨∃ e,P.underlying t = some (.array n e)) :
 (Builtin.len_ ats ty (v :: vr).toArray).run P w = .ok (.int .i64 n) w:=by
 have h0:ats[0]? = some t:=by rw [← Array.getElem?_toList,ha]; rfl
 rcases h with ⟨hu,s,rfl,rfl⟩ | ⟨⟨e,hu⟩,p,c,rfl⟩ | ⟨e,hu⟩
 · simp [Builtin.len_,h0,underlying_run hu,goInt]
 · simp [Builtin.len_,h0,underlying_run hu,goInt]
 · simp [Builtin.len_,h0,underlying_run hu,goInt]
theorem cap_run {ats:Array TypeId} {ty t e:TypeId} {r:List TypeId} {vr:List Value} {p:Option Addr} {n c:Nat} (ha:ats.toList = t :: r) (hu:P.underlying t = some (.slice e)) :
 (Builtin.cap_ ats ty (.slice p n c :: vr).toArray).run P w = .ok (.int .i64 c) w:=by
 have h0:ats[0]? = some t:=by rw [← Array.getElem?_toList,ha]; rfl
 simp [Builtin.cap_,h0,underlying_run hu,goInt]
theorem builtX_out {b:Builtin} {ats:Array TypeId} {ty:TypeId} {cs:Array Bool} {vs:List Value} {K:Value→World→Prop} (h:builtX P b ats ty vs w K) :
 ∃ v w',K v w'∧(Go.builtin b ats ty cs vs.toArray).run P w = .ok (.value v) w':=by
 unfold builtX at h
 split at h
 · -- len
   split at h
   · rename_i t r v vr ha
     split at h
     · rename_i hu
       split at h
       · exact ⟨_,_,h,value_run (len_run ha (.inl ⟨hu,_,rfl,rfl⟩))⟩
       · exact h.elim
     · rename_i e hu
       split at h
       · exact ⟨_,_,h,value_run (len_run ha (.inr (.inl ⟨⟨_,hu⟩,_,_,rfl⟩)))⟩
       · exact h.elim
     · rename_i hu
       exact ⟨_,_,h,value_run (len_run ha (.inr (.inr ⟨_,hu⟩)))⟩
     · exact h.elim
   · exact h.elim
 · -- cap
   split at h
   · rename_i t r v vr ha
     split at h
     · rename_i e hu
       split at h
       · exact ⟨_,_,h,value_run (cap_run ha hu)⟩
       · exact h.elim
     · exact h.elim
   · exact h.elim
 · -- max
   split at h
   · obtain ⟨n,h1,h2⟩:=mxI_out (P:=P) (w:=w) _ _ h
     exact ⟨_,_,h2,value_run (by simpa [Builtin.max_] using h1)⟩
   · exact h.elim
 · -- min
   split at h
   · obtain ⟨n,h1,h2⟩:=mnI_out (P:=P) (w:=w) _ _ h
     exact ⟨_,_,h2,value_run (by simpa [Builtin.min_] using h1)⟩
   · exact h.elim
 · obtain ⟨p,n,c,w',h1,h2⟩:=h; exact ⟨_,_,h2,value_run h1⟩
 · obtain ⟨n,w',h1,h2⟩:=h; exact ⟨_,_,h2,value_run h1⟩
 · obtain ⟨v,w',h1,h2,h3⟩:=h; subst h2; exact ⟨_,w',h3,value_run h1⟩
 · exact h.elim
theorem toArray_map {xs:Array Operand} {a:Act} {vs:List Value} (h:xs.toList.map a.eval = vs):xs.map a.eval = vs.toArray:=map_toArray h
theorem parts_map {xs:Array (Nat×Operand)} {a:Act} {vs:List Value} (h:(xs.toList.map (·.2)).map a.eval = vs):(xs.map fun x=>(x.1,a.eval x.2)) = ((xs.toList.map (·.1)).zip vs).toArray:=by
 subst h
 apply Array.toList_inj.1
 simp only [Array.toList_map]
 induction xs.toList with
 | nil=>rfl
 | cons x r ih=>simp [ih]
theorem enters_out {f : FuncId} (h : enters P f = true) : ∃ fn, P.funcs[f]? = some fn ∧ fn.body.isSome = true ∧ (fn.name == "runtime.NumGoroutine") = false := by
 unfold enters at h
 split at h
 · rename_i fn hf
   simp only [Bool.and_eq_true,Bool.not_eq_true'] at h
   exact ⟨fn,hf,h.1,h.2⟩
 · cases h
set_option maxHeartbeats 1000000 in
theorem op_move {pa:PF} {a:Act} (hle:pa.le a) {dst:Option Tmp} {ty:TypeId} {pos:String} {after:Array Edge} {guard:Option (Nat×Bool)} {K:Value→World→Prop} (x:Operand) (h:opX P pa.t ⟨dst,.move x,ty,pos,after,guard⟩ w K):OkOp P ⟨dst,.move x,ty,pos,after,guard⟩ a w K:=by
 simp only [opX] at h
 obtain ⟨v,h1,h2⟩:=evK_out h; exact ⟨v,w,h2,.inl (by simp [execOp,ev_sound hle h1])⟩
set_option maxHeartbeats 1000000 in
theorem op_assign {pa:PF} {a:Act} (hle:pa.le a) {dst:Option Tmp} {ty:TypeId} {pos:String} {after:Array Edge} {guard:Option (Nat×Bool)} {K:Value→World→Prop} (x:Operand) (h:opX P pa.t ⟨dst,.assign x,ty,pos,after,guard⟩ w K):OkOp P ⟨dst,.assign x,ty,pos,after,guard⟩ a w K:=by
 simp only [opX] at h
 obtain ⟨v,h1,h2⟩:=evK_out h; exact ⟨v,w,h2,.inl (by simp [execOp,ev_sound hle h1])⟩
set_option maxHeartbeats 1000000 in
theorem op_pick {pa:PF} {a:Act} (hle:pa.le a) {dst:Option Tmp} {ty:TypeId} {pos:String} {after:Array Edge} {guard:Option (Nat×Bool)} {K:Value→World→Prop} (c x y:Operand) (h:opX P pa.t ⟨dst,.pick c x y,ty,pos,after,guard⟩ w K):OkOp P ⟨dst,.pick c x y,ty,pos,after,guard⟩ a w K:=by
 simp only [opX] at h
 obtain ⟨v,h1,h2⟩:=evK_out h
 have e:=ev_sound hle h1
 cases v <;> simp only at h2
 rename_i b
 cases b
 · obtain ⟨v,h3,h4⟩:=evK_out h2
   exact ⟨v,w,h4,.inl (by simp [execOp,e,asBool,ev_sound hle h3])⟩
 · obtain ⟨v,h3,h4⟩:=evK_out h2
   exact ⟨v,w,h4,.inl (by simp [execOp,e,asBool,ev_sound hle h3])⟩
set_option maxHeartbeats 1000000 in
theorem op_alloc {pa:PF} {a:Act} (hle:pa.le a) {dst:Option Tmp} {ty:TypeId} {pos:String} {after:Array Edge} {guard:Option (Nat×Bool)} {K:Value→World→Prop} (e:TypeId) (h:opX P pa.t ⟨dst,.alloc e,ty,pos,after,guard⟩ w K):OkOp P ⟨dst,.alloc e,ty,pos,after,guard⟩ a w K:=by
 simp only [opX] at h
 split at h
 · rename_i cs hz
   obtain ⟨z,h1,h2⟩:=zeroC_run hz w
   refine ⟨_,_,h,.inl (value_run (s:=Instr.alloc e true (.tuple #[])) ?_)⟩
   simp only [Instr.alloc,Sem.run_bind,h1,Result.andThen_ok,run_newVar,Sem.run_pure,h2]
 · exact h.elim
set_option maxHeartbeats 1000000 in
theorem op_box {pa:PF} {a:Act} (hle:pa.le a) {dst:Option Tmp} {ty:TypeId} {pos:String} {after:Array Edge} {guard:Option (Nat×Bool)} {K:Value→World→Prop} (e:TypeId) (x:Operand) (h:opX P pa.t ⟨dst,.box e x,ty,pos,after,guard⟩ w K):OkOp P ⟨dst,.box e x,ty,pos,after,guard⟩ a w K:=by
 simp only [opX] at h
 obtain ⟨v,h1,h2⟩:=evK_out h
 have ee:=ev_sound hle h1
 refine ⟨_,_,(?_:K (.pointer (some ⟨w.heap.size,0,none⟩)) (w.alloc (.cells v.cells e))),.inl (value_run (s:=Instr.box e (a.eval x)) ?_)⟩
 · split at h2
   · rw [cellsL_eq] at h2; simpa [alc] using h2
   · obtain ⟨_,hcs,h3⟩:=oneK_out h2; rw [hcs]; exact h3
 · simp only [Instr.box,Sem.run_bind,run_newVar,Result.andThen_ok,Sem.run_pure,ee]
set_option maxHeartbeats 1000000 in
theorem op_build {pa:PF} {a:Act} (hle:pa.le a) {dst:Option Tmp} {ty:TypeId} {pos:String} {after:Array Edge} {guard:Option (Nat×Bool)} {K:Value→World→Prop} (t:TypeId) (parts:Array (Nat×Operand)) (h:opX P pa.t ⟨dst,.build t parts,ty,pos,after,guard⟩ w K):OkOp P ⟨dst,.build t parts,ty,pos,after,guard⟩ a w K:=by
 simp only [opX] at h
 obtain ⟨vs,h1,h2⟩:=evsK_out h
 split at h2
 · rename_i cs hb
   refine ⟨_,_,h2,.inl (value_run (s:=Instr.build t (parts.map fun x=>(x.1,a.eval x.2))) ?_)⟩
   rw [parts_map (evs_sound hle h1)]; exact build_out hb
 · exact h2.elim
set_option maxHeartbeats 1000000 in
theorem op_buildSlice {pa:PF} {a:Act} (hle:pa.le a) {dst:Option Tmp} {ty:TypeId} {pos:String} {after:Array Edge} {guard:Option (Nat×Bool)} {K:Value→World→Prop} (t:TypeId) (len:Nat) (parts:Array (Nat×Operand)) (h:opX P pa.t ⟨dst,.buildSlice t len parts,ty,pos,after,guard⟩ w K):OkOp P ⟨dst,.buildSlice t len parts,ty,pos,after,guard⟩ a w K:=by
 simp only [opX] at h
 split at h
 · rename_i e hu
   obtain ⟨vs,h1,h2⟩:=evsK_out h
   split at h2
   · rename_i cs hb
     have h3:K (.slice (some ⟨w.heap.size,0,none⟩) len len) (w.alloc (.cells cs.toArray e)):=h2
     have h4:=buildS_out (P:=P) (w:=w) hu hb
     rw [← parts_map (evs_sound hle h1)] at h4
     exact ⟨_,_,h3,.inl (value_run h4)⟩
   · exact h2.elim
 · exact h.elim
set_option maxHeartbeats 1000000 in
theorem op_load {pa:PF} {a:Act} (hle:pa.le a) {dst:Option Tmp} {ty:TypeId} {pos:String} {after:Array Edge} {guard:Option (Nat×Bool)} {K:Value→World→Prop} (t:TypeId) (x:Operand) (h:opX P pa.t ⟨dst,.load t x,ty,pos,after,guard⟩ w K):OkOp P ⟨dst,.load t x,ty,pos,after,guard⟩ a w K:=by
 simp only [opX] at h
 obtain ⟨p,h1,h2⟩:=evK_out h
 cases p <;> simp only at h2
 obtain ⟨ad,rfl,h3⟩:=nn_out h2
 obtain ⟨v,h4,h5⟩:=ldT_out h3
 exact ⟨_,w,h5,.inl (value_run (s:=Instr.loadAt t (a.eval x)) (by simp [Instr.loadAt,Instr.sureAddr,ev_sound hle h1,h4]))⟩
set_option maxHeartbeats 1000000 in
theorem op_store {pa:PF} {a:Act} (hle:pa.le a) {dst:Option Tmp} {ty:TypeId} {pos:String} {after:Array Edge} {guard:Option (Nat×Bool)} {K:Value→World→Prop} (t:TypeId) (x y:Operand) (h:opX P pa.t ⟨dst,.store t x y,ty,pos,after,guard⟩ w K):OkOp P ⟨dst,.store t x y,ty,pos,after,guard⟩ a w K:=by
 simp only [opX] at h
 obtain ⟨p,h1,h2⟩:=evK_out h
 obtain ⟨v,h3,h4⟩:=evK_out h2
 cases p <;> simp only at h4
 obtain ⟨ad,rfl,h5⟩:=nn_out h4
 obtain ⟨w',h6,h7⟩:=stT_out h5
 refine ⟨_,w',h7,.inr ⟨rfl,?_⟩⟩
 simp [execOp,Instr.storeAt,Instr.sureAddr,ev_sound hle h1,ev_sound hle h3,h6]
set_option maxHeartbeats 1000000 in
theorem op_nilCheck {pa:PF} {a:Act} (hle:pa.le a) {dst:Option Tmp} {ty:TypeId} {pos:String} {after:Array Edge} {guard:Option (Nat×Bool)} {K:Value→World→Prop} (x:Operand) (h:opX P pa.t ⟨dst,.nilCheck x,ty,pos,after,guard⟩ w K):OkOp P ⟨dst,.nilCheck x,ty,pos,after,guard⟩ a w K:=by
 simp only [opX] at h
 obtain ⟨v,h1,h2⟩:=evK_out h
 have e:=ev_sound hle h1
 cases v with
 | pointer p =>
  obtain ⟨ad,rfl,h3⟩:=nn_out h2
  exact ⟨_,w,h3,.inl (by simp only [execOp,e]; rfl)⟩
 | func fn f c =>
  cases fn with
  | method n=>exact h2.elim
  | _=>exact ⟨_,w,h2,.inl (by simp only [execOp,e]; rfl)⟩
 | nilFunc=>exact h2.elim
 | nilIface=>exact h2.elim
 | _=>exact ⟨_,w,h2,.inl (by simp only [execOp,e]; rfl)⟩
set_option maxHeartbeats 1000000 in
theorem op_binOp {pa:PF} {a:Act} (hle:pa.le a) {dst:Option Tmp} {ty:TypeId} {pos:String} {after:Array Edge} {guard:Option (Nat×Bool)} {K:Value→World→Prop} (op:BinOp) (t:TypeId) (x y:Operand) (t':TypeId) (h:opX P pa.t ⟨dst,.binOp op t x y t',ty,pos,after,guard⟩ w K):OkOp P ⟨dst,.binOp op t x y t',ty,pos,after,guard⟩ a w K:=by
 simp only [opX] at h
 obtain ⟨vx,h1,h2⟩:=evK_out h
 obtain ⟨vy,h3,h4⟩:=evK_out h2
 obtain ⟨v,h5,h6⟩:=binX_out (ox:=x) (oy:=y) h4
 refine ⟨v,w,h6,.inl ?_⟩
 rw [← ev_sound hle h1,← ev_sound hle h3] at h5
 exact value_run h5
set_option maxHeartbeats 1000000 in
theorem op_unOp {pa:PF} {a:Act} (hle:pa.le a) {dst:Option Tmp} {ty:TypeId} {pos:String} {after:Array Edge} {guard:Option (Nat×Bool)} {K:Value→World→Prop} (op:UnOp) (t:TypeId) (x:Operand) (h:opX P pa.t ⟨dst,.unOp op t x,ty,pos,after,guard⟩ w K):OkOp P ⟨dst,.unOp op t x,ty,pos,after,guard⟩ a w K:=by
 simp only [opX] at h
 obtain ⟨vx,h1,h2⟩:=evK_out h
 have e:=ev_sound hle h1
 cases op <;> cases vx <;> simp only [unX] at h2 <;> try exact h2.elim
 · exact ⟨_,w,h2,.inl (by simp [execOp,e,Op.unary,Op.intArith])⟩
 · exact ⟨_,w,h2,.inl (by simp [execOp,e,Op.unary,Op.intBits,bitX])⟩
 · exact ⟨_,w,h2,.inl (by simp [execOp,e,Op.unary])⟩
set_option maxHeartbeats 1000000 in
theorem op_convert {pa:PF} {a:Act} (hle:pa.le a) {dst:Option Tmp} {ty:TypeId} {pos:String} {after:Array Edge} {guard:Option (Nat×Bool)} {K:Value→World→Prop} (s d:TypeId) (x:Operand) (h:opX P pa.t ⟨dst,.convert s d x,ty,pos,after,guard⟩ w K):OkOp P ⟨dst,.convert s d x,ty,pos,after,guard⟩ a w K:=by
 simp only [opX] at h
 obtain ⟨vx,h1,h2⟩:=evK_out h
 obtain ⟨v,w',h3,h4⟩:=cvX_out h2
 exact ⟨v,w',h4,.inl (by rw [← ev_sound hle h1] at h3; exact value_run h3)⟩
set_option maxHeartbeats 1000000 in
theorem op_makeInterface {pa:PF} {a:Act} (hle:pa.le a) {dst:Option Tmp} {ty:TypeId} {pos:String} {after:Array Edge} {guard:Option (Nat×Bool)} {K:Value→World→Prop} (t:TypeId) (x:Operand) (h:opX P pa.t ⟨dst,.makeInterface t x,ty,pos,after,guard⟩ w K):OkOp P ⟨dst,.makeInterface t x,ty,pos,after,guard⟩ a w K:=by
 simp only [opX] at h
 obtain ⟨vx,h1,h2⟩:=evK_out h
 split at h2
 · exact h2.elim
 · rename_i d hd hu
   refine ⟨_,w,h2,.inl (value_run (s:=Instr.makeInterface t (a.eval x)) ?_)⟩
   simp only [Instr.makeInterface,Sem.run_bind,underlying_run hu,Result.andThen_ok,ev_sound hle h1]
   cases d <;> first | rfl | simp_all
 · exact h2.elim
set_option maxHeartbeats 1000000 in
theorem op_makeFunc {pa:PF} {a:Act} (hle:pa.le a) {dst:Option Tmp} {ty:TypeId} {pos:String} {after:Array Edge} {guard:Option (Nat×Bool)} {K:Value→World→Prop} (fn:Fn) (first cap:Array Operand) (h:opX P pa.t ⟨dst,.makeFunc fn first cap,ty,pos,after,guard⟩ w K):OkOp P ⟨dst,.makeFunc fn first cap,ty,pos,after,guard⟩ a w K:=by
 simp only [opX] at h
 obtain ⟨vs,h1,h2⟩:=evsK_out h
 obtain ⟨cs,h3,h4⟩:=evsK_out h2
 refine ⟨_,w,h4,.inl ?_⟩
 simp [execOp,Instr.makeFunc,toArray_map (evs_sound hle h1),toArray_map (evs_sound hle h3)]
set_option maxHeartbeats 1000000 in
theorem op_makeSlice {pa:PF} {a:Act} (hle:pa.le a) {dst:Option Tmp} {ty:TypeId} {pos:String} {after:Array Edge} {guard:Option (Nat×Bool)} {K:Value→World→Prop} (t:TypeId) (l c:Operand) (h:opX P pa.t ⟨dst,.makeSlice t l c,ty,pos,after,guard⟩ w K):OkOp P ⟨dst,.makeSlice t l c,ty,pos,after,guard⟩ a w K:=by
 simp only [opX] at h
 obtain ⟨vl,h1,h2⟩:=evK_out h
 obtain ⟨vc,h3,p,n,cc,w',h4,h5⟩:=evK_out h2
 refine ⟨_,w',h5,.inl ?_⟩
 rw [← ev_sound hle h1,← ev_sound hle h3] at h4
 exact value_run h4
set_option maxHeartbeats 1000000 in
theorem op_slice {pa:PF} {a:Act} (hle:pa.le a) {dst:Option Tmp} {ty:TypeId} {pos:String} {after:Array Edge} {guard:Option (Nat×Bool)} {K:Value→World→Prop} (t:TypeId) (x:Operand) (lo hi mx:Option Operand) (h:opX P pa.t ⟨dst,.slice t x lo hi mx,ty,pos,after,guard⟩ w K):OkOp P ⟨dst,.slice t x lo hi mx,ty,pos,after,guard⟩ a w K:=by
 simp only [opX] at h
 obtain ⟨v,h1,h2⟩:=evK_out h
 obtain ⟨lo',h3,hl1,hl2⟩:=evO_out hle h2
 obtain ⟨hi',h4,hh1,hh2⟩:=evO_out hle h3
 obtain ⟨mx',h5,hm1,hm2⟩:=evO_out hle h4
 obtain ⟨v',w',h6,h7⟩:=slX_out hl1 hl2 hh1 hh2 hm1 hm2 h5
 refine ⟨_,w',h7,.inl ?_⟩
 rw [← ev_sound hle h1] at h6
 exact value_run h6
set_option maxHeartbeats 1000000 in
theorem op_fieldAddr {pa:PF} {a:Act} (hle:pa.le a) {dst:Option Tmp} {ty:TypeId} {pos:String} {after:Array Edge} {guard:Option (Nat×Bool)} {K:Value→World→Prop} (s:TypeId) (x:Operand) (f:Nat) (h:opX P pa.t ⟨dst,.fieldAddr s x f,ty,pos,after,guard⟩ w K):OkOp P ⟨dst,.fieldAddr s x f,ty,pos,after,guard⟩ a w K:=by
 simp only [opX] at h
 obtain ⟨v,h1,h2⟩:=evK_out h
 cases v <;> simp only at h2
 obtain ⟨ad,rfl,h3⟩:=nn_out h2
 split at h3
 · rename_i fs hu
   split at h3
   · rename_i fd hf
     obtain ⟨h0,h3⟩:=ite_out' h3
     refine ⟨_,w,h3,.inl (value_run (s:=Instr.fieldAt s (a.eval x) f) ?_)⟩
     have hf':fs[f]? = some fd:=by simpa using hf
     simp only [Instr.fieldAt,Sem.run_bind,underlying_run hu,Result.andThen_ok,hf',ev_sound hle h1,Instr.sureAddr,Sem.run_pure,fieldPlace,sizeOf_run P fd.type w (size_info h0),h0,if_false]
   · exact h3.elim
 · exact h3.elim
set_option maxHeartbeats 1000000 in
theorem op_field {pa:PF} {a:Act} (hle:pa.le a) {dst:Option Tmp} {ty:TypeId} {pos:String} {after:Array Edge} {guard:Option (Nat×Bool)} {K:Value→World→Prop} (s:TypeId) (x:Operand) (f:Nat) (h:opX P pa.t ⟨dst,.field s x f,ty,pos,after,guard⟩ w K):OkOp P ⟨dst,.field s x f,ty,pos,after,guard⟩ a w K:=by
 simp only [opX] at h
 obtain ⟨v,h1,h2⟩:=evK_out h
 cases v <;> simp only at h2
 split at h2
 · rename_i fs hu
   split at h2
   · rename_i fd hf
     obtain ⟨v,h3,h4⟩:=partX_out (w:=w) h2
     have hf':fs[f]? = some fd:=by simpa using hf
     refine ⟨_,w,h4,.inl (value_run (s:=Instr.field s (a.eval x) f) ?_)⟩
     simp only [Instr.field,Sem.run_bind,underlying_run hu,Result.andThen_ok,hf',ev_sound hle h1,asAgg,Sem.run_pure,h3]
   · exact h2.elim
 · exact h2.elim
set_option maxHeartbeats 1000000 in
theorem op_indexAddr {pa:PF} {a:Act} (hle:pa.le a) {dst:Option Tmp} {ty:TypeId} {pos:String} {after:Array Edge} {guard:Option (Nat×Bool)} {K:Value→World→Prop} (t:TypeId) (x i:Operand) (h:opX P pa.t ⟨dst,.indexAddr t x i,ty,pos,after,guard⟩ w K):OkOp P ⟨dst,.indexAddr t x i,ty,pos,after,guard⟩ a w K:=by
 simp only [opX] at h
 obtain ⟨v,h1,h2⟩:=evK_out h
 obtain ⟨iv,h3,h4⟩:=evK_out h2
 cases iv <;> simp only at h4
 rename_i k i'
 split at h4
 · rename_i e hu
   cases v <;> simp only at h4
   obtain ⟨hi,⟨h5,h6⟩,h7⟩:=ite_out h4
   obtain ⟨ad,rfl,h8⟩:=nn_out h7
   refine ⟨_,w,h8,.inl (value_run (s:=Instr.indexAt t (a.eval x) (a.eval i)) ?_)⟩
   simp [Instr.indexAt,ev_sound hle h1,ev_sound hle h3,asIntOf,underlying_run hu,h5,h6,sizeOf_run P e w hi]
 · rename_i n e hu
   cases v <;> simp only at h4
   obtain ⟨hi,h4⟩:=ite_out h4
   obtain ⟨ad,rfl,⟨h5,h6⟩,h7⟩:=nn_out h4
   refine ⟨_,w,h7,.inl (value_run (s:=Instr.indexAt t (a.eval x) (a.eval i)) ?_)⟩
   simp [Instr.indexAt,ev_sound hle h1,ev_sound hle h3,asIntOf,underlying_run hu,h5,h6,sizeOf_run P e w hi,Instr.sureAddr]
 · exact h4.elim
set_option maxHeartbeats 1000000 in
theorem op_index {pa:PF} {a:Act} (hle:pa.le a) {dst:Option Tmp} {ty:TypeId} {pos:String} {after:Array Edge} {guard:Option (Nat×Bool)} {K:Value→World→Prop} (t:TypeId) (x i:Operand) (h:opX P pa.t ⟨dst,.index t x i,ty,pos,after,guard⟩ w K):OkOp P ⟨dst,.index t x i,ty,pos,after,guard⟩ a w K:=by
 simp only [opX] at h
 obtain ⟨v,h1,h2⟩:=evK_out h
 obtain ⟨iv,h3,h4⟩:=evK_out h2
 cases iv <;> simp only at h4
 rename_i k i'
 split at h4
 · rename_i hu
   cases v <;> simp only at h4
   obtain ⟨h5,b,h6,h7⟩:=h4
   refine ⟨_,w,h7,.inl (value_run (s:=Instr.index t (a.eval x) (a.eval i)) ?_)⟩
   simp [Instr.index,ev_sound hle h1,ev_sound hle h3,asIntOf,underlying_run hu,h5,h6]
 · rename_i n e hu
   cases v <;> simp only at h4
   obtain ⟨hi,⟨h5,h6⟩,h7⟩:=ite_out h4
   obtain ⟨v,h8,u,rfl,h9⟩:=elX_out (w:=w) h7
   refine ⟨_,w,isT_out h9,.inl (value_run (s:=Instr.index t (a.eval x) (a.eval i)) ?_)⟩
   simp only [Instr.index,ev_sound hle h1,ev_sound hle h3,asIntOf,Sem.run_bind,Sem.run_pure,Result.andThen_ok,underlying_run hu,h5,h6,and_self,if_true,sizeOf_run P e w hi,h8]
 · exact h4.elim
set_option maxHeartbeats 1000000 in
theorem op_extract {pa:PF} {a:Act} (hle:pa.le a) {dst:Option Tmp} {ty:TypeId} {pos:String} {after:Array Edge} {guard:Option (Nat×Bool)} {K:Value→World→Prop} (x:Operand) (j:Nat) (h:opX P pa.t ⟨dst,.extract x j,ty,pos,after,guard⟩ w K):OkOp P ⟨dst,.extract x j,ty,pos,after,guard⟩ a w K:=by
 simp only [opX] at h
 obtain ⟨v,h1,h2⟩:=evK_out h
 cases v with
 | tuple cs =>
  simp only at h2
  split at h2
  · rename_i v hv
    refine ⟨_,w,h2,.inl (value_run (s:=Instr.extract (a.eval x) j) ?_)⟩
    have hv':cs[j]? = some v:=by rw [nthL_eq] at hv; simpa using hv
    simp [Instr.extract,ev_sound hle h1,hv']
  · exact h2.elim
 | _=>exact False.elim h2
set_option maxHeartbeats 1000000 in
theorem op_call {pa:PF} {a:Act} (hle:pa.le a) {dst:Option Tmp} {ty:TypeId} {pos:String} {after:Array Edge} {guard:Option (Nat×Bool)} {K:Value→World→Prop} (c:Call) (hc:∀ f,c.callee≠.value f) (h:opX P pa.t ⟨dst,.call c,ty,pos,after,guard⟩ w K):OkOp P ⟨dst,.call c,ty,pos,after,guard⟩ a w K:=by
 simp only [opX] at h
 split at h
 · rename_i f hf; exact absurd hf (hc f)
 · rename_i b hb
   obtain ⟨vs,h1,h2⟩:=evsK_out h
   obtain ⟨v,w',h3,h4⟩:=builtX_out (cs:=(c.args.map fun | .const _=>true | _=>false)) h2
   refine ⟨v,w',h3,.inl ?_⟩
   simp only [execOp,resolve,hb,Sem.run_bind,Sem.run_pure,Result.andThen_ok,invoke,toArray_map (evs_sound hle h1)]
   exact h4
 · exact h.elim
theorem opX_val {pa:PF} {a:Act} (hle:pa.le a) {o:Oper} {K:Value→World→Prop} (hc:∀ c f,o.op = .call c→c.callee≠.value f) (h:opX P pa.t o w K):OkOp P o a w K:=by
 obtain ⟨dst,op,ty,pos,after,guard⟩:=o
 cases op
 case move x=>exact op_move hle x h
 case assign x=>exact op_assign hle x h
 case pick c x y=>exact op_pick hle c x y h
 case alloc e=>exact op_alloc hle e h
 case box e x=>exact op_box hle e x h
 case build t parts=>exact op_build hle t parts h
 case buildSlice t len parts=>exact op_buildSlice hle t len parts h
 case load t x=>exact op_load hle t x h
 case store t x y=>exact op_store hle t x y h
 case nilCheck x=>exact op_nilCheck hle x h
 case binOp op t x y t'=>exact op_binOp hle op t x y t' h
 case unOp op t x=>exact op_unOp hle op t x h
 case convert s d x=>exact op_convert hle s d x h
 case makeInterface t x=>exact op_makeInterface hle t x h
 case makeFunc fn first cap=>exact op_makeFunc hle fn first cap h
 case makeSlice t l c=>exact op_makeSlice hle t l c h
 case slice t x lo hi mx=>exact op_slice hle t x lo hi mx h
 case fieldAddr s x f=>exact op_fieldAddr hle s x f h
 case field s x f=>exact op_field hle s x f h
 case indexAddr t x i=>exact op_indexAddr hle t x i h
 case index t x i=>exact op_index hle t x i h
 case extract x j=>exact op_extract hle x j h
 case call c=>exact op_call hle c (fun f=>hc c f rfl) h
 all_goals exact False.elim h
variable {P:Program} {w:World}
def fen (ro:Option Nat):Fence:={ fn:=fun _=>True,depth:=none,alive:=false,round:=ro }
theorem semAt_fen {o:Oper} {ro:Option Nat} {ρ:Operand→Value} (h:∀ c,o.op≠.defer c):o.semAt (fen ro).round ρ = execOp ρ o:=Oper.semAt_eq _ _ _ h
theorem op_wp' {ro:Option Nat} {pa:PF} {a b:Act} (hle:pa.le b) {o:Oper} (hab:execOp a.eval o = execOp b.eval o) {K:Value→World→Prop} {next:Act→World→Prop} {Q:Exit→Act→World→Prop}
 (hK:∀ v w',K v w'→next (a.put o.dst v) w') (h:opX P pa.t o w K):o.wpIn (fen ro) 0 P a w next Q:=by
 refine ⟨fun _ _=>trivial,?_⟩
 have hd:∀ c,o.op≠.defer c:=by intro c hc; unfold opX at h; rw [hc] at h; exact h
 rw [semAt_fen hd,hab]
 by_cases hc:∃ c f,o.op = .call c∧c.callee = .value f
 · obtain ⟨c,f,ho,hf⟩:=hc
   unfold opX at h
   rw [ho] at h
   simp only [hf] at h
   obtain ⟨fv,h1,h2⟩:=evK_out h
   obtain ⟨vs,h3,h4⟩:=evsK_out h2
   have e1:=ev_sound hle h1
   have e2:=toArray_map (evs_sound hle h3)
   unfold callVal at h4
   split at h4
   · rename_i fn first cap
     have hres:(resolve b.eval c o.type).run P w = .ok { target:=.fn fn cap,args:=first ++ vs.toArray } w:=by
      simp only [resolve,hf,e1,e2,Deferred.ofValue,Sem.run_pure]
     have hex:(execOp b.eval o).run P w = (invoke (.fn fn cap) (first ++ vs.toArray)).run P w:=by
      simp only [execOp,ho,Sem.run_bind,hres,Result.andThen_ok]
     rw [hex]
     split at h4
     · rename_i g
       split at h4
       · rename_i hen
         obtain ⟨fn,hg,hb,hnm⟩:=enters_out hen
         have hin:(invoke (.fn (.func g) cap) (first ++ vs.toArray)).run P w = .ok (.enter g (first.toList ++ vs ++ cap.toList).toArray) w:=by
          simp only [invoke,callFunc,Sem.run_bind,run_program,Result.andThen_ok,hg,hnm,Bool.false_eq_true,if_false,Option.isNone_eq_false_iff.2 hb,Sem.run_pure]
          congr 2
          apply Array.toList_inj.1; simp
         rw [hin,Oper.uponIn_enter]
         refine ⟨fun h=>by simp [fen] at h,?_⟩
         have h5:CallsIn (fen ro) 0 P g (first.toList ++ vs ++ cap.toList).toArray w fun e w'=>∃ v,e = .returned v∧isT P o.type v fun v=>K v w':=h4
         refine h5.mono ?_
         rintro e w' ⟨v,rfl,hv⟩
         exact hK _ _ (isT_out hv)
       · obtain ⟨fn,e,v,w',hg,hnm,hb,hn,he,hr,hv⟩:=h4
         have ea:first ++ vs.toArray ++ cap = (first.toList ++ vs ++ cap.toList).toArray:=by apply Array.toList_inj.1; simp
         have hin:(invoke (.fn (.func g) cap) (first ++ vs.toArray)).run P w = .ok (.value v) w':=by
          show (callFunc g (first ++ vs.toArray ++ cap)).run P w = _
          rw [run_callFunc_extern hg hnm hb hn he,ea,hr]; rfl
         rw [hin,Oper.uponIn_value]
         exact hK _ _ (isT_out hv)
     · rename_i l
       obtain ⟨r,hr,hsz,h5⟩:=h4
       have hin:(invoke (.fn (.yield l) cap) (first ++ vs.toArray)).run P w =
        .ok (.round l r.fn ((r.params.zip (first.toList ++ vs).toArray).foldl (fun tmps (t,a)=>tmps.setIfInBounds t a) r.tmps) r.assign r.body) w:=by
        have ea:first ++ vs.toArray = (first.toList ++ vs).toArray:=by apply Array.toList_inj.1; simp
        rw [ea]
        have hsz':¬ (first.toList ++ vs).toArray.size≠r.params.size:=by simpa using hsz
        have hg:(getObj l).run P w = .ok (.loop r) w:=by simp [getObj,Sem.run,hr]
        simp only [invoke,Instr.yield,Instr.getLoop,Sem.run_bind,hg,Result.andThen_ok,Sem.run_pure,if_neg hsz']
       rw [hin,Oper.uponIn_round]
       refine ⟨fun h=>by simp [fen] at h,?_⟩
       have h6:RoundIn (fen ro) 0 P l r.fn ((r.params.zip (first.toList ++ vs).toArray).foldl (fun tmps (t,a)=>tmps.setIfInBounds t a) r.tmps) r.assign r.body w fun e w'=>∃ v,e = .returned v∧isT P o.type v fun v=>K v w':=h5
       refine h6.mono ?_
       rintro e w' ⟨v,rfl,hv⟩
       exact hK _ _ (isT_out hv)
     · exact h4.elim
   · exact h4.elim
 · obtain ⟨v,w',h1,h2⟩:=opX_val hle (fun c f ho hf=>hc ⟨c,f,ho,hf⟩) h
   rcases h2 with h2 | ⟨rfl,h2⟩
   · rw [h2,Oper.uponIn_value]; exact hK _ _ h1
   · rw [h2,Oper.uponIn_skip]; exact hK _ _ h1
theorem op_wp {ro:Option Nat} {pa:PF} {a:Act} (hle:pa.le a) {o:Oper} {K:Value→World→Prop} {next:Act→World→Prop} {Q:Exit→Act→World→Prop}
 (hK:∀ v w',K v w'→next (a.put o.dst v) w') (h:opX P pa.t o w K):o.wpIn (fen ro) 0 P a w next Q:=op_wp' hle rfl hK h
theorem PF.le_known {pa:PF} {a:Act} (h:pa.le a) {d:Nat} {v:Value} (hv:getL pa.t d = some v):PF.le { pa with t:=.v d v :: pa.t } a:=by
 obtain ⟨h1,h2,h3⟩:=h
 refine ⟨h1,h2,fun i u hu=>?_⟩
 simp only [getL_v] at hu
 split at hu
 · rename_i e; subst e; cases hu; exact h3 _ _ hv
 · exact h3 i u hu
theorem yielded_eq {ops:Array Oper} {pa:PF} {a:Act} (hle:pa.le a) {j d:Nat} {v:Value} (hd:(ops.toList[j]?).bind (·.dst) = some d) (hv:getL pa.t d = some v) :
 yielded ops a.tmps j = (match v with | .bool b=>some b | _=>none):=by
 have:=hle.2.2 d v hv
 have hd':(ops[j]?).bind (·.dst) = some d:=by rwa [← Array.getElem?_toList]
 unfold yielded
 rw [hd']
 simp only [Option.bind_some,this]
 cases v <;> rfl
def Keep (asg:List Nat) (rf:Bool) (pa pa':PF):Prop:=(∀ i,i ∉ asg→getL pa'.t i = getL pa.t i)∧(rf = false→pa'.ds = pa.ds)∧pa'.n = pa.n
theorem Keep.refl (asg:List Nat) (rf:Bool) (pa:PF):Keep asg rf pa pa:=⟨fun _ _=>rfl,fun _=>rfl,rfl⟩
theorem Keep.set {asg:List Nat} {rf:Bool} {pa pa':PF} (h:Keep asg rf pa pa') {d:Nat} (hd:d∈asg) (v:Value):Keep asg rf pa { pa' with t:=.v d v :: pa'.t } :=
 ⟨fun i hi=>by rw [getL_v,if_neg (fun e:d = i=>hi (e ▸ hd))]; exact h.1 i hi,h.2.1,h.2.2⟩
theorem Keep.put {asg:List Nat} {rf:Bool} {pa pa':PF} (h:Keep asg rf pa pa') {d:Option Nat} (hd:∀ x,d = some x→x∈asg) (v:Value):Keep asg rf pa (pa'.put d v):=by
 cases d with
 | none=>exact h
 | some d =>
  unfold PF.put
  simp only [setB_eq]
  split
  · exact h.set (hd d rfl) _
  · exact h
theorem opsX_wp {ro:Option Nat} {ops:Array Oper} {Q:Exit→Act→World→Prop} {K:PF→World→Prop} {asg:List Nat} {rf:Bool} {pa0:PF}
 (ha:∀ o∈ops.toList,∀ d,o.dst = some d→d∈asg)
 (hQ:∀ pa a w,pa.le a→Keep asg rf pa0 pa→K pa w→Q .normal a w) :
 ∀ (rest:List Oper) (i:Nat) (pa:PF) (a:Act) (w:World),pa.le a→Keep asg rf pa0 pa→ops.toList.drop i = rest→opsX P ops rest pa w K→wpOpsIn (fen ro) 0 P ops Q (List.range' i rest.length) a w:=by
 intro rest
 induction rest with
 | nil=>intro i pa a w hle hk _ h; exact hQ _ _ _ hle hk h
 | cons o r ih =>
  intro i pa a w hle hk hdrop h
  have ho:ops[i]? = some o:=by
   rw [← Array.getElem?_toList,← List.head?_drop,hdrop]; rfl
  have hdrop':ops.toList.drop (i + 1) = r:=by
   rw [← List.tail_drop,hdrop]; rfl
  have hao:∀ d,o.dst = some d→d∈asg:=ha o (List.mem_of_getElem? (by rwa [Array.getElem?_toList]))
  rw [List.length_cons,List.range'_succ]
  simp only [wpOpsIn,ho]
  have hgo:∀ (pa:PF),pa.le a→Keep asg rf pa0 pa→opX P pa.t o w (fun v w'=>opsX P ops r (pa.put o.dst v) w' K)→o.wpIn (fen ro) 0 P a w (wpOpsIn (fen ro) 0 P ops Q (List.range' (i + 1) r.length)) Q :=
   fun pa hle hk h=>op_wp hle (fun v w' hv=>ih (i + 1) _ _ _ (PF.le_put hle _ _) (hk.put hao _) hdrop' hv) h
  have hskip:∀ (pa:PF),pa.le a→Keep asg rf pa0 pa→opsX P ops r (pa.put o.dst undef) w K→wpOpsIn (fen ro) 0 P ops Q (List.range' (i + 1) r.length) (a.put o.dst undef) w :=
   fun pa hle hk h=>ih (i + 1) _ _ _ (PF.le_put hle _ _) (hk.put hao _) hdrop' h
  simp only [opsX] at h
  cases hg:o.guard with
  | none =>
   rw [hg] at h
   have hw:Region.wanted o (yielded ops a.tmps) = true:=by simp [Region.wanted,hg]
   rw [if_pos hw]
   exact hgo pa hle hk h
  | some gw =>
   obtain ⟨j,want⟩:=gw
   rw [hg] at h
   simp only at h
   cases hd:(ops.toList[j]?).bind (·.dst) with
   | none=>rw [hd] at h; exact h.elim
   | some d =>
    rw [hd] at h
    simp only at h
    cases hv:getL pa.t d with
    | none=>rw [hv] at h; exact h.elim
    | some v =>
     rw [hv] at h
     have hy:=yielded_eq hle hd hv
     have hda:d∈asg:=by
      cases hj:ops.toList[j]? with
      | none=>rw [hj] at hd; cases hd
      | some oj=>rw [hj] at hd; exact ha oj (List.mem_of_getElem? hj) d hd
     cases v with
     | bool b =>
      simp only at h hy
      have hkn:=PF.le_known hle hv
      cases want <;> cases b <;> simp only [cnd] at h
      · have hw:Region.wanted o (yielded ops a.tmps) = true:=by simp [Region.wanted,hg,hy]
        rw [if_pos hw]; exact hgo _ hkn (hk.set hda _) h
      · have hw:¬ Region.wanted o (yielded ops a.tmps) = true:=by simp [Region.wanted,hg,hy]
        rw [if_neg hw]; exact ⟨fun _ _=>trivial,hskip _ hkn (hk.set hda _) h⟩
      · have hw:¬ Region.wanted o (yielded ops a.tmps) = true:=by simp [Region.wanted,hg,hy]
        rw [if_neg hw]; exact ⟨fun _ _=>trivial,hskip _ hkn (hk.set hda _) h⟩
      · have hw:Region.wanted o (yielded ops a.tmps) = true:=by simp [Region.wanted,hg,hy]
        rw [if_pos hw]; exact hgo _ hkn (hk.set hda _) h
     | tuple vs =>
      simp only at h hy
      have hw:¬ Region.wanted o (yielded ops a.tmps) = true:=by simp [Region.wanted,hg,hy]
      rw [if_neg hw]; exact ⟨fun _ _=>trivial,hskip _ hle hk h⟩
     | _=>exact False.elim h
theorem region_wp {ro:Option Nat} {id:Nat} {ops:Array Oper} {Q:Exit→Act→World→Prop} {K:PF→World→Prop} {asg:List Nat} {rf:Bool} {pa0:PF}
 (ha:∀ o∈ops.toList,∀ d,o.dst = some d→d∈asg) (hQ:∀ pa a w,pa.le a→Keep asg rf pa0 pa→K pa w→Q .normal a w)
 {pa:PF} {a:Act} {w:World} (hle:pa.le a) (hk:Keep asg rf pa0 pa) (h:opsX P ops ops.toList pa w K):(Code.region id ops false).wpIn (fen ro) 0 P Q a w:=by
 refine wpIn_region ?_
 have:=opsX_wp (ro:=ro) ha hQ ops.toList 0 pa a w hle hk (by simp) h
 rwa [Array.length_toList,← List.range_eq_range'] at this
theorem getL_clear (is:List Nat) (t:List En) (i:Nat):getL (clearL is t) i = if i∈is then none else getL t i:=getL_m is t i
theorem getL_over (xs:List (Nat×Value)) (t:List En) (i:Nat) (v:Value) (h:getL (overL xs t) i = some v):(∃ x∈xs,x.1 = i∧x.2 = v)∨((∀ x∈xs,x.1≠i)∧getL t i = some v):=by
 induction xs with
 | nil=>exact .inr ⟨by simp,h⟩
 | cons x r ih =>
  obtain ⟨j,u⟩:=x
  rw [overL,getL_v] at h
  split at h
  · rename_i e; injection h with h; exact .inl ⟨(j,u),by simp,e,h⟩
  · rename_i e
    rcases ih h with ⟨y,hy,h1,h2⟩ | ⟨h1,h2⟩
    · exact .inl ⟨y,by simp [hy],h1,h2⟩
    · exact .inr ⟨by simp only [List.mem_cons,forall_eq_or_imp]; exact ⟨e,h1⟩,h2⟩
theorem getL_over_other (xs:List (Nat×Value)) (t:List En) (i:Nat) (h:∀ x∈xs,x.1≠i):getL (overL xs t) i = getL t i:=by
 induction xs with
 | nil=>rfl
 | cons x r ih =>
  obtain ⟨j,u⟩:=x
  rw [overL,getL_v,if_neg (h (j,u) (by simp)),ih (fun y hy=>h y (by simp [hy]))]
theorem head_le {L:LSp} {asg:List Nat} {pa pa':PF} {a':Act} {s':L.S} (he:L.ext pa'.t = some s') (hle:pa'.le a') (hl:pa'.n = pa.n)
 (hk:∀ i,i ∉ asg→getL pa'.t i = getL pa.t i) (ds:List Deferred) (hds:ds = pa'.ds):PF.le { n:=pa.n,t:=overL (L.emb s') (clearL asg pa.t),ds:=ds } a':=by
 obtain ⟨h1,h2,h3⟩:=hle
 refine ⟨by rw [hds]; exact h1,by rw [← hl]; exact h2,fun i v hv=>?_⟩
 rcases getL_over _ _ _ _ hv with ⟨x,hx,rfl,rfl⟩ | ⟨h4,h5⟩
 · exact h3 _ _ (L.ok _ _ he x hx)
 · rw [getL_clear] at h5
   split at h5
   · cases h5
   · rename_i hi; exact h3 _ _ (by rw [hk i hi]; exact h5)
theorem head_keep {L:LSp} {asg:List Nat} (hs:L.slots.all asg.contains = true) (pa:PF) (s:L.S):∀ i,i ∉ asg→getL (overL (L.emb s) (clearL asg pa.t)) i = getL pa.t i:=by
 intro i hi
 rw [getL_over_other,getL_clear,if_neg hi]
 intro x hx e
 have:x.1∈L.slots:=by rw [← L.fits s]; exact List.mem_map_of_mem hx
 have:=List.all_eq_true.1 hs _ this
 rw [e] at this
 exact hi (by simpa using this)
variable {P:Program} {w:World}
theorem opX_A {t:List En} {o:Oper} {K:Value→World→Prop} (hk:kO P o≤1):opX P t o w K = opX P t o w (fun v _=>K v w):=by
 obtain ⟨dst,op,ty,pos,after,guard⟩:=o
 cases op <;> first | rfl | (exfalso; simp [kO] at hk; done) | skip
 case convert s d x =>
  simp only [kO] at hk
  simp only [opX,cvX]
  split at hk <;> first | (rename_i h; simp only [h]; done) | omega
 case call c =>
  simp only [kO] at hk
  simp only [opX]
  split at hk
  · omega
  · split at hk <;> first | omega | (rename_i h; simp only [h,builtX]; done) | skip
  · omega
theorem cond_opX {t:List En} {o:Oper} {K:Value→World→Prop} (hk:kO P o≤1) (h:opX P t o w K):opX P t o w (fun v w'=>w' = w∧K v w'):=by
 rw [opX_A hk] at h ⊢
 simpa using h
theorem binX_B {w0:World} {op:BinOp} {t:TypeId} {x y:Value} {R:Value→Prop} (hk:(match kdOf P t with | .int _ | .bool | .str | .slice=>0 | _=>1) = 0):binX P op t x y w R = binX P op t x y w0 R:=by
 unfold binX
 split at hk <;> simp_all
theorem opX_B {w0:World} {t:List En} {o:Oper} {R:Value→Prop} (hk:kO P o = 0):opX P t o w (fun v _=>R v) = opX P t o w0 (fun v _=>R v):=by
 obtain ⟨dst,op,ty,pos,after,guard⟩:=o
 cases op <;> first | rfl | (exfalso; simp [kO] at hk; done) | skip
 case binOp op t x y t' =>
  simp only [opX]
  simp only [kO] at hk
  simp only [binX_B (w0:=w0) hk]
 case convert s d x =>
  simp only [kO] at hk
  split at hk <;> cases hk
 case call c =>
  simp only [kO] at hk
  split at hk
  · cases hk
  · split at hk <;> cases hk
  · cases hk
def Dir (T:(Value→Prop)→Prop):Prop:=∀ R,T R→∃ v,R v∧T (fun v'=>v' = v)
theorem dir_evK {t:List En} {x:Operand} {S:Value→(Value→Prop)→Prop} (h:∀ v,Dir (S v)):Dir fun R=>evK t x fun v=>S v R:=by
 intro R hR
 obtain ⟨v,h1,h2⟩:=evK_out hR
 obtain ⟨u,h3,h4⟩:=h v R h2
 exact ⟨u,h3,by show evK _ _ _; unfold evK; rw [h1]; exact h4⟩
theorem dir_evsK {t:List En} {xs:List Operand} {S:List Value→(Value→Prop)→Prop} (h:∀ vs,Dir (S vs)):Dir fun R=>evsK t xs fun v=>S v R:=by
 intro R hR
 obtain ⟨v,h1,h2⟩:=evsK_out hR
 obtain ⟨u,h3,h4⟩:=h v R h2
 exact ⟨u,h3,by show evsK _ _ _; unfold evsK; rw [h1]; exact h4⟩
theorem dir_val (v:Value):Dir fun R=>R v:=fun _ h=>⟨v,h,rfl⟩
theorem dir_false:Dir fun _=>False:=fun _ h=>h.elim
theorem dir_cnd {b:Bool} {S T:(Value→Prop)→Prop} (h1:Dir S) (h2:Dir T):Dir fun R=>cnd b (S R) (T R):=by
 cases b
 · exact h2
 · exact h1
theorem dir_and {c:Prop} {S:(Value→Prop)→Prop} (h1:Dir S):Dir fun R=>c∧S R:=fun R h =>
 let ⟨v,h2,h3⟩:=h1 R h.2
 ⟨v,h2,h.1,h3⟩
theorem dir_nn {p:Option Addr} {S:Addr→(Value→Prop)→Prop} (h:∀ a,Dir (S a)):Dir fun R=>nn p fun a=>S a R:=by
 cases p with
 | none=>exact dir_false
 | some a=>exact h a
theorem dir_ix {i:Int} {n:Nat} {S:Nat→(Value→Prop)→Prop} (h:∀ a,Dir (S a)):Dir fun R=>ix i n fun a=>S a R:=dir_and (h _)
theorem dir_ite {c:Prop} [Decidable c] {S T:(Value→Prop)→Prop} (h1:Dir S) (h2:Dir T):Dir fun R=>if c then S R else T R:=by
 by_cases hc:c
 · simp only [hc,if_true]; exact h1
 · simp only [hc,if_false]; exact h2
theorem dir_intX {op:BinOp} {k:IntKind} {a b:Int}:Dir fun R=>intX op k a b R:=by
 cases op <;> first | exact dir_val _ | exact dir_and (dir_val _)
theorem dir_binX {op:BinOp} {t:TypeId} {x y:Value} (hk:(match kdOf P t with | .int _ | .bool | .str | .slice=>0 | _=>1) = 0):Dir fun R=>binX P op t x y w R:=by
 unfold binX
 split
 · cases x <;> try exact dir_false
   cases y <;> try exact dir_false
   exact dir_ite dir_intX dir_false
 · cases x <;> try exact dir_false
   cases y <;> try exact dir_false
   cases op <;> first | exact dir_false | exact dir_val _ | exact dir_and (dir_val _)
 · cases x <;> try exact dir_false
   cases y <;> try exact dir_false
   cases op <;> first | exact dir_false | exact dir_val _
 · rename_i h; rw [h] at hk; cases hk
 · cases x <;> try exact dir_false
   cases y <;> try exact dir_false
   rename_i p _ _ q _ _
   cases q
   · cases op <;> first | exact dir_false | exact dir_val _
   · exact dir_false
 · rename_i h; rw [h] at hk; cases hk
theorem dir_opX {t:List En} {o:Oper} (hk:kO P o = 0):Dir fun R=>opX P t o w fun v _=>R v:=by
 obtain ⟨dst,op,ty,pos,after,guard⟩:=o
 cases op <;> first | (exfalso; simp [kO] at hk; done) | skip
 case move x=>exact dir_evK dir_val
 case assign x=>exact dir_evK dir_val
 case pick c x y =>
  refine dir_evK fun v=>?_
  cases v <;> first | exact dir_false | exact dir_cnd (dir_evK dir_val) (dir_evK dir_val)
 case build ty parts =>
  refine dir_evsK fun vs=>?_
  cases buildX P ty ((parts.toList.map (·.1)).zip vs) with
  | none=>exact dir_false
  | some cs=>exact dir_val _
 case nilCheck x =>
  refine dir_evK fun v=>?_
  cases v with
  | pointer p=>exact dir_nn fun a=>dir_val _
  | func fn f c=>cases fn <;> first | exact dir_false | exact dir_val _
  | nilFunc=>exact dir_false
  | nilIface=>exact dir_false
  | _=>exact dir_val _
 case binOp op t x y t' =>
  exact dir_evK fun x=>dir_evK fun y=>dir_binX hk
 case unOp op t x =>
  refine dir_evK fun v=>?_
  cases op <;> cases v <;> first | exact dir_false | exact dir_val _
 case convert s d x =>
  simp only [kO] at hk
  split at hk <;> cases hk
 case makeInterface t x =>
  refine dir_evK fun v=>?_
  show Dir fun R=>match P.underlying t with | some (.interface _)=>False | some _=>R _ | none=>False
  cases P.underlying t with
  | none=>exact dir_false
  | some d=>cases d <;> first | exact dir_false | exact dir_val _
 case makeFunc fn first cap=>exact dir_evsK fun vs=>dir_evsK fun cs=>dir_val _
 case fieldAddr s x f =>
  refine dir_evK fun v=>?_
  cases v <;> try exact dir_false
  refine dir_nn fun a=>?_
  show Dir fun R=>match P.underlying s with | some (.struct fs)=>_ | _=>False
  cases P.underlying s with
  | none=>exact dir_false
  | some d =>
   cases d <;> try exact dir_false
   rename_i fs
   show Dir fun R=>match fs.toList[f]? with | some fd=>_ | none=>False
   cases fs.toList[f]? with
   | none=>exact dir_false
   | some fd=>exact dir_ite dir_false (dir_val _)
 case indexAddr ty x i =>
  refine dir_evK fun v=>dir_evK fun i=>?_
  cases i <;> try exact dir_false
  show Dir fun R=>match P.underlying ty with | some (.slice e)=>_ | some (.array n e)=>_ | _=>False
  cases P.underlying ty with
  | none=>exact dir_false
  | some d =>
   cases d <;> try exact dir_false
   · cases v <;> try exact dir_false
     exact dir_ite (dir_ix fun j=>dir_nn fun a=>dir_val _) dir_false
   · cases v <;> try exact dir_false
     exact dir_ite (dir_nn fun a=>dir_ix fun j=>dir_val _) dir_false
 case extract x j =>
  refine dir_evK fun v=>?_
  cases v <;> try exact dir_false
  rename_i vs
  show Dir fun R=>match nthL vs.toList j with | some v=>R v | none=>False
  cases nthL vs.toList j with
  | none=>exact dir_false
  | some v=>exact dir_val _
 case call c =>
  simp only [kO] at hk
  split at hk
  · cases hk
  · split at hk <;> cases hk
  · cases hk
def YA (P:Program) (ops:Array Oper) (w:World) (o:Oper) (v:Value) (a:Act):Prop :=
 (Region.wanted o (yielded ops a.tmps) = true∧((execOp a.eval o).run P w = .ok (.value v) w∨(v = undef∧(execOp a.eval o).run P w = .ok .skip w))) ∨
 (Region.wanted o (yielded ops a.tmps) = false∧v = undef)
theorem kO_sel {o:Oper} (h:kO P o≤2):∀ cs b,o.op≠.select cs b:=by
 intro cs b e; simp [kO,e] at h
theorem kO_call {o:Oper} (h:kO P o≤1):∀ c f,o.op = .call c→c.callee≠.value f:=by
 intro c f e e'; simp [kO,e,e'] at h
def Alike (ops:Array Oper) (o:Oper) (a b:Act):Prop:=execOp a.eval o = execOp b.eval o∧Region.wanted o (yielded ops a.tmps) = Region.wanted o (yielded ops b.tmps)
theorem Alike.rfl' {ops:Array Oper} {o:Oper} {a:Act}:Alike ops o a a:=⟨rfl,rfl⟩
theorem Alike.trans {ops:Array Oper} {o:Oper} {a b c:Act} (h:Alike ops o a b) (h':Alike ops o b c):Alike ops o a c:=⟨h.1.trans h'.1,h.2.trans h'.2⟩
theorem alike_put {ops:Array Oper} {o:Oper} (hs:∀ cs b,o.op≠.select cs b) (a:Act) (dst:Option Tmp) (v:Value) (h:∀ d,dst = some d→d ∉ o.looksAt ops):Alike ops o (a.put dst v) a :=
 ⟨execOp_put o hs a dst v h,wanted_put o a dst v h⟩
theorem YA.alike {ops:Array Oper} {w:World} {o:Oper} {v:Value} {a b:Act} (h:Alike ops o a b):YA P ops w o v a↔YA P ops w o v b:=by
 unfold YA; rw [h.1,h.2]
theorem opX_run {ops:Array Oper} {pa:PF} {a:Act} {o:Oper} (hle:pa.le a) (hk:kO P o≤1) {K:Value→World→Prop} (hw:Region.wanted o (yielded ops a.tmps) = true) (h:opX P pa.t o w K) :
 ∃ v,K v w∧YA P ops w o v a:=by
 obtain ⟨v,w',⟨rfl,h1⟩,h2⟩:=opX_val hle (kO_call hk) (cond_opX hk h)
 exact ⟨v,h1,.inl ⟨hw,h2⟩⟩
theorem opX_blind {ops:Array Oper} {pa:PF} {a:Act} {o:Oper} (hle:pa.le a) (hk:kO P o = 0) {K:Value→World→Prop} (hw:Region.wanted o (yielded ops a.tmps) = true) (h:opX P pa.t o w K) :
 ∃ v,K v w∧∀ w0,YA P ops w0 o v a:=by
 rw [opX_A (by omega)] at h
 obtain ⟨v,h1,h2⟩:=dir_opX hk (fun v=>K v w) h
 refine ⟨v,h1,fun w0=>?_⟩
 rw [opX_B (w0:=w0) hk] at h2
 obtain ⟨v',h3,h4⟩:=opX_run (ops:=ops) hle (by omega) hw h2
 subst h3; exact h4
theorem opX_again {ops:Array Oper} {pa:PF} {a:Act} {o:Oper} (hle:pa.le a) (hk:kO P o≤1) {v:Value} (hw:Region.wanted o (yielded ops a.tmps) = true) (h:opX P pa.t o w fun v' _=>v' = v):YA P ops w o v a:=by
 obtain ⟨v',h3,h4⟩:=opX_run (ops:=ops) hle hk hw h
 subst h3; exact h4
structure DE where
 i:Nat
 o:Oper
 v:Value
def app (D:List DE) (a:Act):Act:=D.foldl (fun a d=>a.put d.o.dst d.v) a
def SeqD (Φ:DE→Act→Prop):List DE→Act→Prop
 | [],_=>True
 | d :: r,a=>Φ d a∧SeqD Φ r (a.put d.o.dst d.v)
def Lks (ops:Array Oper) (Φ:DE→Act→Prop):Prop:=∀ d a b,(∀ cs b,d.o.op≠.select cs b)→Alike ops d.o a b→Φ d b→Φ d a
theorem app_put {ops:Array Oper} {q:Oper} {v:Value}:∀ (D:List DE) (a:Act),(∀ d∈D,d.o.apart ops q = true)→app D (a.put q.dst v) = (app D a).put q.dst v:=by
 intro D
 induction D with
 | nil=>intro a _; rfl
 | cons d r ih =>
  intro a h
  obtain ⟨_,h2,_⟩:=Oper.apart_spec (h d (by simp))
  simp only [app,List.foldl_cons]
  rw [← Act.put_comm a d.v v h2]
  exact ih _ fun d hd=>h d (by simp [hd])
theorem app_alike {ops:Array Oper} {q:Oper} (hs:∀ cs b,q.op≠.select cs b):∀ (D:List DE) (a:Act),(∀ d∈D,d.o.apart ops q = true)→Alike ops q (app D a) a:=by
 intro D
 induction D with
 | nil=>intro a _; exact .rfl'
 | cons d r ih =>
  intro a h
  obtain ⟨h1,_,_⟩:=Oper.apart_spec (h d (by simp))
  exact (ih _ fun d hd=>h d (by simp [hd])).trans (alike_put hs a _ _ h1)
theorem seq_put {ops:Array Oper} {Φ:DE→Act→Prop} (hΦ:Lks ops Φ) {q:Oper} {v:Value}:∀ (D:List DE) (a:Act),(∀ d∈D,(∀ cs b,d.o.op≠.select cs b)∧d.o.apart ops q = true)→SeqD Φ D a→SeqD Φ D (a.put q.dst v):=by
 intro D
 induction D with
 | nil=>intro a _ _; trivial
 | cons d r ih =>
  intro a h hs
  obtain ⟨_,h2,h3⟩:=Oper.apart_spec (h d (by simp)).2
  refine ⟨hΦ d _ _ (h d (by simp)).1 (alike_put (h d (by simp)).1 a _ _ h3) hs.1,?_⟩
  rw [← Act.put_comm a d.v v h2]
  exact ih _ (fun d hd=>h d (by simp [hd])) hs.2
theorem seq_first {ops:Array Oper} {Φ:DE→Act→Prop} (hΦ:Lks ops Φ) {d0:DE} (hs0:∀ cs b,d0.o.op≠.select cs b):∀ (D1 D2:List DE) (a:Act),(∀ d∈D1,(∀ cs b,d.o.op≠.select cs b)∧d.o.apart ops d0.o = true) →
 SeqD Φ (D1 ++ d0 :: D2) a→Φ d0 a∧SeqD Φ (D1 ++ D2) (a.put d0.o.dst d0.v)∧app (D1 ++ d0 :: D2) a = app (D1 ++ D2) (a.put d0.o.dst d0.v):=by
 intro D1
 induction D1 with
 | nil=>intro D2 a _ h; exact ⟨h.1,h.2,rfl⟩
 | cons d r ih =>
  intro D2 a h hs
  obtain ⟨h1,h2,h3⟩:=Oper.apart_spec (h d (by simp)).2
  obtain ⟨h4,h5,h6⟩:=ih D2 _ (fun d hd=>h d (by simp [hd])) hs.2
  refine ⟨hΦ d0 _ _ hs0 ?_ h4,⟨hΦ d _ _ (h d (by simp)).1 (alike_put (h d (by simp)).1 a _ _ h3) hs.1,?_⟩,?_⟩
  · have:=alike_put hs0 a d.o.dst d.v h1
    exact ⟨this.1.symm,this.2.symm⟩
  · rw [← Act.put_comm a d.v d0.v h2]; exact h5
  · simp only [List.cons_append,app,List.foldl_cons] at h6 ⊢
    rw [h6,Act.put_comm a d.v d0.v h2]
theorem seq_mono {Φ Ψ:DE→Act→Prop}:∀ (D:List DE) (a:Act),(∀ d∈D,∀ a,Φ d a→Ψ d a)→SeqD Φ D a→SeqD Ψ D a:=by
 intro D
 induction D with
 | nil=>intro a _ _; trivial
 | cons d r ih=>intro a h hs; exact ⟨h d (by simp) _ hs.1,ih _ (fun d hd=>h d (by simp [hd])) hs.2⟩
theorem seq_snoc {Φ:DE→Act→Prop} {d0:DE}:∀ (D:List DE) (a:Act),SeqD Φ D a→Φ d0 (app D a)→SeqD Φ (D ++ [d0]) a:=by
 intro D
 induction D with
 | nil=>intro a _ h; exact ⟨h,trivial⟩
 | cons d r ih=>intro a hs h; exact ⟨hs.1,ih _ hs.2 h⟩
def Live (P:Program) (ops:Array Oper) (pend:List PE) (U:List Nat) (d:DE) (b:Act):Prop :=
 (∀ w',YA P ops w' d.o d.v b)∨∃ p∈pend,p.i = d.i∧(∀ m∈p.desc,m∈U∧∃ o,ops[m]? = some o∧waitsOn o (p.i :: p.desc) = true) ∧
  ∀ w',opX P p.pa.t p.o w' (fun v' _=>v' = p.v)→YA P ops w' d.o d.v b
def Phi (P:Program) (ops:Array Oper) (w:World) (pend:List PE) (U:List Nat) (d:DE) (b:Act):Prop:=YA P ops w d.o d.v b∧Live P ops pend U d b
theorem lks_phi {ops:Array Oper} {w:World} {pend:List PE} {U:List Nat}:Lks ops (Phi P ops w pend U):=by
 intro d a b _ hab h
 refine ⟨(YA.alike hab).2 h.1,?_⟩
 rcases h.2 with h | ⟨p,h1,h2,h3,h4⟩
 · exact .inl fun w'=>(YA.alike hab).2 (h w')
 · exact .inr ⟨p,h1,h2,h3,fun w' h=>(YA.alike hab).2 (h4 w' h)⟩
theorem waitsOn_spec {o:Oper} {l:List Nat}:waitsOn o l = true↔∃ e∈o.after,Region.binds .any e = true∧e.on∈l:=by
 unfold waitsOn
 simp only [List.any_eq_true,Bool.and_eq_true,List.contains_eq_mem,decide_eq_true_eq,Array.mem_toList_iff]
theorem waitsOn_mono {o:Oper} {l l':List Nat} (h:∀ x∈l,x∈l') (hw:waitsOn o l = true):waitsOn o l' = true:=by
 rw [waitsOn_spec] at *
 obtain ⟨e,h1,h2,h3⟩:=hw
 exact ⟨e,h1,h2,h _ h3⟩
theorem addD_mem {o:Oper} {i:Nat}:∀ {pend:List PE} {p:PE},p∈pend→addE o i p∈addD o i pend:=by
 intro pend
 induction pend with
 | nil=>intro p h; cases h
 | cons q r ih =>
  intro p h
  rcases List.mem_cons.1 h with rfl | h
  · exact List.mem_cons_self
  · exact List.mem_cons_of_mem _ (ih h)
theorem rchk_out {o:Oper} {K:Prop}:∀ {pend:List PE},rchk P o w K pend→K∧∀ p∈pend,waitsOn o (p.i :: p.desc) = false→opX P p.pa.t p.o w fun v' _=>v' = p.v:=by
 intro pend
 induction pend with
 | nil=>intro h; exact ⟨h,by simp⟩
 | cons q r ih =>
  intro h
  simp only [rchk] at h
  split at h
  · rename_i hw
    obtain ⟨h1,h2⟩:=ih h
    refine ⟨h1,fun p hp hf=>?_⟩
    rcases List.mem_cons.1 hp with rfl | hp
    · rw [hw] at hf; cases hf
    · exact h2 p hp hf
  · obtain ⟨h1,h2⟩:=ih h.2
    refine ⟨h1,fun p hp hf=>?_⟩
    rcases List.mem_cons.1 hp with rfl | hp
    · exact h.1
    · exact h2 p hp hf
theorem live_grow {ops:Array Oper} {pend:List PE} {U U':List Nat} {o:Oper} {k:Nat} {d:DE} {b:Act} (hU:∀ m∈U,m∈U') (hk:k∈U') (ho:ops[k]? = some o) (h:Live P ops pend U d b):Live P ops (addD o k pend) U' d b:=by
 rcases h with h | ⟨p,h1,h2,h3,h4⟩
 · exact .inl h
 · refine .inr ⟨addE o k p,addD_mem h1,?_⟩
   unfold addE
   split
   · rename_i hw
     refine ⟨h2,?_,h4⟩
     intro m hm
     rcases List.mem_cons.1 hm with e | hm
     · subst e; exact ⟨hk,o,ho,waitsOn_mono (by intro x hx; rcases List.mem_cons.1 hx with h | h <;> simp [h]) hw⟩
     · obtain ⟨h5,q,h6,h7⟩:=h3 m hm
       exact ⟨hU _ h5,q,h6,waitsOn_mono (by intro x hx; rcases List.mem_cons.1 hx with h | h <;> simp [h]) h7⟩
   · exact ⟨h2,fun m hm=>by obtain ⟨h5,q,h6,h7⟩:=h3 m hm; exact ⟨hU _ h5,q,h6,h7⟩,h4⟩
theorem live_more {ops:Array Oper} {pend pend':List PE} {U:List Nat} {d:DE} {b:Act} (hp:∀ p∈pend,p∈pend') (h:Live P ops pend U d b):Live P ops pend' U d b:=by
 rcases h with h | ⟨p,h1,h2⟩
 · exact .inl h
 · exact .inr ⟨p,hp p h1,h2⟩
theorem live_ready {ops:Array Oper} {pend:List PE} {U:List Nat} {o:Oper} {k:Nat} {d:DE} {b:Act} (hd:d.i∈U) (hr:∀ m∈U,waitsOn o [m] = false) :
 Live P ops pend U d b→(∀ w',YA P ops w' d.o d.v b)∨∃ p∈pend,p.i = d.i∧waitsOn o (p.i :: p.desc) = false∧addE o k p = p∧(∀ m∈p.desc,m∈U∧∃ o,ops[m]? = some o∧waitsOn o (p.i :: p.desc) = true) ∧
 ∀ w',opX P p.pa.t p.o w' (fun v' _=>v' = p.v)→YA P ops w' d.o d.v b:=by
 intro h
 rcases h with h | ⟨p,h1,h2,h3,h4⟩
 · exact .inl h
 · refine .inr ⟨p,h1,h2,?_,?_,h3,h4⟩ <;>
   · have hf:waitsOn o (p.i :: p.desc) = false:=by
      cases hw:waitsOn o (p.i :: p.desc) with
      | false=>rfl
      | true =>
       rw [waitsOn_spec] at hw
       obtain ⟨e,h5,h6,h7⟩:=hw
       have hm:e.on∈U:=by
        rcases List.mem_cons.1 h7 with h7 | h7
        · rw [h7,h2]; exact hd
        · exact (h3 _ h7).1
       have:=hr _ hm
       rw [show waitsOn o [e.on] = true from waitsOn_spec.2 ⟨e,h5,h6,by simp⟩] at this
       cases this
     first | exact hf | (unfold addE; rw [hf])
def DR (ops:Array Oper) (d:DE) (x:Nat):Prop:=d.i≠x∧waitsOn d.o [x] = false∧∀ q,ops[x]? = some q→waitsOn q [d.i] = true∨d.o.apart ops q = true
structure Inv (P:Program) (ops:Array Oper) (K:PF→World→Prop) (asg:List Nat) (rf:Bool) (pa0:PF) (listed:Array Bool) (a:Act) (w:World) (D:List DE) (ord:List Nat) (pend:List PE) (pa:PF):Prop where
 sz:listed.size = ops.size
 un:∀ j,j < ops.size→(listed.getD j true = false↔j∈D.map (·.i)∨j∈ord)
 dop:∀ d∈D,ops[d.i]? = some d.o∧waitsOn d.o [d.i] = false∧kO P d.o≤1∧∀ e∈d.o.after,Region.binds .any e = true→e.on < ops.size
 dd:D.Pairwise fun d x=>DR ops d x.i
 dor:∀ d∈D,∀ x∈ord,DR ops d x
 row:rowB P ops ord = true
 sq:SeqD (Phi P ops w pend (D.map (·.i))) D a
 le:pa.le (app D a)
 kp:Keep asg rf pa0 pa
 run:opsD P ops K ord pend pa w
theorem rowB_out {ops:Array Oper} {i:Nat} {rest:List Nat} (h:rowB P ops (i :: rest) = true):∃ o,ops[i]? = some o∧i ∉ rest∧(∀ e∈o.after,Region.binds .any e = true→e.on < ops.size∧e.on≠i∧e.on ∉ rest)∧kO P o≤2 ∧
 (kO P o≤1→∀ k∈rest,∀ q,ops[k]? = some q→waitsOn q [i] = true∨o.apart ops q = true)∧(kO P o = 2→∀ k∈rest,∀ q,ops[k]? = some q→waitsOn q (i :: rest) = true)∧rowB P ops rest = true:=by
 simp only [rowB] at h
 cases ho:ops.toList[i]? with
 | none=>rw [ho] at h; cases h
 | some o =>
  rw [ho] at h
  simp only [Bool.and_eq_true,Bool.not_eq_true',List.all_eq_true,Bool.or_eq_true] at h
  obtain ⟨⟨⟨h1,h2⟩,h3⟩,h4⟩:=h
  have ho':ops[i]? = some o:=by rw [← Array.getElem?_toList]; exact ho
  refine ⟨o,ho',by simpa using h1,?_,?_,?_,?_,h4⟩
  · intro e he hb
    have:=(h2 e (by simpa using he)).resolve_left (by rw [hb]; simp)
    simp only [List.contains_eq_mem,List.mem_cons,not_or,decide_eq_false_iff_not] at this
    exact ⟨by simpa [Nat.blt_eq] using this.1,this.2.1,this.2.2⟩
  · split at h3 <;> first | omega | cases h3
  · intro hk k hkr q hq
    have hq':ops.toList[k]? = some q:=by rw [Array.getElem?_toList]; exact hq
    split at h3
    · have:=List.all_eq_true.1 h3 k hkr; rw [hq'] at this; simpa using this
    · have:=List.all_eq_true.1 h3 k hkr; rw [hq'] at this; simpa using this
    · omega
    · cases h3
  · intro hk k hkr q hq
    have hq':ops.toList[k]? = some q:=by rw [Array.getElem?_toList]; exact hq
    split at h3
    · omega
    · omega
    · have:=List.all_eq_true.1 h3 k hkr; rw [hq'] at this; simpa using this
    · cases h3
theorem stepD_out {ops:Array Oper} {asg:List Nat} {rf:Bool} {pa0:PF} (ha:∀ o∈ops.toList,∀ d,o.dst = some d→d∈asg) {i:Nat} {pend:List PE} {pa:PF} {b:Act} {N:List PE→PF→World→Prop} {o:Oper} (ho:ops[i]? = some o) (hle:pa.le b) (hk:Keep asg rf pa0 pa)
 (h:stepD P ops i pend pa w N):∃ pa1:PF,pa1.le b∧Keep asg rf pa0 pa1∧((Region.wanted o (yielded ops b.tmps) = true∧runD P i o pend pa1 w N)∨(Region.wanted o (yielded ops b.tmps) = false∧N (addD o i pend) (pa1.put o.dst undef) w)):=by
 have ho':ops.toList[i]? = some o:=by rw [Array.getElem?_toList]; exact ho
 simp only [stepD,ho'] at h
 cases hg:o.guard with
 | none =>
  rw [hg] at h
  exact ⟨pa,hle,hk,.inl ⟨by simp [Region.wanted,hg],h⟩⟩
 | some gw =>
  obtain ⟨j,want⟩:=gw
  rw [hg] at h
  simp only at h
  cases hd:(ops.toList[j]?).bind (·.dst) with
  | none=>rw [hd] at h; exact h.elim
  | some d =>
   rw [hd] at h
   simp only at h
   cases hv:getL pa.t d with
   | none=>rw [hv] at h; exact h.elim
   | some v =>
    rw [hv] at h
    have hy:=yielded_eq hle hd hv
    have hda:d∈asg:=by
     cases hj:ops.toList[j]? with
     | none=>rw [hj] at hd; cases hd
     | some oj=>rw [hj] at hd; exact ha oj (List.mem_of_getElem? hj) d hd
    cases v with
    | bool c =>
     simp only at h hy
     have hkn:=PF.le_known hle hv
     refine ⟨_,hkn,hk.set hda _,?_⟩
     cases want <;> cases c <;> simp only [cnd] at h
     · exact .inl ⟨by simp [Region.wanted,hg,hy],h⟩
     · exact .inr ⟨by simp [Region.wanted,hg,hy],h⟩
     · exact .inr ⟨by simp [Region.wanted,hg,hy],h⟩
     · exact .inl ⟨by simp [Region.wanted,hg,hy],h⟩
    | tuple vs =>
     simp only at h hy
     exact ⟨pa,hle,hk,.inr ⟨by simp [Region.wanted,hg,hy],h⟩⟩
    | _=>exact False.elim h
theorem rowB_mem {ops:Array Oper}:∀ {ord:List Nat},rowB P ops ord = true→∀ x∈ord,∃ o,ops[x]? = some o:=by
 intro ord
 induction ord with
 | nil=>intro _ x hx; cases hx
 | cons k r ih =>
  intro h x hx
  obtain ⟨o,h1,_,_,_,_,_,h2⟩:=rowB_out h
  rcases List.mem_cons.1 hx with rfl | hx
  · exact ⟨o,h1⟩
  · exact ih h2 x hx
theorem getD_both' {listed:Array Bool} {j:Nat} (h:listed.getD j true = false):listed.getD j false = false:=by
 simp only [Array.getD_eq_getD_getElem?] at *
 cases hj:listed[j]? with
 | none=>rfl
 | some b=>rw [hj] at h; simpa using h
theorem getD_in' {listed:Array Bool} {j:Nat} (hj:j < listed.size) (h:¬ listed.getD j true = false):listed.getD j false = true:=by
 simp only [Array.getD_eq_getD_getElem?] at *
 rw [Array.getElem?_eq_getElem hj] at *
 simpa using h
section
variable {ops:Array Oper} {K:PF→World→Prop} {asg:List Nat} {rf:Bool} {pa0:PF} {listed:Array Bool} {a:Act} {D:List DE} {ord:List Nat} {pend:List PE} {pa:PF}
theorem Inv.lt (hI:Inv P ops K asg rf pa0 listed a w D ord pend pa) {m:Nat} (hm:m∈D.map (·.i)∨m∈ord):m < ops.size:=by
 rcases hm with hm | hm
 · obtain ⟨d,hd,rfl⟩:=List.mem_map.1 hm
   exact (Array.getElem?_eq_some_iff.1 (hI.dop d hd).1).1
 · obtain ⟨o,ho⟩:=rowB_mem hI.row m hm
   exact (Array.getElem?_eq_some_iff.1 ho).1
theorem Inv.ready (hI:Inv P ops K asg rf pa0 listed a w D ord pend pa) {i:Nat} (hr:i∈Region.ready .any ops listed) :
 (i∈D.map (·.i)∨i∈ord)∧∃ o,ops[i]? = some o∧∀ m,(m∈D.map (·.i)∨m∈ord)→waitsOn o [m] = false:=by
 obtain ⟨h1,o,ho,h2⟩:=mem_ready.1 hr
 have hi:i < ops.size:=(Array.getElem?_eq_some_iff.1 ho).1
 refine ⟨(hI.un i hi).1 h1,o,ho,fun m hm=>?_⟩
 cases hw:waitsOn o [m] with
 | false=>rfl
 | true =>
  obtain ⟨e,he,hb,hem⟩:=waitsOn_spec.1 hw
  have h3:=h2 e he hb
  have h4:=getD_both' ((hI.un m (hI.lt hm)).2 hm)
  rw [List.mem_singleton.1 hem,h4] at h3
  cases h3
theorem Inv.done (hI:Inv P ops K asg rf pa0 listed a w D ord pend pa) (h0:Region.ready .any ops listed = []):D = []∧ord = []:=by
 have key:∀ i o,ops[i]? = some o→(i∈D.map (·.i)∨i∈ord)→(∀ e∈o.after,Region.binds .any e = true→e.on < ops.size∧¬ (e.on∈D.map (·.i)∨e.on∈ord))→False:=by
  intro i o ho hi he
  have:i∈Region.ready .any ops listed:=by
   refine mem_ready.2 ⟨(hI.un i (hI.lt hi)).2 hi,o,ho,fun e h1 h2=>?_⟩
   obtain ⟨h3,h4⟩:=he e h1 h2
   exact getD_in' (by rw [hI.sz]; exact h3) fun h=>h4 ((hI.un _ h3).1 h)
  rw [h0] at this
  cases this
 cases D with
 | cons d r =>
  exfalso
  obtain ⟨h1,h2,_,h3⟩:=hI.dop d (by simp)
  refine key d.i d.o h1 (.inl (by simp)) fun e he hb=>⟨h3 e he hb,?_⟩
  have hno:∀ x,waitsOn d.o [x] = false→e.on≠x:=by
   intro x hx hex
   rw [waitsOn_spec.2 ⟨e,he,hb,by simp [hex]⟩] at hx
   cases hx
  rintro (h | h)
  · obtain ⟨d',hd',h'⟩:=List.mem_map.1 h
    rcases List.mem_cons.1 hd' with rfl | hd'
    · exact hno _ h2 h'.symm
    · exact hno _ ((List.pairwise_cons.1 hI.dd).1 d' hd').2.1 h'.symm
  · exact hno _ (hI.dor d (by simp) _ h).2.1 rfl
 | nil =>
  cases ord with
  | nil=>exact ⟨rfl,rfl⟩
  | cons k r =>
   exfalso
   obtain ⟨o,h1,_,h2,_⟩:=rowB_out hI.row
   refine key k o h1 (.inr (by simp)) fun e he hb=>?_
   obtain ⟨h3,h4,h5⟩:=h2 e he hb
   exact ⟨h3,by simp [h4,h5]⟩
theorem un_set {U U':Nat→Prop} {i:Nat} (hs:listed.size = ops.size) (hu:∀ j,j < ops.size→(listed.getD j true = false↔U j)) (hU:∀ j,U' j↔U j∧j≠i) :
 (listed.setIfInBounds i true).size = ops.size∧∀ j,j < ops.size→((listed.setIfInBounds i true).getD j true = false↔U' j):=by
 refine ⟨by simpa using hs,fun j hj=>?_⟩
 rw [hU j,← hu j hj]
 by_cases e:i = j
 · subst e
   have hlt:i < listed.size:=by rw [hs]; exact hj
   simp [Array.getD_eq_getD_getElem?,hlt]
 · rw [getD_set_ne true e]
   exact ⟨fun h=>⟨h,fun h'=>e h'.symm⟩,fun h=>h.1⟩
theorem Inv.take (hI:Inv P ops K asg rf pa0 listed a w D ord pend pa) {i:Nat} (hr:i∈Region.ready .any ops listed) (hi:i∈D.map (·.i)) :
 ∃ d0:DE,d0.i = i∧kO P d0.o≤1∧ops[i]? = some d0.o∧YA P ops w d0.o d0.v a∧∃ D',D'.length + 1 = D.length∧Inv P ops K asg rf pa0 (listed.setIfInBounds i true) (a.put d0.o.dst d0.v) w D' ord pend pa:=by
 obtain ⟨_,o,ho,hw⟩:=hI.ready hr
 obtain ⟨d0,hd0,rfl⟩:=List.mem_map.1 hi
 obtain ⟨D1,D2,rfl⟩:=List.append_of_mem hd0
 obtain ⟨h1,h2,h3,h4⟩:=hI.dop d0 hd0
 rw [h1] at ho; cases ho
 obtain ⟨hp1,hp2,hp12⟩:=List.pairwise_append.1 hI.dd
 obtain ⟨hp3,hp4⟩:=List.pairwise_cons.1 hp2
 have hap:∀ d∈D1,(∀ cs b,d.o.op≠.select cs b)∧d.o.apart ops d0.o = true:=by
  intro d hd
  refine ⟨kO_sel (P:=P) (by have:=(hI.dop d (by simp [hd])).2.2.1; omega),((hp12 d hd d0 (by simp)).2.2 _ h1).resolve_left ?_⟩
  rw [hw d.i (.inl (by simp only [List.map_append,List.mem_append]; exact .inl (List.mem_map_of_mem hd)))]; simp
 obtain ⟨h5,h6,h7⟩:=seq_first lks_phi (kO_sel (P:=P) (by omega)) D1 D2 a hap hI.sq
 refine ⟨d0,rfl,h3,h1,h5.1,D1 ++ D2,by simp; omega,?_⟩
 have hne:∀ d∈D1 ++ D2,d.i≠d0.i:=by
  intro d hd
  rcases List.mem_append.1 hd with hd | hd
  · exact (hp12 d hd d0 (by simp)).1
  · exact fun h=>(hp3 d hd).1 h.symm
 obtain ⟨hs,hu⟩:=un_set (U':=fun j=>j∈(D1 ++ D2).map (·.i)∨j∈ord) (i:=d0.i) hI.sz hI.un (by
  intro j
  simp only [List.map_append,List.mem_append,List.map_cons,List.mem_cons]
  constructor
  · rintro ((h | h) | h)
    · refine ⟨.inl (.inl h),?_⟩
      obtain ⟨d,hd,rfl⟩:=List.mem_map.1 h; exact hne d (by simp [hd])
    · refine ⟨.inl (.inr (.inr h)),?_⟩
      obtain ⟨d,hd,rfl⟩:=List.mem_map.1 h; exact hne d (by simp [hd])
    · exact ⟨.inr h,fun e=>(hI.dor d0 hd0 _ h).1 e.symm⟩
  · rintro ⟨(h | h | h) | h,hn⟩
    · exact .inl (.inl h)
    · exact absurd h hn
    · exact .inl (.inr h)
    · exact .inr h)
 have hsub:∀ d∈D1 ++ D2,d∈D1 ++ d0 :: D2:=by
  intro d hd; rcases List.mem_append.1 hd with hd | hd <;> simp [hd]
 refine ⟨hs,hu,fun d hd=>hI.dop d (hsub d hd),?_,fun d hd=>hI.dor d (hsub d hd),hI.row,?_,by rw [← h7]; exact hI.le,hI.kp,hI.run⟩
 · exact List.pairwise_append.2 ⟨hp1,hp4,fun x hx y hy=>hp12 x hx y (by simp [hy])⟩
 · refine seq_mono _ _ ?_ h6
   intro d hd b hb
   refine ⟨hb.1,?_⟩
   rcases hb.2 with hb | ⟨p,h8,h9,h10,h11⟩
   · exact .inl hb
   · refine .inr ⟨p,h8,h9,?_,h11⟩
     intro m hm
     obtain ⟨h12,q,h13,h14⟩:=h10 m hm
     refine ⟨?_,q,h13,h14⟩
     have hmn:m≠d0.i:=by
      rintro rfl
      rw [h1] at h13; cases h13
      obtain ⟨e,he,hb,hem⟩:=waitsOn_spec.1 h14
      have hmU:e.on∈(D1 ++ d0 :: D2).map (·.i):=by
       rcases List.mem_cons.1 hem with hem | hem
       · rw [hem,h9]; exact List.mem_map_of_mem (hsub d hd)
       · exact (h10 _ hem).1
      have:=hw e.on (.inl hmU)
      rw [waitsOn_spec.2 ⟨e,he,hb,by simp⟩] at this
      cases this
     simp only [List.map_append,List.mem_append,List.map_cons,List.mem_cons] at h12 ⊢
     rcases h12 with h | h | h
     · exact .inl h
     · exact absurd h hmn
     · exact .inr h
theorem Inv.delay {k:Nat} {rest:List Nat} (hI:Inv P ops K asg rf pa0 listed a w D (k :: rest) pend pa) {o:Oper} (ho:ops[k]? = some o) (hk:kO P o≤1) {v:Value} {pend':List PE} {pa1:PF} (hle:pa1.le (app D a)) (hkp:Keep asg rf pa0 pa1)
 (hao:∀ d,o.dst = some d→d∈asg) (hp:∀ p∈addD o k pend,p∈pend') (hy:YA P ops w o v (app D a)) (hl:Live P ops pend' ((D ++ [(⟨k,o,v⟩:DE)]).map (·.i)) ⟨k,o,v⟩ (app D a))
 (hrun:opsD P ops K rest pend' (pa1.put o.dst v) w):Inv P ops K asg rf pa0 listed a w (D ++ [(⟨k,o,v⟩:DE)]) rest pend' (pa1.put o.dst v):=by
 obtain ⟨o',ho',h1,h2,h3,h4,_,h5⟩:=rowB_out hI.row
 rw [ho] at ho'; cases ho'
 refine ⟨hI.sz,?_,?_,?_,?_,h5,?_,?_,hkp.put hao _,hrun⟩
 · intro j hj
   rw [hI.un j hj]
   simp only [List.map_append,List.map_cons,List.map_nil,List.mem_append,List.mem_cons,List.not_mem_nil,or_false]
   constructor
   · rintro (h | h | h)
     · exact .inl (.inl h)
     · exact .inl (.inr h)
     · exact .inr h
   · rintro ((h | h) | h)
     · exact .inl h
     · exact .inr (.inl h)
     · exact .inr (.inr h)
 · intro d hd
   rcases List.mem_append.1 hd with hd | hd
   · exact hI.dop d hd
   · rw [List.mem_singleton.1 hd]
     refine ⟨ho,?_,hk,fun e he hb=>(h2 e he hb).1⟩
     cases hw:waitsOn o [k] with
     | false=>rfl
     | true=>obtain ⟨e,he,hb,hem⟩:=waitsOn_spec.1 hw; exact absurd (List.mem_singleton.1 hem) (h2 e he hb).2.1
 · refine List.pairwise_append.2 ⟨hI.dd,List.pairwise_singleton _ _,?_⟩
   intro x hx y hy
   rw [List.mem_singleton.1 hy]
   exact hI.dor x hx k (by simp)
 · intro d hd x hx
   rcases List.mem_append.1 hd with hd | hd
   · exact hI.dor d hd x (by simp [hx])
   · rw [List.mem_singleton.1 hd]
     refine ⟨fun e=>h1 (by rw [show k = x from e]; exact hx),?_,fun q hq=>h4 hk x hx q hq⟩
     cases hw:waitsOn o [x] with
     | false=>rfl
     | true=>obtain ⟨e,he,hb,hem⟩:=waitsOn_spec.1 hw; exact absurd (by rw [List.mem_singleton.1 hem]; exact hx) (h2 e he hb).2.2
 · refine seq_snoc _ _ (seq_mono _ _ ?_ hI.sq) ⟨hy,hl⟩
   intro d hd b hb
   exact ⟨hb.1,live_more hp (live_grow (by intro m hm; simp only [List.map_append,List.mem_append]; exact .inl hm) (by simp) ho hb.2)⟩
 · simp only [app,List.foldl_append,List.foldl_cons,List.foldl_nil]
   exact PF.le_put hle _ _
theorem Inv.head {k:Nat} {rest:List Nat} (hI:Inv P ops K asg rf pa0 listed a w D (k :: rest) pend pa) (hr:k∈Region.ready .any ops listed) {o:Oper} (ho:ops[k]? = some o) (hs:∀ cs b,o.op≠.select cs b) {v:Value} {w':World} {pend':List PE} {pa1:PF} (hle:pa1.le (app D a)) (hkp:Keep asg rf pa0 pa1)
 (hao:∀ d,o.dst = some d→d∈asg) (hp:∀ p∈addD o k pend,p∈pend')
 (hy:w' = w∨∀ p∈pend,waitsOn o (p.i :: p.desc) = false→opX P p.pa.t p.o w' fun v' _=>v' = p.v)
 (hrun:opsD P ops K rest pend' (pa1.put o.dst v) w'):Inv P ops K asg rf pa0 (listed.setIfInBounds k true) (a.put o.dst v) w' D rest pend' (pa1.put o.dst v):=by
 obtain ⟨o',ho',h1,h2,h3,h4,_,h5⟩:=rowB_out hI.row
 rw [ho] at ho'; cases ho'
 obtain ⟨_,o',ho',hw⟩:=hI.ready hr
 rw [ho] at ho'; cases ho'
 have hap:∀ d∈D,(∀ cs b,d.o.op≠.select cs b)∧d.o.apart ops o = true:=by
  intro d hd
  refine ⟨kO_sel (P:=P) (by have:=(hI.dop d hd).2.2.1; omega),((hI.dor d hd k (by simp)).2.2 _ ho).resolve_left ?_⟩
  rw [hw d.i (.inl (List.mem_map_of_mem hd))]; simp
 obtain ⟨hs',hu⟩:=un_set (U':=fun j=>j∈D.map (·.i)∨j∈rest) (i:=k) hI.sz hI.un (by
  intro j
  simp only [List.mem_cons]
  constructor
  · rintro (h | h)
    · refine ⟨.inl h,?_⟩
      obtain ⟨d,hd,rfl⟩:=List.mem_map.1 h; exact (hI.dor d hd k (by simp)).1
    · exact ⟨.inr (.inr h),fun e=>h1 (e ▸ h)⟩
  · rintro ⟨h | h | h,hn⟩
    · exact .inl h
    · exact absurd h hn
    · exact .inr h)
 refine ⟨hs',hu,hI.dop,hI.dd,fun d hd x hx=>hI.dor d hd x (by simp [hx]),h5,?_,?_,hkp.put hao _,hrun⟩
 · have hmap:SeqD (Phi P ops w' pend' (D.map (·.i))) D a:=by
    refine seq_mono _ _ ?_ hI.sq
    intro d hd b hb
    have hlr:=live_ready (k:=k) (List.mem_map_of_mem hd) (fun m hm=>hw m (.inl hm)) hb.2
    refine ⟨?_,?_⟩
    · rcases hy with rfl | hy
      · exact hb.1
      · rcases hlr with h | ⟨p,h8,_,h10,_,_,h12⟩
        · exact h w'
        · exact h12 w' (hy p h8 h10)
    · rcases hlr with h | ⟨p,h8,h9,_,h10,h11,h12⟩
      · exact .inl h
      · refine .inr ⟨p,hp p ?_,h9,h11,h12⟩
        rw [← h10]; exact addD_mem h8
   exact seq_put lks_phi D a hap hmap
 · rw [app_put (ops:=ops) D a (fun d hd=>(hap d hd).2)]
   exact PF.le_put hle _ _
end
theorem inv_wp {ro:Option Nat} {ops:Array Oper} {K:PF→World→Prop} {asg:List Nat} {rf:Bool} {pa0:PF} {Q:Exit→Act→World→Prop} (ha:∀ o∈ops.toList,∀ d,o.dst = some d→d∈asg)
 (hQ:∀ pa a w,pa.le a→Keep asg rf pa0 pa→K pa w→Q .normal a w) :
 ∀ (n:Nat) (listed:Array Bool) (a:Act) (w:World) (D:List DE) (ord:List Nat) (pend:List PE) (pa:PF),Inv P ops K asg rf pa0 listed a w D ord pend pa→D.length + ord.length≤n→wpAnyIn (fen ro) 0 P .any ops Q n listed a w:=by
 have hfin:∀ {listed:Array Bool} {a:Act} {w:World} {D:List DE} {ord:List Nat} {pend:List PE} {pa:PF},Inv P ops K asg rf pa0 listed a w D ord pend pa→D = []∧ord = []→Q .normal a w:=by
  rintro listed a w D ord pend pa hI ⟨rfl,rfl⟩
  exact hQ _ _ _ hI.le hI.kp hI.run
 intro n
 induction n with
 | zero =>
  intro listed a w D ord pend pa hI hn
  have h:D = []∧ord = []:=⟨List.length_eq_zero_iff.1 (by omega),List.length_eq_zero_iff.1 (by omega)⟩
  refine ⟨?_,hfin hI h⟩
  obtain ⟨rfl,rfl⟩:=h
  apply List.eq_nil_iff_forall_not_mem.2
  intro i hi
  have:=(hI.ready hi).1
  simp at this
 | succ n ih =>
  intro listed a w D ord pend pa hI hn
  refine ⟨fun h0=>hfin hI (hI.done h0),fun i hi=>?_⟩
  by_cases hiD:i∈D.map (·.i)
  · obtain ⟨d0,rfl,hk0,h1,h2,D',h3,h4⟩:=hI.take hi hiD
    have hd:∀ c,d0.o.op≠.defer c:=by
     intro c hc; simp [kO,hc] at hk0
    have hnext:=ih _ _ _ D' ord pend pa h4 (by omega)
    unfold wpOpIn
    simp only [h1]
    rcases h2 with ⟨hw,hv | ⟨hv,hv'⟩⟩ | ⟨hw,hv⟩
    · rw [if_pos hw]
      refine ⟨fun _ _=>trivial,?_⟩
      rw [semAt_fen hd,hv,Oper.uponIn_value]; exact hnext
    · rw [if_pos hw]
      refine ⟨fun _ _=>trivial,?_⟩
      rw [semAt_fen hd,hv',Oper.uponIn_skip,← hv]; exact hnext
    · rw [if_neg (by rw [hw]; simp)]
      exact ⟨fun _ _=>trivial,by rw [← hv]; exact hnext⟩
  · have hio:i∈ord:=(hI.ready hi).1.resolve_left hiD
    clear hiD
    induction ord generalizing D pend pa with
    | nil=>cases hio
    | cons k rest ihr =>
     obtain ⟨o,ho,h1,h2,h3,h4,h5,h6⟩:=rowB_out hI.row
     have hao:∀ d,o.dst = some d→d∈asg:=ha o (List.mem_of_getElem? (by rw [Array.getElem?_toList]; exact ho))
     obtain ⟨pa1,hle,hkp,hrun⟩:=stepD_out ha ho hI.le hI.kp hI.run
     by_cases hik:i = k
     · subst hik
       obtain ⟨_,o',ho',hw⟩:=hI.ready hi
       rw [ho] at ho'; cases ho'
       have hal:Alike ops o (app D a) a:=by
        refine app_alike (kO_sel h3) D a fun d hd=>((hI.dor d hd i (by simp)).2.2 _ ho).resolve_left ?_
        rw [hw d.i (.inl (List.mem_map_of_mem hd))]; simp
       unfold wpOpIn
       simp only [ho]
       rw [← hal.2]
       rcases hrun with ⟨hwt,hrun⟩ | ⟨hwt,hrun⟩
       · rw [if_pos hwt]
         unfold runD at hrun
         split at hrun
         · rename_i hk0
           refine op_wp' hle hal.1.symm ?_ (cond_opX (by omega) hrun)
           rintro v w' ⟨rfl,h⟩
           exact ih _ _ _ D rest _ _ (hI.head hi ho (kO_sel h3) hle hkp hao (fun _ h=>h) (.inl rfl) h) (by simp at hn; omega)
         · rename_i hk0
           refine op_wp' hle hal.1.symm ?_ (cond_opX (by omega) hrun)
           rintro v w' ⟨rfl,h⟩
           exact ih _ _ _ D rest _ _ (hI.head hi ho (kO_sel h3) hle hkp hao (fun _ h=>List.mem_cons_of_mem _ h) (.inl rfl) h) (by simp at hn; omega)
         · refine op_wp' hle hal.1.symm ?_ hrun
           intro v w' h
           obtain ⟨h7,h8⟩:=rchk_out h
           exact ih _ _ _ D rest _ _ (hI.head hi ho (kO_sel h3) hle hkp hao (fun _ h=>h) (.inr h8) h7) (by simp at hn; omega)
         · exact hrun.elim
       · rw [if_neg (by rw [hwt]; simp)]
         exact ⟨fun _ _=>trivial,ih _ _ _ D rest _ _ (hI.head hi ho (kO_sel h3) hle hkp hao (fun _ h=>h) (.inl rfl) hrun) (by simp at hn; omega)⟩
     · have hir:i∈rest:=(List.mem_cons.1 hio).resolve_left hik
       have hk1:kO P o≤1:=by
        rcases Nat.lt_or_ge 1 (kO P o) with h | h
        · exfalso
          obtain ⟨_,q,hq,hw⟩:=hI.ready hi
          obtain ⟨e,he,hb,hem⟩:=waitsOn_spec.1 (h5 (by omega) i hir q hq)
          have:=hw e.on (.inr hem)
          rw [waitsOn_spec.2 ⟨e,he,hb,by simp⟩] at this
          cases this
        · exact h
       rcases hrun with ⟨hwt,hrun⟩ | ⟨hwt,hrun⟩
       · unfold runD at hrun
         split at hrun
         · rename_i hk0
           obtain ⟨v,h7,h8⟩:=opX_blind (ops:=ops) hle hk0 hwt hrun
           exact ihr _ _ _ (hI.delay ho hk1 hle hkp hao (fun _ h=>h) (h8 w) (.inl h8) h7) (by simp at hn ⊢; omega) hir
         · rename_i hk0
           obtain ⟨v,h7,h8⟩:=opX_run (ops:=ops) hle (by omega) hwt hrun
           exact ihr _ _ _ (hI.delay ho hk1 hle hkp hao (fun _ h=>List.mem_cons_of_mem _ h) h8 (.inr ⟨⟨k,pa1,o,v,[]⟩,by simp,rfl,by simp,fun w' h=>opX_again hle hk1 hwt h⟩) h7) (by simp at hn ⊢; omega) hir
         · omega
         · exact hrun.elim
       · exact ihr _ _ _ (hI.delay ho hk1 hle hkp hao (fun _ h=>h) (.inr ⟨hwt,rfl⟩) (.inl fun w'=>.inr ⟨hwt,rfl⟩) hrun) (by simp at hn ⊢; omega) hir
theorem filF_mem {f:Nat→Bool} {x:Nat}:∀ {l:List Nat},x∈filF f l↔x∈l∧f x = true:=by
 intro l
 induction l with
 | nil=>simp [filF]
 | cons i r ih =>
  simp only [filF]
  cases h:f i with
  | true =>
   simp only [List.mem_cons,ih]
   constructor
   · rintro (rfl | h')
     · exact ⟨.inl rfl,h⟩
     · exact ⟨.inr h'.1,h'.2⟩
   · rintro ⟨rfl | h',h2⟩
     · exact .inl rfl
     · exact .inr ⟨h',h2⟩
  | false =>
   simp only [List.mem_cons,ih]
   constructor
   · exact fun h'=>⟨.inr h'.1,h'.2⟩
   · rintro ⟨rfl | h',h2⟩
     · rw [h] at h2; cases h2
     · exact ⟨h',h2⟩
theorem findF_some {f:Nat→Bool} {x:Nat}:∀ {l:List Nat},findF f l = some x→x∈l∧f x = true:=by
 intro l
 induction l with
 | nil=>intro h; cases h
 | cons i r ih =>
  intro h
  simp only [findF] at h
  cases hf:f i with
  | true=>rw [hf] at h; cases h; exact ⟨List.mem_cons_self,hf⟩
  | false=>rw [hf] at h; obtain ⟨h1,h2⟩:=ih h; exact ⟨List.mem_cons_of_mem _ h1,h2⟩
theorem lessF_mem {l:List Nat} {i x:Nat}:x∈lessF l i↔x∈l∧x≠i:=by
 unfold lessF
 rw [filF_mem]
 refine and_congr_right fun _=>?_
 rw [Bool.not_eq_true']
 constructor
 · intro h e; subst e; rw [Nat.beq_refl] at h; cases h
 · intro h
   cases hb:Nat.beq x i with
   | false=>rfl
   | true=>exact absurd (Nat.eq_of_beq_eq_true hb) h
theorem filF_len (f:Nat→Bool):∀ l:List Nat,(filF f l).length≤l.length:=by
 intro l
 induction l with
 | nil=>exact Nat.le_refl _
 | cons i r ih=>simp only [filF]; split <;> simp only [List.length_cons] <;> omega
theorem lessF_len {l:List Nat} {i:Nat} (h:i∈l):(lessF l i).length < l.length:=by
 unfold lessF
 induction l with
 | nil=>cases h
 | cons k r ih =>
  simp only [filF]
  have hl:=filF_len (fun k=>!Nat.beq k i) r
  by_cases hk:k = i
  · subst hk; simp only [Nat.beq_refl,Bool.not_true,List.length_cons]; omega
  · have hi:=(List.mem_cons.1 h).resolve_left fun e=>hk e.symm
    have:=ih hi
    split <;> simp only [List.length_cons] <;> omega
theorem allF_all {f:Nat→Prop}:∀ {l:List Nat},allF f l→∀ i∈l,f i:=by
 intro l
 induction l with
 | nil=>intro h; exact h.elim
 | cons i r ih =>
  intro h j hj
  cases r with
  | nil=>rw [List.mem_singleton.1 hj]; exact h
  | cons k r =>
   rcases List.mem_cons.1 hj with rfl | hj
   · exact h.1
   · exact ih h.2 j hj
def Fork (P:Program) (ops:Array Oper):Prop:=∀ i o,ops[i]? = some o→kO P o≤2∧(∀ e∈o.after,Region.binds .any e = true→e.on < i)∧(kO P o≤1→∀ k q,k≠i→ops[k]? = some q→waitsOn q [i] = true∨waitsOn o [k] = true∨o.apart ops q = true)
theorem fork_of {ops:Array Oper} (h:forkB P ops = true):Fork P ops:=by
 intro i o ho
 have hi:i < ops.size:=(Array.getElem?_eq_some_iff.1 ho).1
 have ho':ops.toList[i]? = some o:=by rw [Array.getElem?_toList]; exact ho
 unfold forkB at h
 have h:=List.all_eq_true.1 h i (List.mem_range.2 hi)
 rw [ho'] at h
 simp only [Bool.and_eq_true,Bool.or_eq_true,Bool.not_eq_true',List.all_eq_true] at h
 obtain ⟨h1,h2,h3⟩:=h
 refine ⟨Nat.le_of_ble_eq_true h1,fun e he hb=>?_,fun hk k q hne hq=>?_⟩
 · have:=(h2 e (by simpa using he)).resolve_left (by rw [hb]; simp)
   simpa [Nat.blt_eq] using this
 · have hk':Nat.ble (kO P o) 1 = true:=Nat.ble_eq_true_of_le hk
   have h3:=h3.resolve_left (by rw [hk']; simp)
   have hks:k < ops.size:=(Array.getElem?_eq_some_iff.1 hq).1
   have h3:=(h3 k (List.mem_range.2 hks)).resolve_left (fun e=>hne (Nat.eq_of_beq_eq_true e))
   have hq':ops.toList[k]? = some q:=by rw [Array.getElem?_toList]; exact hq
   rw [hq'] at h3
   simpa using h3
structure InvF (P:Program) (ops:Array Oper) (K:PF→World→Prop) (asg:List Nat) (rf:Bool) (pa0:PF) (listed:Array Bool) (a:Act) (w:World) (D:List DE) (rest:List Nat) (n:Nat) (pend:List PE) (pa:PF):Prop where
 sz:listed.size = ops.size
 un:∀ j,j < ops.size→(listed.getD j true = false↔j∈D.map (·.i)∨j∈rest)
 lt:∀ j∈rest,j < ops.size
 dop:∀ d∈D,ops[d.i]? = some d.o∧kO P d.o≤1
 dd:D.Pairwise fun d x=>DR ops d x.i
 dor:∀ d∈D,∀ x∈rest,DR ops d x
 sq:SeqD (Phi P ops w pend (D.map (·.i))) D a
 le:pa.le (app D a)
 kp:Keep asg rf pa0 pa
 run:opsF P ops K n rest pend pa w
section
variable {ops:Array Oper} {K:PF→World→Prop} {asg:List Nat} {rf:Bool} {pa0:PF} {listed:Array Bool} {a:Act} {D:List DE} {rest:List Nat} {n:Nat} {pend:List PE} {pa:PF}
theorem InvF.lt' (hI:InvF P ops K asg rf pa0 listed a w D rest n pend pa) {m:Nat} (hm:m∈D.map (·.i)∨m∈rest):m < ops.size:=by
 rcases hm with hm | hm
 · obtain ⟨d,hd,rfl⟩:=List.mem_map.1 hm
   exact (Array.getElem?_eq_some_iff.1 (hI.dop d hd).1).1
 · exact hI.lt m hm
theorem InvF.ready (hI:InvF P ops K asg rf pa0 listed a w D rest n pend pa) {i:Nat} (hr:i∈Region.ready .any ops listed) :
 (i∈D.map (·.i)∨i∈rest)∧∃ o,ops[i]? = some o∧∀ m,(m∈D.map (·.i)∨m∈rest)→waitsOn o [m] = false:=by
 obtain ⟨h1,o,ho,h2⟩:=mem_ready.1 hr
 have hi:i < ops.size:=(Array.getElem?_eq_some_iff.1 ho).1
 refine ⟨(hI.un i hi).1 h1,o,ho,fun m hm=>?_⟩
 cases hw:waitsOn o [m] with
 | false=>rfl
 | true =>
  obtain ⟨e,he,hb,hem⟩:=waitsOn_spec.1 hw
  have h3:=h2 e he hb
  have h4:=getD_both' ((hI.un m (hI.lt' hm)).2 hm)
  rw [List.mem_singleton.1 hem,h4] at h3
  cases h3
theorem InvF.done (hF:Fork P ops) (hI:InvF P ops K asg rf pa0 listed a w D rest n pend pa) (h0:Region.ready .any ops listed = []):D = []∧rest = []:=by
 have key:∀ m i,i < m→¬ (i∈D.map (·.i)∨i∈rest):=by
  intro m
  induction m with
  | zero=>intro i h; omega
  | succ m ih =>
   intro i him hi
   have hlt:=hI.lt' hi
   have ho:ops[i]? = some ops[i]:=Array.getElem?_eq_getElem hlt
   have:i∈Region.ready .any ops listed:=by
    refine mem_ready.2 ⟨(hI.un i hlt).2 hi,_,ho,fun e h1 h2=>?_⟩
    have h3:=(hF i _ ho).2.1 e h1 h2
    exact getD_in' (by rw [hI.sz]; omega) fun h=>ih e.on (by omega) ((hI.un _ (by omega)).1 h)
   rw [h0] at this
   cases this
 constructor
 · cases D with
   | nil=>rfl
   | cons d r=>exact absurd (.inl (by simp)) (key (d.i + 1) d.i (by omega))
 · cases rest with
   | nil=>rfl
   | cons k r=>exact absurd (.inr (by simp)) (key (k + 1) k (by omega))
theorem InvF.take (hI:InvF P ops K asg rf pa0 listed a w D rest n pend pa) {i:Nat} (hr:i∈Region.ready .any ops listed) (hi:i∈D.map (·.i)) :
 ∃ d0:DE,d0.i = i∧kO P d0.o≤1∧ops[i]? = some d0.o∧YA P ops w d0.o d0.v a∧∃ D',D'.length + 1 = D.length∧InvF P ops K asg rf pa0 (listed.setIfInBounds i true) (a.put d0.o.dst d0.v) w D' rest n pend pa:=by
 obtain ⟨_,o,ho,hw⟩:=hI.ready hr
 obtain ⟨d0,hd0,rfl⟩:=List.mem_map.1 hi
 obtain ⟨D1,D2,rfl⟩:=List.append_of_mem hd0
 obtain ⟨h1,h3⟩:=hI.dop d0 hd0
 rw [h1] at ho; cases ho
 obtain ⟨hp1,hp2,hp12⟩:=List.pairwise_append.1 hI.dd
 obtain ⟨hp3,hp4⟩:=List.pairwise_cons.1 hp2
 have hap:∀ d∈D1,(∀ cs b,d.o.op≠.select cs b)∧d.o.apart ops d0.o = true:=by
  intro d hd
  refine ⟨kO_sel (P:=P) (by have:=(hI.dop d (by simp [hd])).2; omega),((hp12 d hd d0 (by simp)).2.2 _ h1).resolve_left ?_⟩
  rw [hw d.i (.inl (by simp only [List.map_append,List.mem_append]; exact .inl (List.mem_map_of_mem hd)))]; simp
 obtain ⟨h5,h6,h7⟩:=seq_first lks_phi (kO_sel (P:=P) (by omega)) D1 D2 a hap hI.sq
 refine ⟨d0,rfl,h3,h1,h5.1,D1 ++ D2,by simp; omega,?_⟩
 have hne:∀ d∈D1 ++ D2,d.i≠d0.i:=by
  intro d hd
  rcases List.mem_append.1 hd with hd | hd
  · exact (hp12 d hd d0 (by simp)).1
  · exact fun h=>(hp3 d hd).1 h.symm
 obtain ⟨hs,hu⟩:=un_set (U':=fun j=>j∈(D1 ++ D2).map (·.i)∨j∈rest) (i:=d0.i) hI.sz hI.un (by
  intro j
  simp only [List.map_append,List.mem_append,List.map_cons,List.mem_cons]
  constructor
  · rintro ((h | h) | h)
    · refine ⟨.inl (.inl h),?_⟩
      obtain ⟨d,hd,rfl⟩:=List.mem_map.1 h; exact hne d (by simp [hd])
    · refine ⟨.inl (.inr (.inr h)),?_⟩
      obtain ⟨d,hd,rfl⟩:=List.mem_map.1 h; exact hne d (by simp [hd])
    · exact ⟨.inr h,fun e=>(hI.dor d0 hd0 _ h).1 e.symm⟩
  · rintro ⟨(h | h | h) | h,hn⟩
    · exact .inl (.inl h)
    · exact absurd h hn
    · exact .inl (.inr h)
    · exact .inr h)
 have hsub:∀ d∈D1 ++ D2,d∈D1 ++ d0 :: D2:=by
  intro d hd; rcases List.mem_append.1 hd with hd | hd <;> simp [hd]
 refine ⟨hs,hu,hI.lt,fun d hd=>hI.dop d (hsub d hd),?_,fun d hd=>hI.dor d (hsub d hd),?_,by rw [← h7]; exact hI.le,hI.kp,hI.run⟩
 · exact List.pairwise_append.2 ⟨hp1,hp4,fun x hx y hy=>hp12 x hx y (by simp [hy])⟩
 · refine seq_mono _ _ ?_ h6
   intro d hd b hb
   refine ⟨hb.1,?_⟩
   rcases hb.2 with hb | ⟨p,h8,h9,h10,h11⟩
   · exact .inl hb
   · refine .inr ⟨p,h8,h9,?_,h11⟩
     intro m hm
     obtain ⟨h12,q,h13,h14⟩:=h10 m hm
     refine ⟨?_,q,h13,h14⟩
     have hmn:m≠d0.i:=by
      rintro rfl
      rw [h1] at h13; cases h13
      obtain ⟨e,he,hb,hem⟩:=waitsOn_spec.1 h14
      have hmU:e.on∈(D1 ++ d0 :: D2).map (·.i):=by
       rcases List.mem_cons.1 hem with hem | hem
       · rw [hem,h9]; exact List.mem_map_of_mem (hsub d hd)
       · exact (h10 _ hem).1
      have:=hw e.on (.inl hmU)
      rw [waitsOn_spec.2 ⟨e,he,hb,by simp⟩] at this
      cases this
     simp only [List.map_append,List.mem_append,List.map_cons,List.mem_cons] at h12 ⊢
     rcases h12 with h | h | h
     · exact .inl h
     · exact absurd h hmn
     · exact .inr h
theorem InvF.delay (hF:Fork P ops) {k m:Nat} (hI:InvF P ops K asg rf pa0 listed a w D rest n pend pa) (hkr:k∈rest) {o:Oper} (ho:ops[k]? = some o) (hwr:waitsOn o rest = false) (hk:kO P o≤1) {v:Value} {pend':List PE} {pa1:PF} (hle:pa1.le (app D a)) (hkp:Keep asg rf pa0 pa1)
 (hao:∀ d,o.dst = some d→d∈asg) (hp:∀ p∈addD o k pend,p∈pend') (hy:YA P ops w o v (app D a)) (hl:Live P ops pend' ((D ++ [(⟨k,o,v⟩:DE)]).map (·.i)) ⟨k,o,v⟩ (app D a))
 (hrun:opsF P ops K m (lessF rest k) pend' (pa1.put o.dst v) w):InvF P ops K asg rf pa0 listed a w (D ++ [(⟨k,o,v⟩:DE)]) (lessF rest k) m pend' (pa1.put o.dst v):=by
 have hno:∀ x∈rest,waitsOn o [x] = false:=by
  intro x hx
  cases hw:waitsOn o [x] with
  | false=>rfl
  | true=>rw [waitsOn_mono (l':=rest) (by simpa using hx) hw] at hwr; cases hwr
 refine ⟨hI.sz,?_,fun j hj=>hI.lt j (lessF_mem.1 hj).1,?_,?_,?_,?_,?_,hkp.put hao _,hrun⟩
 · intro j hj
   rw [hI.un j hj]
   simp only [List.map_append,List.map_cons,List.map_nil,List.mem_append,List.mem_cons,List.not_mem_nil,or_false,lessF_mem]
   constructor
   · rintro (h | h)
     · exact .inl (.inl h)
     · by_cases e:j = k
       · exact .inl (.inr e)
       · exact .inr ⟨h,e⟩
   · rintro ((h | h) | h)
     · exact .inl h
     · exact .inr (h ▸ hkr)
     · exact .inr h.1
 · intro d hd
   rcases List.mem_append.1 hd with hd | hd
   · exact hI.dop d hd
   · rw [List.mem_singleton.1 hd]; exact ⟨ho,hk⟩
 · refine List.pairwise_append.2 ⟨hI.dd,List.pairwise_singleton _ _,?_⟩
   intro x hx y hy
   rw [List.mem_singleton.1 hy]
   exact hI.dor x hx k hkr
 · intro d hd x hx
   obtain ⟨hx1,hx2⟩:=lessF_mem.1 hx
   rcases List.mem_append.1 hd with hd | hd
   · exact hI.dor d hd x hx1
   · rw [List.mem_singleton.1 hd]
     refine ⟨fun e=>hx2 e.symm,hno x hx1,fun q hq=>?_⟩
     rcases (hF k o ho).2.2 hk x q hx2 hq with h | h | h
     · exact .inl h
     · rw [hno x hx1] at h; cases h
     · exact .inr h
 · refine seq_snoc _ _ (seq_mono _ _ ?_ hI.sq) ⟨hy,hl⟩
   intro d hd b hb
   exact ⟨hb.1,live_more hp (live_grow (by intro m hm; simp only [List.map_append,List.mem_append]; exact .inl hm) (by simp) ho hb.2)⟩
 · simp only [app,List.foldl_append,List.foldl_cons,List.foldl_nil]
   exact PF.le_put hle _ _
theorem InvF.head {k m:Nat} (hI:InvF P ops K asg rf pa0 listed a w D rest n pend pa) (hkr:k∈rest) (hr:k∈Region.ready .any ops listed) {o:Oper} (ho:ops[k]? = some o) {v:Value} {w':World} {pend':List PE} {pa1:PF} (hle:pa1.le (app D a)) (hkp:Keep asg rf pa0 pa1)
 (hao:∀ d,o.dst = some d→d∈asg) (hp:∀ p∈addD o k pend,p∈pend')
 (hy:w' = w∨∀ p∈pend,waitsOn o (p.i :: p.desc) = false→opX P p.pa.t p.o w' fun v' _=>v' = p.v)
 (hrun:opsF P ops K m (lessF rest k) pend' (pa1.put o.dst v) w'):InvF P ops K asg rf pa0 (listed.setIfInBounds k true) (a.put o.dst v) w' D (lessF rest k) m pend' (pa1.put o.dst v):=by
 obtain ⟨_,o',ho',hw⟩:=hI.ready hr
 rw [ho] at ho'; cases ho'
 have hap:∀ d∈D,(∀ cs b,d.o.op≠.select cs b)∧d.o.apart ops o = true:=by
  intro d hd
  refine ⟨kO_sel (P:=P) (by have:=(hI.dop d hd).2; omega),((hI.dor d hd k hkr).2.2 _ ho).resolve_left ?_⟩
  rw [hw d.i (.inl (List.mem_map_of_mem hd))]; simp
 obtain ⟨hs',hu⟩:=un_set (U':=fun j=>j∈D.map (·.i)∨j∈lessF rest k) (i:=k) hI.sz hI.un (by
  intro j
  simp only [lessF_mem]
  constructor
  · rintro (h | h)
    · refine ⟨.inl h,?_⟩
      obtain ⟨d,hd,rfl⟩:=List.mem_map.1 h; exact (hI.dor d hd k hkr).1
    · exact ⟨.inr h.1,h.2⟩
  · rintro ⟨h | h,hn⟩
    · exact .inl h
    · exact .inr ⟨h,hn⟩)
 refine ⟨hs',hu,fun j hj=>hI.lt j (lessF_mem.1 hj).1,hI.dop,hI.dd,fun d hd x hx=>hI.dor d hd x (lessF_mem.1 hx).1,?_,?_,hkp.put hao _,hrun⟩
 · have hmap:SeqD (Phi P ops w' pend' (D.map (·.i))) D a:=by
    refine seq_mono _ _ ?_ hI.sq
    intro d hd b hb
    have hlr:=live_ready (k:=k) (List.mem_map_of_mem hd) (fun m hm=>hw m (.inl hm)) hb.2
    refine ⟨?_,?_⟩
    · rcases hy with rfl | hy
      · exact hb.1
      · rcases hlr with h | ⟨p,h8,_,h10,_,_,h12⟩
        · exact h w'
        · exact h12 w' (hy p h8 h10)
    · rcases hlr with h | ⟨p,h8,h9,_,h10,h11,h12⟩
      · exact .inl h
      · refine .inr ⟨p,hp p ?_,h9,h11,h12⟩
        rw [← h10]; exact addD_mem h8
   exact seq_put lks_phi D a hap hmap
 · rw [app_put (ops:=ops) D a (fun d hd=>(hap d hd).2)]
   exact PF.le_put hle _ _
end
theorem fork_wp {ro:Option Nat} {ops:Array Oper} {K:PF→World→Prop} {asg:List Nat} {rf:Bool} {pa0:PF} {Q:Exit→Act→World→Prop} (hF:Fork P ops) (ha:∀ o∈ops.toList,∀ d,o.dst = some d→d∈asg)
 (hQ:∀ pa a w,pa.le a→Keep asg rf pa0 pa→K pa w→Q .normal a w) :
 ∀ (n:Nat) (listed:Array Bool) (a:Act) (w:World) (D:List DE) (rest:List Nat) (m:Nat) (pend:List PE) (pa:PF),InvF P ops K asg rf pa0 listed a w D rest m pend pa→D.length + rest.length≤n→wpAnyIn (fen ro) 0 P .any ops Q n listed a w:=by
 have hfin:∀ {listed:Array Bool} {a:Act} {w:World} {D:List DE} {rest:List Nat} {m:Nat} {pend:List PE} {pa:PF},InvF P ops K asg rf pa0 listed a w D rest m pend pa→D = []∧rest = []→Q .normal a w:=by
  rintro listed a w D rest m pend pa hI ⟨rfl,rfl⟩
  have h:=hI.run
  unfold opsF at h
  exact hQ _ _ _ hI.le hI.kp h
 intro n
 induction n with
 | zero =>
  intro listed a w D rest m pend pa hI hn
  have h:D = []∧rest = []:=⟨List.length_eq_zero_iff.1 (by omega),List.length_eq_zero_iff.1 (by omega)⟩
  refine ⟨?_,hfin hI h⟩
  obtain ⟨rfl,rfl⟩:=h
  apply List.eq_nil_iff_forall_not_mem.2
  intro i hi
  have:=(hI.ready hi).1
  simp at this
 | succ n ih =>
  intro listed a w D rest m pend pa hI hn
  refine ⟨fun h0=>hfin hI (hI.done hF h0),fun i hi=>?_⟩
  by_cases hiD:i∈D.map (·.i)
  · obtain ⟨d0,rfl,hk0,h1,h2,D',h3,h4⟩:=hI.take hi hiD
    have hd:∀ c,d0.o.op≠.defer c:=by
     intro c hc; simp [kO,hc] at hk0
    have hnext:=ih _ _ _ D' rest m pend pa h4 (by omega)
    unfold wpOpIn
    simp only [h1]
    rcases h2 with ⟨hw,hv | ⟨hv,hv'⟩⟩ | ⟨hw,hv⟩
    · rw [if_pos hw]
      refine ⟨fun _ _=>trivial,?_⟩
      rw [semAt_fen hd,hv,Oper.uponIn_value]; exact hnext
    · rw [if_pos hw]
      refine ⟨fun _ _=>trivial,?_⟩
      rw [semAt_fen hd,hv',Oper.uponIn_skip,← hv]; exact hnext
    · rw [if_neg (by rw [hw]; simp)]
      exact ⟨fun _ _=>trivial,by rw [← hv]; exact hnext⟩
  · have hio:i∈rest:=(hI.ready hi).1.resolve_left hiD
    clear hiD
    induction m generalizing D rest pend pa with
    | zero =>
     have h:=hI.run
     cases rest with
     | nil=>cases hio
     | cons k r=>unfold opsF at h; exact h.elim
    | succ m ihm =>
     have hrun0:=hI.run
     obtain ⟨k0,r0,e0⟩:∃ k r,rest = k :: r:=by cases rest with
      | nil=>cases hio
      | cons k r=>exact ⟨k,r,rfl⟩
     have hrun0:allF (fun j=>stepD P ops j pend pa w fun pend pa w=>opsF P ops K m (lessF rest j) pend pa w) (pickF P ops rest):=by
      rw [e0] at hrun0 ⊢; unfold opsF at hrun0; exact hrun0
     clear e0 k0 r0
     have hall:=allF_all hrun0
     obtain ⟨_,oi,hoi,hwi⟩:=hI.ready hi
     have hwr:waitsOn oi rest = false:=by
      cases hw:waitsOn oi rest with
      | false=>rfl
      | true =>
       obtain ⟨e,he,hb,hem⟩:=waitsOn_spec.1 hw
       have:=hwi e.on (.inr hem)
       rw [waitsOn_spec.2 ⟨e,he,hb,by simp⟩] at this
       cases this
     have hoi':ops.toList[i]? = some oi:=by rw [Array.getElem?_toList]; exact hoi
     -- the one that is drawn comes up
     have go:i∈pickF P ops rest→wpOpIn (fen ro) 0 P ops Q i (wpAnyIn (fen ro) 0 P .any ops Q n (listed.setIfInBounds i true)) a w:=by
      intro hip
      have h3:=(hF i oi hoi).1
      have hao:∀ d,oi.dst = some d→d∈asg:=ha oi (List.mem_of_getElem? hoi')
      have hll:=lessF_len hio
      obtain ⟨pa1,hle,hkp,hrun⟩:=stepD_out ha hoi hI.le hI.kp (hall i hip)
      have hal:Alike ops oi (app D a) a:=by
       refine app_alike (kO_sel h3) D a fun d hd=>((hI.dor d hd i hio).2.2 _ hoi).resolve_left ?_
       rw [hwi d.i (.inl (List.mem_map_of_mem hd))]; simp
      unfold wpOpIn
      simp only [hoi]
      rw [← hal.2]
      rcases hrun with ⟨hwt,hrun⟩ | ⟨hwt,hrun⟩
      · rw [if_pos hwt]
        unfold runD at hrun
        split at hrun
        · rename_i hk0
          refine op_wp' hle hal.1.symm ?_ (cond_opX (by omega) hrun)
          rintro v w' ⟨rfl,h⟩
          exact ih _ _ _ D _ m _ _ (hI.head hio hi hoi hle hkp hao (fun _ h=>h) (.inl rfl) h) (by omega)
        · rename_i hk0
          refine op_wp' hle hal.1.symm ?_ (cond_opX (by omega) hrun)
          rintro v w' ⟨rfl,h⟩
          exact ih _ _ _ D _ m _ _ (hI.head hio hi hoi hle hkp hao (fun _ h=>List.mem_cons_of_mem _ h) (.inl rfl) h) (by omega)
        · refine op_wp' hle hal.1.symm ?_ hrun
          intro v w' h
          obtain ⟨h7,h8⟩:=rchk_out h
          exact ih _ _ _ D _ m _ _ (hI.head hio hi hoi hle hkp hao (fun _ h=>h) (.inr h8) h7) (by omega)
        · exact hrun.elim
      · rw [if_neg (by rw [hwt]; simp)]
        exact ⟨fun _ _=>trivial,ih _ _ _ D _ m _ _ (hI.head hio hi hoi hle hkp hao (fun _ h=>h) (.inl rfl) hrun) (by omega)⟩
     cases hf:findF (fun i=>!waitB ops rest i && Nat.ble (kAt P ops i) 1) rest with
     | none =>
      refine go ?_
      unfold pickF
      rw [hf]
      refine filF_mem.2 ⟨hio,?_⟩
      simp only [waitB,hoi',hwr,Bool.not_false]
     | some k =>
      have hpk:pickF P ops rest = [k]:=by unfold pickF; rw [hf]
      by_cases hik:i = k
      · subst hik
        exact go (by rw [hpk]; simp)
      · obtain ⟨hkr,hkf⟩:=findF_some hf
        obtain ⟨ok,hok⟩:∃ o,ops[k]? = some o:=⟨_,Array.getElem?_eq_getElem (hI.lt k hkr)⟩
        have hok':ops.toList[k]? = some ok:=by rw [Array.getElem?_toList]; exact hok
        simp only [waitB,kAt,hok',Bool.and_eq_true,Bool.not_eq_true'] at hkf
        have hk1:kO P ok≤1:=Nat.le_of_ble_eq_true hkf.2
        have hao:∀ d,ok.dst = some d→d∈asg:=ha ok (List.mem_of_getElem? hok')
        have hll:=lessF_len hkr
        have hir:i∈lessF rest k:=lessF_mem.2 ⟨hio,hik⟩
        obtain ⟨pa1,hle,hkp,hrun⟩:=stepD_out ha hok hI.le hI.kp (hall k (by rw [hpk]; simp))
        rcases hrun with ⟨hwt,hrun⟩ | ⟨hwt,hrun⟩
        · unfold runD at hrun
          split at hrun
          · rename_i hk0
            obtain ⟨v,h7,h8⟩:=opX_blind (ops:=ops) hle hk0 hwt hrun
            exact ihm _ _ _ _ (hI.delay hF hkr hok hkf.1 hk1 hle hkp hao (fun _ h=>h) (h8 w) (.inl h8) h7) (by simp; omega) hir
          · rename_i hk0
            obtain ⟨v,h7,h8⟩:=opX_run (ops:=ops) hle (by omega) hwt hrun
            exact ihm _ _ _ _ (hI.delay hF hkr hok hkf.1 hk1 hle hkp hao (fun _ h=>List.mem_cons_of_mem _ h) h8 (.inr ⟨⟨k,pa1,ok,v,[]⟩,by simp,rfl,by simp,fun w' h=>opX_again hle hk1 hwt h⟩) h7) (by simp; omega) hir
          · omega
          · exact hrun.elim
        · exact ihm _ _ _ _ (hI.delay hF hkr hok hkf.1 hk1 hle hkp hao (fun _ h=>h) (.inr ⟨hwt,rfl⟩) (.inl fun w'=>.inr ⟨hwt,rfl⟩) hrun) (by simp; omega) hir
theorem drawn_wp {ro:Option Nat} {id:Nat} {ops:Array Oper} {K:PF→World→Prop} {asg:List Nat} {rf:Bool} {pa0:PF} {Q:Exit→Act→World→Prop} (hP:P.follows .mixedOrders = true) (ha:∀ o∈ops.toList,∀ d,o.dst = some d→d∈asg)
 (hQ:∀ pa a w,pa.le a→Keep asg rf pa0 pa→K pa w→Q .normal a w) {ord:List Nat} {pa:PF} {a:Act} (hle:pa.le a) (hk:Keep asg rf pa0 pa) (h:ex.drawX P ops ord pa w K):(Code.region id ops true).wpIn (fen ro) 0 P Q a w:=by
 unfold ex.drawX at h
 cases hc:canB P ops ord with
 | false =>
  rw [hc] at h
  cases hf:forkB P ops with
  | false=>rw [hf] at h; exact h.elim
  | true =>
   rw [hf] at h
   refine wpIn_region_any hP ?_
   refine fork_wp (fork_of hf) ha hQ ops.size _ a _ [] (List.range ops.size) ops.size [] pa ⟨by simp,?_,fun j hj=>List.mem_range.1 hj,by simp,List.Pairwise.nil,by simp,trivial,hle,hk,h⟩ (by simp)
   intro j hj
   simp [Array.getD_eq_getD_getElem?,hj]
 | true =>
  rw [hc] at h
  simp only [canB,Bool.and_eq_true,List.all_eq_true] at hc
  obtain ⟨h1,h2,h3⟩:=hc
  refine wpIn_region_any hP ?_
  refine inv_wp ha hQ ops.size _ a _ [] ord [] pa ⟨by simp,?_,by simp,List.Pairwise.nil,by simp,h3,trivial,hle,hk,h⟩ (by simp [Nat.eq_of_beq_eq_true h1])
  intro j hj
  have:=h2 j (List.mem_range.2 hj)
  simp only [List.contains_eq_mem,decide_eq_true_eq] at this
  simp [Array.getD_eq_getD_getElem?,hj,this]
end Go.Proofs.YtidcijbnbdemeaaGreat.X
