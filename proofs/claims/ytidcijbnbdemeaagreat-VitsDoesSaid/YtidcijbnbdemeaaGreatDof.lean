/-
  The walks and the laws beneath the statement: part 6.
-/
import Derived.Test.YtidcijbnbdemeaaGreatDoe
import Derived.Laws.StructEq
import Derived.ChangeKeysEq
set_option maxRecDepth 100000
set_option linter.unusedVariables false
set_option linter.unusedSimpArgs false
set_option maxHeartbeats 4000000
namespace Go.Proofs.YtidcijbnbdemeaaGreat
open Go Go.RowKit X
structure Cm where
 op:Int
 dev:Int
 ev:Int
 num:Int
 coll:Int
 tgt:Int
 bits:Int
 addr:Int
 val:Bool
 deriving DecidableEq
def Cm.cells (c:Cm):List Value:=[.int .i64 c.op,.int .i64 c.dev,.int .i64 c.ev,.int .i64 c.num,.int .i64 c.coll,.int .i64 c.tgt,.int .i64 c.bits,.int .i64 c.addr,.bool c.val]
def cmV (c:Cm):Value:=.agg [.int .i64 c.op,.int .i64 c.dev,.int .i64 c.ev,.int .i64 c.num,.int .i64 c.coll,.int .i64 c.tgt,.int .i64 c.bits,.int .i64 c.addr,.bool c.val].toArray
def cm0:Cm:=⟨0,0,0,0,0,0,0,0,false⟩
def knownB (op:Int):Bool:=decide (op = 1∨(3≤op∧op≤5)∨(8≤op∧op≤15))
def pw (op:Int):Nat→Nat
 | 0=>0
 | 1=>1
 | 2=>if op = 14 then 3 else 1
 | 5=>1
 | _=>2
def pf (op:Int):Nat→Nat
 | 0=>32
 | 1=>0
 | 2=>if op = 14 then 16 else 32
 | 3=>0
 | 4=>16
 | 5=>0
 | 6=>8
 | _=>63
def ps (op:Int):Nat→Nat
 | 0=>32
 | 1=>32
 | 2=>if op = 14 then 16 else 32
 | 3=>16
 | 4=>16
 | 5=>5
 | 6=>40
 | _=>1
def ph (op:Int):Nat→Bool
 | 0=>decide (op≠9∧op≠13∧op≠14∧op≠5)
 | 1=>decide (op = 10∨op = 11∨op = 1∨op = 3∨op = 4∨op = 12∨op = 15)
 | 2=>decide (op = 14∨op = 10)
 | 3=>decide (op = 9∨op = 10∨op = 11∨op = 1∨op = 13)
 | 4=>decide (op = 9∨op = 14∨op = 5)
 | 5=>decide (op = 8)
 | 6=>decide (op = 8)
 | _=>decide (op = 8∨op = 9)
def Cm.get (c:Cm):Nat→Int
 | 0=>c.dev
 | 1=>c.ev
 | 2=>c.num
 | 3=>c.coll
 | 4=>c.tgt
 | 5=>c.bits
 | 6=>c.addr / 256
 | _=>if c.val then 1 else 0
def Cm.put (c:Cm) (n:Int):Nat→Cm
 | 0=>{ c with dev:=n }
 | 1=>{ c with ev:=n }
 | 2=>{ c with num:=n }
 | 3=>{ c with coll:=n }
 | 4=>{ c with tgt:=n }
 | 5=>{ c with bits:=n }
 | 6=>{ c with addr:=IntKind.i64.wrap (n * 256) }
 | _=>{ c with val:=n == 1 }
theorem Known_t (op:Int):Tri P F.zzg0 [.int .i64 op] [] fun v L'=>v = .bool (knownB op)∧L' = []:=by
 intro w S hS
 refine zzms ?_
 unfold zzg0
 have H:=Own.start hS
 refine join_o ?_
 unfold zzle
 have fin:∀ b:Bool,b = knownB op→∃ L',((Value.bool b) = .bool (knownB op)∧L' = [])∧X.Own w S L' w:=fun b h=>⟨_,⟨by rw [h],rfl⟩,H⟩
 refine cnd_i (fun h=>fin _ ?_) fun h=>cnd_i (fun h2=>cnd_i (fun h3=>fin _ ?_) fun h3=>cnd_i (fun h4=>fin _ ?_) fun h4=>fin _ ?_) fun h2=>cnd_i (fun h3=>fin _ ?_) fun h3=>fin _ ?_ <;>
 · unfold knownB
   simp only [beq_iff_eq,decide_eq_true_eq,beq_eq_false_iff_ne,ne_eq,decide_eq_false_iff_not] at *
   first
    | (symm; rw [decide_eq_true_eq]; omega)
    | (symm; rw [decide_eq_false_iff_not]; omega)
    | (rw [decide_eq_decide]; omega)
theorem parted_t (op:Int) (k:Nat) (hk:k < 8):Tri P F.zzeL [.int .i64 op,.int .i64 (k:Int)] [] fun v L' =>
 v = .tuple [.agg [.int .i64 ((pw op k:Nat):Int),.int .i64 ((pf op k:Nat):Int),.int .i64 ((ps op k:Nat):Int)].toArray,.bool (ph op k)].toArray∧L' = []:=by
 intro w S hS
 refine zzmk ?_
 unfold zzeL
 have H:=Own.start hS
 refine alc_o H fun bx wx H=>?_
 have fin:∀ (x y z:Nat) (b:Bool) wx,X.Own w S [row bx [.int .i64 x,.int .i64 y,.int .i64 z] tPart] wx→x = pw op k→y = pf op k→z = ps op k→b = ph op k →
  ldI .i64 ⟨bx,0,none⟩ wx fun n=>ldI .i64 ⟨bx,1,none⟩ wx fun n'=>ldI .i64 ⟨bx,2,none⟩ wx fun n'' =>
  ∃ L',(Value.tuple [.agg [.int .i64 n,.int .i64 n',.int .i64 n''].toArray,.bool b].toArray = .tuple [.agg [.int .i64 ((pw op k:Nat):Int),.int .i64 ((pf op k:Nat):Int),.int .i64 ((ps op k:Nat):Int)].toArray,.bool (ph op k)].toArray∧L' = [])∧X.Own w S L' wx:=by
  intro x y z b wx H e1 e2 e3 e4
  repeat (first | refine lIa H ?_ | refine lLa H ?_ | refine lBa H ?_ | refine lPa H ?_ | refine lSa H ?_)
  exact ⟨_,⟨by rw [e1,e2,e3,e4],rfl⟩,H.dp⟩
 unfold zzkj zzkk zzkl zzkm zzkn
 have hk:k = 0∨k = 1∨k = 2∨k = 3∨k = 4∨k = 5∨k = 6∨k = 7:=by omega
 rcases hk with rfl | rfl | rfl | rfl | rfl | rfl | rfl | rfl
 · refine cnd_i (fun _=>?_) (fun h=>by cases h)
   refine join_o ?_
   refine cnd_i (fun h1=>cnd_i (fun h2=>cnd_i (fun h3=>?_) fun h3=>?_) fun h2=>?_) fun h1=>?_ <;> (refine sta H fun wx H=>?_; refine sta H fun wx H=>?_; refine sta H fun wx H=>?_; refine fin 0 32 32 _ _ H rfl rfl rfl ?_; simp_all [ph])
   exact Bool.eq_iff_iff.2 (by simp)
 · refine cnd_i (fun h=>by cases h) (fun _=>?_)
   refine cnd_i (fun _=>?_) (fun h=>by cases h)
   refine join_o ?_
   refine cnd_i (fun h1=>?_) fun h1=>cnd_i (fun h2=>?_) fun h2=>cnd_i (fun h3=>?_) fun h3=>cnd_i (fun h4=>?_) fun h4=>cnd_i (fun h5=>?_) fun h5=>cnd_i (fun h6=>?_) fun h6=>?_ <;> (refine sta H fun wx H=>?_; refine sta H fun wx H=>?_; refine sta H fun wx H=>?_; refine fin 1 0 32 _ _ H rfl rfl rfl ?_; simp_all [ph])
   exact Bool.eq_iff_iff.2 (by simp)
 · refine cnd_i (fun h=>by cases h) (fun _=>?_)
   refine cnd_i (fun h=>by cases h) (fun _=>?_)
   refine cnd_i (fun _=>?_) (fun h=>by cases h)
   refine cnd_i (fun h1=>?_) fun h1=>?_
   · iterate 3 refine sta H fun wx H=>?_
     refine fin 3 16 16 _ _ H ?_ ?_ ?_ ?_ <;> simp_all [pw,pf,ps,ph]
   · iterate 3 refine sta H fun wx H=>?_
     refine fin 1 32 32 _ _ H ?_ ?_ ?_ ?_ <;> simp_all [pw,pf,ps,ph]
     exact Bool.eq_iff_iff.2 (by simp)
 · refine cnd_i (fun h=>by cases h) (fun _=>?_)
   refine cnd_i (fun h=>by cases h) (fun _=>?_)
   refine cnd_i (fun h=>by cases h) (fun _=>?_)
   refine cnd_i (fun _=>?_) (fun h=>by cases h)
   refine join_o ?_
   refine cnd_i (fun h1=>?_) fun h1=>cnd_i (fun h2=>?_) fun h2=>cnd_i (fun h3=>?_) fun h3=>cnd_i (fun h4=>?_) fun h4=>?_ <;> (refine sta H fun wx H=>?_; refine sta H fun wx H=>?_; refine sta H fun wx H=>?_; refine fin 2 0 16 _ _ H rfl rfl rfl ?_; simp_all [ph])
   exact Bool.eq_iff_iff.2 (by simp)
 · refine cnd_i (fun h=>by cases h) (fun _=>?_)
   refine cnd_i (fun h=>by cases h) (fun _=>?_)
   refine cnd_i (fun h=>by cases h) (fun _=>?_)
   refine cnd_i (fun h=>by cases h) (fun _=>?_)
   refine cnd_i (fun _=>?_) (fun h=>by cases h)
   refine join_o ?_
   refine cnd_i (fun h1=>?_) fun h1=>cnd_i (fun h2=>?_) fun h2=>?_ <;> (refine sta H fun wx H=>?_; refine sta H fun wx H=>?_; refine sta H fun wx H=>?_; refine fin 2 16 16 _ _ H rfl rfl rfl ?_; simp_all [ph])
   exact Bool.eq_iff_iff.2 (by simp)
 · refine cnd_i (fun h=>by cases h) (fun _=>?_)
   refine cnd_i (fun h=>by cases h) (fun _=>?_)
   refine cnd_i (fun h=>by cases h) (fun _=>?_)
   refine cnd_i (fun h=>by cases h) (fun _=>?_)
   refine cnd_i (fun h=>by cases h) (fun _=>?_)
   refine cnd_i (fun _=>?_) (fun h=>by cases h)
   iterate 3 refine sta H fun wx H=>?_
   exact fin 1 0 5 _ _ H rfl rfl rfl (Bool.eq_iff_iff.2 (by simp [ph]))
 · refine cnd_i (fun h=>by cases h) (fun _=>?_)
   refine cnd_i (fun h=>by cases h) (fun _=>?_)
   refine cnd_i (fun h=>by cases h) (fun _=>?_)
   refine cnd_i (fun h=>by cases h) (fun _=>?_)
   refine cnd_i (fun h=>by cases h) (fun _=>?_)
   refine cnd_i (fun h=>by cases h) (fun _=>?_)
   refine cnd_i (fun _=>?_) (fun h=>by cases h)
   iterate 3 refine sta H fun wx H=>?_
   exact fin 2 8 40 _ _ H rfl rfl rfl (Bool.eq_iff_iff.2 (by simp [ph]))
 · refine cnd_i (fun h=>by cases h) (fun _=>?_)
   refine cnd_i (fun h=>by cases h) (fun _=>?_)
   refine cnd_i (fun h=>by cases h) (fun _=>?_)
   refine cnd_i (fun h=>by cases h) (fun _=>?_)
   refine cnd_i (fun h=>by cases h) (fun _=>?_)
   refine cnd_i (fun h=>by cases h) (fun _=>?_)
   refine cnd_i (fun h=>by cases h) (fun _=>?_)
   refine join_o ?_
   refine cnd_i (fun h1=>?_) fun h1=>?_ <;> (refine sta H fun wx H=>?_; refine sta H fun wx H=>?_; refine sta H fun wx H=>?_; refine fin 2 63 1 _ _ H rfl rfl rfl ?_; simp_all [ph])
   exact Bool.eq_iff_iff.2 (by simp)
theorem get_t (c:Cm) (k:Nat) (hk:k < 8):Tri P F.zziN [cmV c,.int .i64 (k:Int)] [] fun v L'=>v = .int .i64 (c.get k)∧L' = []:=by
 intro w S hS
 refine zzmK ?_
 unfold zziN
 have H:=Own.start hS
 refine alc_o H fun bx wx H=>?_
 have hk:k = 0∨k = 1∨k = 2∨k = 3∨k = 4∨k = 5∨k = 6∨k = 7:=by omega
 rcases hk with rfl | rfl | rfl | rfl | rfl | rfl | rfl | rfl
 · refine cnd_i (fun _=>?_) (fun h=>by cases h)
   repeat (first | refine lIa H ?_ | refine lLa H ?_ | refine lBa H ?_ | refine lPa H ?_ | refine lSa H ?_)
   exact ⟨_,⟨rfl,rfl⟩,H.dp⟩
 · refine cnd_i (fun h=>by cases h) (fun _=>?_)
   refine cnd_i (fun _=>?_) (fun h=>by cases h)
   repeat (first | refine lIa H ?_ | refine lLa H ?_ | refine lBa H ?_ | refine lPa H ?_ | refine lSa H ?_)
   exact ⟨_,⟨rfl,rfl⟩,H.dp⟩
 · refine cnd_i (fun h=>by cases h) (fun _=>?_)
   refine cnd_i (fun h=>by cases h) (fun _=>?_)
   refine cnd_i (fun _=>?_) (fun h=>by cases h)
   repeat (first | refine lIa H ?_ | refine lLa H ?_ | refine lBa H ?_ | refine lPa H ?_ | refine lSa H ?_)
   exact ⟨_,⟨rfl,rfl⟩,H.dp⟩
 · refine cnd_i (fun h=>by cases h) (fun _=>?_)
   refine cnd_i (fun h=>by cases h) (fun _=>?_)
   refine cnd_i (fun h=>by cases h) (fun _=>?_)
   refine cnd_i (fun _=>?_) (fun h=>by cases h)
   repeat (first | refine lIa H ?_ | refine lLa H ?_ | refine lBa H ?_ | refine lPa H ?_ | refine lSa H ?_)
   exact ⟨_,⟨rfl,rfl⟩,H.dp⟩
 · refine cnd_i (fun h=>by cases h) (fun _=>?_)
   refine cnd_i (fun h=>by cases h) (fun _=>?_)
   refine cnd_i (fun h=>by cases h) (fun _=>?_)
   refine cnd_i (fun h=>by cases h) (fun _=>?_)
   refine cnd_i (fun _=>?_) (fun h=>by cases h)
   repeat (first | refine lIa H ?_ | refine lLa H ?_ | refine lBa H ?_ | refine lPa H ?_ | refine lSa H ?_)
   exact ⟨_,⟨rfl,rfl⟩,H.dp⟩
 · refine cnd_i (fun h=>by cases h) (fun _=>?_)
   refine cnd_i (fun h=>by cases h) (fun _=>?_)
   refine cnd_i (fun h=>by cases h) (fun _=>?_)
   refine cnd_i (fun h=>by cases h) (fun _=>?_)
   refine cnd_i (fun h=>by cases h) (fun _=>?_)
   refine cnd_i (fun _=>?_) (fun h=>by cases h)
   repeat (first | refine lIa H ?_ | refine lLa H ?_ | refine lBa H ?_ | refine lPa H ?_ | refine lSa H ?_)
   exact ⟨_,⟨rfl,rfl⟩,H.dp⟩
 · refine cnd_i (fun h=>by cases h) (fun _=>?_)
   refine cnd_i (fun h=>by cases h) (fun _=>?_)
   refine cnd_i (fun h=>by cases h) (fun _=>?_)
   refine cnd_i (fun h=>by cases h) (fun _=>?_)
   refine cnd_i (fun h=>by cases h) (fun _=>?_)
   refine cnd_i (fun h=>by cases h) (fun _=>?_)
   refine cnd_i (fun _=>?_) (fun h=>by cases h)
   repeat (first | refine lIa H ?_ | refine lLa H ?_ | refine lBa H ?_ | refine lPa H ?_ | refine lSa H ?_)
   refine ⟨by decide,_,⟨?_,rfl⟩,H.dp⟩
   show Value.int .i64 (Int.fdiv c.addr 256) = _
   rw [Int.fdiv_eq_ediv_of_nonneg _ (by decide)]; rfl
 · refine cnd_i (fun h=>by cases h) (fun _=>?_)
   refine cnd_i (fun h=>by cases h) (fun _=>?_)
   refine cnd_i (fun h=>by cases h) (fun _=>?_)
   refine cnd_i (fun h=>by cases h) (fun _=>?_)
   refine cnd_i (fun h=>by cases h) (fun _=>?_)
   refine cnd_i (fun h=>by cases h) (fun _=>?_)
   refine cnd_i (fun h=>by cases h) (fun _=>?_)
   repeat (first | refine lIa H ?_ | refine lLa H ?_ | refine lBa H ?_ | refine lPa H ?_ | refine lSa H ?_)
   refine cnd_i (fun h=>?_) fun h=>?_ <;> exact ⟨_,⟨by simp [Cm.get,h],rfl⟩,H.dp⟩
theorem put_t' (b:Nat) (c:Cm) (k:Nat) (hk:k < 8) (n:Int):Tri P F.zziP [.pointer (some ⟨b,0,none⟩),.int .i64 (k:Int),.int .i64 n] [row b c.cells tCmd] fun v L'=>v = .tuple [].toArray∧L' = [row b (c.put n k).cells tCmd]:=by
 intro w S hS
 refine zzmM ?_
 unfold zziP
 have H:=Own.start hS
 refine join_o ?_
 unfold zzl9
 unfold Cm.cells at H
 have hk:k = 0∨k = 1∨k = 2∨k = 3∨k = 4∨k = 5∨k = 6∨k = 7:=by omega
 rcases hk with rfl | rfl | rfl | rfl | rfl | rfl | rfl | rfl
 · refine cnd_i (fun _=>?_) (fun h=>by cases h)
   show st1 _ _ _ _
   rw [add_lit]
   refine sta H fun wx H=>?_
   exact ⟨_,⟨rfl,rfl⟩,H⟩
 · refine cnd_i (fun h=>by cases h) (fun _=>?_)
   refine cnd_i (fun _=>?_) (fun h=>by cases h)
   show st1 _ _ _ _
   rw [add_lit]
   refine sta H fun wx H=>?_
   exact ⟨_,⟨rfl,rfl⟩,H⟩
 · refine cnd_i (fun h=>by cases h) (fun _=>?_)
   refine cnd_i (fun h=>by cases h) (fun _=>?_)
   refine cnd_i (fun _=>?_) (fun h=>by cases h)
   show st1 _ _ _ _
   rw [add_lit]
   refine sta H fun wx H=>?_
   exact ⟨_,⟨rfl,rfl⟩,H⟩
 · refine cnd_i (fun h=>by cases h) (fun _=>?_)
   refine cnd_i (fun h=>by cases h) (fun _=>?_)
   refine cnd_i (fun h=>by cases h) (fun _=>?_)
   refine cnd_i (fun _=>?_) (fun h=>by cases h)
   show st1 _ _ _ _
   rw [add_lit]
   refine sta H fun wx H=>?_
   exact ⟨_,⟨rfl,rfl⟩,H⟩
 · refine cnd_i (fun h=>by cases h) (fun _=>?_)
   refine cnd_i (fun h=>by cases h) (fun _=>?_)
   refine cnd_i (fun h=>by cases h) (fun _=>?_)
   refine cnd_i (fun h=>by cases h) (fun _=>?_)
   refine cnd_i (fun _=>?_) (fun h=>by cases h)
   show st1 _ _ _ _
   rw [add_lit]
   refine sta H fun wx H=>?_
   exact ⟨_,⟨rfl,rfl⟩,H⟩
 · refine cnd_i (fun h=>by cases h) (fun _=>?_)
   refine cnd_i (fun h=>by cases h) (fun _=>?_)
   refine cnd_i (fun h=>by cases h) (fun _=>?_)
   refine cnd_i (fun h=>by cases h) (fun _=>?_)
   refine cnd_i (fun h=>by cases h) (fun _=>?_)
   refine cnd_i (fun _=>?_) (fun h=>by cases h)
   show st1 _ _ _ _
   rw [add_lit]
   refine sta H fun wx H=>?_
   exact ⟨_,⟨rfl,rfl⟩,H⟩
 · refine cnd_i (fun h=>by cases h) (fun _=>?_)
   refine cnd_i (fun h=>by cases h) (fun _=>?_)
   refine cnd_i (fun h=>by cases h) (fun _=>?_)
   refine cnd_i (fun h=>by cases h) (fun _=>?_)
   refine cnd_i (fun h=>by cases h) (fun _=>?_)
   refine cnd_i (fun h=>by cases h) (fun _=>?_)
   refine cnd_i (fun _=>?_) (fun h=>by cases h)
   refine ⟨by decide,?_⟩
   show st1 _ _ _ _
   rw [add_lit]
   refine sta H fun wx H=>?_
   exact ⟨_,⟨rfl,rfl⟩,H⟩
 · refine cnd_i (fun h=>by cases h) (fun _=>?_)
   refine cnd_i (fun h=>by cases h) (fun _=>?_)
   refine cnd_i (fun h=>by cases h) (fun _=>?_)
   refine cnd_i (fun h=>by cases h) (fun _=>?_)
   refine cnd_i (fun h=>by cases h) (fun _=>?_)
   refine cnd_i (fun h=>by cases h) (fun _=>?_)
   refine cnd_i (fun h=>by cases h) (fun _=>?_)
   show st1 _ _ _ _
   rw [add_lit]
   refine sta H fun wx H=>?_
   exact ⟨_,⟨rfl,rfl⟩,H⟩
theorem eqA_eql {t:TypeId} {xs ys:Array Value} {r:Bool} {w:World} {K:Bool→Prop} (hS:P.underlying t = some (.struct (P.fieldsOf t))) (hp:P.stoodInHeld t = false) (hm:P.eqGuardType P.depth t = false)
 (hr:(Op.eqFields 9999 xs ys (P.fieldsOf t).toList).run P w = .ok r w) (hk:K r):eqA P .eql t (.agg xs) (.agg ys) w K:=by
 refine ⟨run_eqGuard_agg w _ _ _ _ _ _ hm,r,?_,hk⟩
 rw [run_eql_struct,show (10000:Nat) = 9999 + 1 from rfl,run_equalIn_agg w 9999 t _ _ hS hp,hr]; rfl
theorem eqA_neq {t:TypeId} {xs ys:Array Value} {r:Bool} {w:World} {K:Bool→Prop} (hS:P.underlying t = some (.struct (P.fieldsOf t))) (hp:P.stoodInHeld t = false) (hm:P.eqGuardType P.depth t = false)
 (hr:(Op.eqFields 9999 xs ys (P.fieldsOf t).toList).run P w = .ok r w) (hk:K (!r)):eqA P .neq t (.agg xs) (.agg ys) w K:=by
 refine ⟨run_eqGuard_agg w _ _ _ _ _ _ hm,!r,?_,hk⟩
 rw [run_neq_struct,show (10000:Nat) = 9999 + 1 from rfl,run_equalIn_agg w 9999 t _ _ hS hp,hr]; rfl
theorem eqA_arr {t e:TypeId} {n:Nat} {xs ys:Array Value} {r:Bool} {w:World} {K:Bool→Prop} (hu:P.underlying t = some (.array n e)) (hi:(P.info? e).isSome = true) (hm:P.eqGuardType P.depth t = false)
 (hr:(Op.eqItems 9999 e (P.cellsOf e) xs ys (List.range n)).run P w = .ok r w) (hk:K (!r)):eqA P .neq t (.agg xs) (.agg ys) w K:=by
 obtain ⟨i,hi⟩:=Option.isSome_iff_exists.1 hi
 refine ⟨run_eqGuard_agg w _ _ _ _ _ _ hm,!r,?_,hk⟩
 rw [run_neq_struct,show (10000:Nat) = 9999 + 1 from rfl,run_equalIn_array w 9999 xs ys hu hi,hr]; rfl
theorem w4_items (a0 a1 a2 a3 x0 x1 x2 x3:Int) (w:World):(Op.eqItems 9999 61 (P.cellsOf 61) [.int .u64 x0,.int .u64 x1,.int .u64 x2,.int .u64 x3].toArray [.int .u64 a0,.int .u64 a1,.int .u64 a2,.int .u64 a3].toArray (List.range 4)).run P w = .ok (decide ([x0,x1,x2,x3] = [a0,a1,a2,a3])) w:=by
 rw [show P.cellsOf 61 = 1 by kernel_rfl,show List.range 4 = [0,1,2,3] from rfl]
 have u:=Tryz.underlying61
 have a:=Tryz.isAgg61
 have z:=Tryz.sizeOf61
 simp only [Op.eqItems]
 go_simp
 by_cases h0:x0 = a0 <;> by_cases h1:x1 = a1 <;> by_cases h2:x2 = a2 <;> by_cases h3:x3 = a3 <;> simp [h0,h1,h2,h3]
theorem eq4 {a0 a1 a2 a3 x0 x1 x2 x3:Int} {w:World} {K:Bool→Prop} (hK:K (!decide ([x0,x1,x2,x3] = [a0,a1,a2,a3]))) :
 eqA P .neq tW4 (.agg [.int .u64 x0,.int .u64 x1,.int .u64 x2,.int .u64 x3].toArray) (.agg [.int .u64 a0,.int .u64 a1,.int .u64 a2,.int .u64 a3].toArray) w K :=
 eqA_arr Tryz.underlying90 (by kernel_rfl) (by kernel_rfl) (w4_items a0 a1 a2 a3 x0 x1 x2 x3 w) hK
theorem cm_fields (c d:Cm) (w:World):(Op.eqFields 9999 c.cells.toArray d.cells.toArray (P.fieldsOf tCmd).toList).run P w = .ok (decide (c = d)) w:=by
 obtain ⟨c0,c1,c2,c3,c4,c5,c6,c7,c8⟩:=c
 obtain ⟨d0,d1,d2,d3,d4,d5,d6,d7,d8⟩:=d
 simp only [Program.fieldsOf,Tryz.underlying26,Cm.cells,tCmd]
 have u3:=Tryz.underlying3
 have a3:=Tryz.isAgg3
 have z3:=Tryz.sizeOf3
 have u4:=Tryz.underlying4
 have a4:=Tryz.isAgg4
 have z4:=Tryz.sizeOf4
 have u38:=Tryz.underlying24
 have a38:=Tryz.isAgg24
 have z38:=Tryz.sizeOf24
 go_simp
 repeat' split
 all_goals simp_all
theorem cm_eq {c d:Cm} {w:World} {K:Bool→Prop} (h:K (decide (c = d))):eqA P .eql tCmd (cmV c) (cmV d) w K :=
 eqA_eql (by kernel_rfl) (by kernel_rfl) (by kernel_rfl) (cm_fields c d w) h
def wI (ws:List Int):List Value:=ws.map fun n=>.int .u64 n
theorem wI_length (ws:List Int):(wI ws).length = ws.length:=by simp [wI]
theorem wI_get {ws:List Int} {i:Nat} (h:i < ws.length):(wI ws)[i]? = some (.int .u64 (ws.getD i 0)):=by simp [wI,h]
theorem wI_set (ws:List Int) (i:Nat) (n:Int):(wI ws).set i (.int .u64 n) = wI (ws.set i n):=by simp [wI]
def insB (a n:Int) (f:Nat):Int:=bitX .or .u64 a (IntKind.u64.wrap ((IntKind.u64.wrap n) * 2 ^ min (Int.toNat (f:Int)) IntKind.u64.bits))
def ext (a:Int) (f s:Nat):Int:=IntKind.i64.wrap (bitX .and .u64 (Int.fdiv a (2 ^ min (Int.toNat (f:Int)) IntKind.u64.bits)) (IntKind.u64.wrap ((IntKind.u64.wrap (1 * 2 ^ min (Int.toNat (s:Int)) IntKind.u64.bits)) - 1)))
def badB (c:Cm) (k:Nat):Bool:=(!ph c.op k && (c.get k != 0)) || (decide (c.get k < 0) || decide (c.get k≥IntKind.i64.wrap (1 * 2 ^ min (Int.toNat ((ps c.op k:Nat):Int)) IntKind.i64.bits)))
def wd (c:Cm):Nat→List Int
 | 0=>[IntKind.u64.wrap c.op,0,0,0]
 | k + 1=>if ph c.op k then (wd c k).set (pw c.op k) (insB ((wd c k).getD (pw c.op k) 0) (c.get k) (pf c.op k)) else wd c k
theorem wd_length (c:Cm):∀ k,(wd c k).length = 4
 | 0=>rfl
 | k + 1=>by unfold wd; split <;> simp [wd_length c k]
theorem pw_lt (op:Int) (k:Nat):pw op k < 4:=by unfold pw; split <;> (try split) <;> omega
def badC (c:Cm):Bool:=!knownB c.op || (bitX .and .i64 c.addr 255 != 0)
def encM (c:Cm):Option (List Int):=if badC c then none else if (List.range 8).any (badB c) then none else some (wd c 8)
def encV (c:Cm):Value:=match encM c with
 | some ws=>.tuple [.agg (wI ws).toArray,.int .i64 0].toArray
 | none=>.tuple [.agg (wI [0,0,0,0]).toArray,.int .i64 160].toArray
theorem four {ws:List Int} (h:ws.length = 4):∃ a b c d,ws = [a,b,c,d]:=by
 match ws,h with
 | [a,b,c,d],_=>exact ⟨a,b,c,d,rfl⟩
theorem Encode_t (c:Cm):Tri P F.zzeK [cmV c] [] fun v L'=>v = encV c∧L' = []:=by
 intro w S hS
 refine zzmi ?_
 unfold zzeK
 have H:=Own.start hS
 refine alc_o H fun b10 wx H=>alc_o H fun b12 wx H=>?_
 repeat (first | refine lIa H ?_ | refine lLa H ?_ | refine lBa H ?_ | refine lPa H ?_ | refine lSa H ?_)
 refine alc_o H fun b15 wx H=>?_
 iterate 4 refine sta H fun wx H=>?_
 have badE:encM c = none→∀ wx,X.Own w S [row b15 (wI (wd c 0)) tW4,row b12 [.int .u64 0,.int .u64 0,.int .u64 0,.int .u64 0] tW4,row b10 c.cells tCmd] wx→∃ L',(Value.tuple [.agg [.int .u64 0,.int .u64 0,.int .u64 0,.int .u64 0].toArray,.int .i64 160].toArray = encV c∧L' = [])∧X.Own w S L' wx:=by
  intro e wx H
  exact ⟨_,⟨by unfold encV; rw [e]; rfl,rfl⟩,H.dp⟩
 refine join_o ?_
 repeat (first | refine lIa H ?_ | refine lLa H ?_ | refine lBa H ?_ | refine lPa H ?_ | refine lSa H ?_)
 refine call_pa H (Known_t c.op) fun wx H=>?_
 refine ⟨_,rfl,?_⟩
 have bad:badC c = true→zze3 (fun v w'=>∃ L',(v = encV c∧L' = [])∧X.Own w S L' w') b10 b12 b15 true wx:=by
  intro hb
  unfold zze3
  refine cnd_i (fun _=>?_) (fun h=>by cases h)
  iterate 4 refine sta H fun wx H=>?_
  repeat (first | refine lIa H ?_ | refine lLa H ?_ | refine lBa H ?_ | refine lPa H ?_ | refine lSa H ?_)
  have e:encM c = none:=by unfold encM; rw [if_pos hb]
  exact ⟨_,⟨by unfold encV; rw [e]; rfl,rfl⟩,H.dp⟩
 refine cnd_i (fun h=>bad (by unfold badC; rw [h]; rfl)) fun h=>?_
 repeat (first | refine lIa H ?_ | refine lLa H ?_ | refine lBa H ?_ | refine lPa H ?_ | refine lSa H ?_)
 cases h2:(bitX .and .i64 c.addr 255 != 0)
 · refine (?_:zze3 _ b10 b12 b15 false wx)
   have hb:badC c = false:=by unfold badC; rw [h,h2]; rfl
   unfold zze3
   refine cnd_i (fun h=>by cases h) fun _=>?_
   refine loop_o (fun (st:Int) L=>∃ k:Nat,k≤8∧(∀ j,j < k→badB c j = false)∧st = k∧L = [row b15 (wI (wd c k)) tW4,row b12 [.int .u64 0,.int .u64 0,.int .u64 0,.int .u64 0] tW4,row b10 c.cells tCmd])
    (fun (st:Int)=>(8 - st).toNat) H ⟨0,by omega,fun _ h=>absurd h (by omega),rfl,rfl⟩ ?_
   rintro _ _ wx ⟨k,hk,hg,rfl,rfl⟩ H
   unfold zzki
   refine cnd_i (fun hc=>join_o ?_) fun hc=>?_
   · have hc:=of_decide_eq_true hc
     have hk8:k < 8:=by omega
     repeat (first | refine lIa H ?_ | refine lLa H ?_ | refine lBa H ?_ | refine lPa H ?_ | refine lSa H ?_)
     refine call_pa H (parted_t c.op k hk8) fun wx H=>?_
     refine ⟨_,_,_,_,rfl,?_⟩
     refine alc_o H fun b45 wx H=>?_
     iterate 3 refine sta H fun wx H=>?_
     repeat (first | refine lIa H ?_ | refine lLa H ?_ | refine lBa H ?_ | refine lPa H ?_ | refine lSa H ?_)
     refine call_pa H (get_t c k hk8) fun wx H=>?_
     refine ⟨_,rfl,join_o ?_⟩
     have fin:∀ bb:Bool,bb = badB c k→∀ wx,X.Own w S [row b45 [.int .i64 ((pw c.op k:Nat):Int),.int .i64 ((pf c.op k:Nat):Int),.int .i64 ((ps c.op k:Nat):Int)] tPart,row b15 (wI (wd c k)) tW4,row b12 [.int .u64 0,.int .u64 0,.int .u64 0,.int .u64 0] tW4,row b10 c.cells tCmd] wx →
      zzh4 (fun v w'=>∃ L',(v = encV c∧L' = [])∧X.Own w S L' w') b12 b15 (fun s85 w86=>zzh3 (k:Int) (fun (s':Int) w'=>(∃ L',(∃ k:Nat,k≤8∧(∀ j,j < k→badB c j = false)∧s' = k∧L' = [row b15 (wI (wd c k)) tW4,row b12 [.int .u64 0,.int .u64 0,.int .u64 0,.int .u64 0] tW4,row b10 c.cells tCmd])∧X.Own w S L' w')∧(8 - s').toNat < (8 - (k:Int)).toNat) w86) (ph c.op k) b45 (c.get k) bb wx:=by
      intro bb hbb wx H
      unfold zzh4
      refine cnd_i (fun h=>?_) fun h=>?_
      · iterate 4 refine sta H fun wx H=>?_
        repeat (first | refine lIa H ?_ | refine lLa H ?_ | refine lBa H ?_ | refine lPa H ?_ | refine lSa H ?_)
        have e:encM c = none:=by
         unfold encM
         rw [hb,if_neg (by decide),if_pos (List.any_eq_true.2 ⟨k,List.mem_range.2 hk8,by rw [← hbb,h]⟩)]
        exact ⟨_,⟨by unfold encV; rw [e]; rfl,rfl⟩,H.dp⟩
      have hg':∀ j,j < k + 1→badB c j = false:=by
       intro j hj
       by_cases e:j = k
       · rw [e,← hbb,h]
       · exact hg j (by omega)
      unfold zzh3
      have e1:IntKind.i64.wrap ((k:Int) + 1) = ((k + 1:Nat):Int):=by rw [W_id (by omega) (by omega)]; push_cast; rfl
      rw [e1]
      refine cnd_i (fun hh=>?_) fun hh=>?_
      · refine drw_o H fun wx H=>?_
        repeat (first | refine lIa H ?_ | refine lLa H ?_ | refine lBa H ?_ | refine lPa H ?_ | refine lSa H ?_)
        refine ix_i (pw_lt c.op k) ?_
        rw [add_lit,Nat.mul_one,Nat.zero_add]
        refine ldI_o H (by repeat (first | exact Pick.here | apply Pick.there)) (wI_get (by rw [wd_length]; exact pw_lt _ _)) ?_
        repeat (first | refine lIa H ?_ | refine lLa H ?_ | refine lBa H ?_ | refine lPa H ?_ | refine lSa H ?_)
        refine ⟨by omega,ix_i (pw_lt c.op k) ?_⟩
        rw [add_lit,Nat.mul_one,Nat.zero_add]
        refine st1_o H (by repeat (first | exact Rep.here | apply Rep.there)) (by rw [wI_length,wd_length]; exact pw_lt _ _) fun wx H=>⟨⟨[row b15 (wI (wd c (k + 1))) tW4,row b12 [.int .u64 0,.int .u64 0,.int .u64 0,.int .u64 0] tW4,row b10 c.cells tCmd],⟨k + 1,by omega,hg',rfl,rfl⟩,?_⟩,by omega⟩
        have e2:wd c (k + 1) = (wd c k).set (pw c.op k) (insB ((wd c k).getD (pw c.op k) 0) (c.get k) (pf c.op k)):=by
         conv=>lhs; unfold wd
         rw [hh,if_pos rfl]
        rw [e2,← wI_set]
        exact H.dp
      · refine ⟨⟨[row b15 (wI (wd c (k + 1))) tW4,row b12 [.int .u64 0,.int .u64 0,.int .u64 0,.int .u64 0] tW4,row b10 c.cells tCmd],⟨k + 1,by omega,hg',rfl,rfl⟩,?_⟩,by omega⟩
        have e2:wd c (k + 1) = wd c k:=by
         conv=>lhs; unfold wd
         rw [hh,if_neg (by decide)]
        rw [e2]
        exact H.dp
     have lt1:∀ wx,X.Own w S [row b45 [.int .i64 ((pw c.op k:Nat):Int),.int .i64 ((pf c.op k:Nat):Int),.int .i64 ((ps c.op k:Nat):Int)] tPart,row b15 (wI (wd c k)) tW4,row b12 [.int .u64 0,.int .u64 0,.int .u64 0,.int .u64 0] tW4,row b10 c.cells tCmd] wx→True:=fun _ _=>trivial
     refine cnd_i (fun h1=>cnd_i (fun h2=>?_) fun h2=>cnd_i (fun h3=>?_) fun h3=>?_) fun h1=>cnd_i (fun h3=>?_) fun h3=>?_
     · exact fin _ (by unfold badB; rw [h1,h2]; rfl) _ H
     · exact fin _ (by unfold badB; rw [h3]; simp) _ H
     · repeat (first | refine lIa H ?_ | refine lLa H ?_ | refine lBa H ?_ | refine lPa H ?_ | refine lSa H ?_)
       refine ⟨by omega,fin _ ?_ _ H⟩
       unfold badB; rw [h2,h3]; simp
     · exact fin _ (by unfold badB; rw [h3]; simp) _ H
     · repeat (first | refine lIa H ?_ | refine lLa H ?_ | refine lBa H ?_ | refine lPa H ?_ | refine lSa H ?_)
       refine ⟨by omega,fin _ ?_ _ H⟩
       unfold badB; rw [h1,h3]; simp
   · have hc:=of_decide_eq_false hc
     have:k = 8:=by omega
     subst this
     obtain ⟨x0,x1,x2,x3,hx⟩:=four (wd_length c 8)
     have e:encM c = some [x0,x1,x2,x3]:=by
      unfold encM
      rw [hb,if_neg (by decide),if_neg,hx]
      intro ha
      obtain ⟨j,hj,hj'⟩:=List.any_eq_true.1 ha
      rw [hg j (List.mem_range.1 hj)] at hj'
      cases hj'
     rw [hx] at H
     repeat (first | refine lIa H ?_ | refine lLa H ?_ | refine lBa H ?_ | refine lPa H ?_ | refine lSa H ?_)
     iterate 4 refine sta H fun wx H=>?_
     repeat (first | refine lIa H ?_ | refine lLa H ?_ | refine lBa H ?_ | refine lPa H ?_ | refine lSa H ?_)
     exact ⟨_,⟨by unfold encV; rw [e]; rfl,rfl⟩,H.dp⟩
 · exact bad (by unfold badC; rw [h2]; simp)
def cd (ws:List Int):Nat→Cm
 | 0=>{ cm0 with op:=IntKind.i64.wrap (bitX .and .u64 (ws.getD 0 0) 255) }
 | k + 1=>if ph (cd ws k).op k then (cd ws k).put (ext (ws.getD (pw (cd ws k).op k) 0) (pf (cd ws k).op k) (ps (cd ws k).op k)) k else cd ws k
def decM (ws:List Int):Option Cm:=if encM (cd ws 8) = some ws then some (cd ws 8) else none
def decV (ws:List Int):Value:=match decM ws with
 | some c=>.tuple [cmV c,.int .i64 0].toArray
 | none=>.tuple [cmV cm0,.int .i64 160].toArray
theorem Decode_t (a0 a1 a2 a3:Int):Tri P F.zzfV [.agg (wI [a0,a1,a2,a3]).toArray] [] fun v L'=>v = decV [a0,a1,a2,a3]∧L' = []:=by
 intro w S hS
 refine zzmn ?_
 unfold zzfV
 have H:=Own.start hS
 refine alc_o H fun b5 wx H=>alc_o H fun b7 wx H=>ix_i (i:=0) (by omega) ?_
 rw [add_lit]
 repeat (first | refine lIa H ?_ | refine lLa H ?_ | refine lBa H ?_ | refine lPa H ?_ | refine lSa H ?_)
 refine alc_o H fun b11 wx H=>?_
 iterate 9 refine sta H fun wx H=>?_
 generalize hws:[a0,a1,a2,a3] = ws at *
 have hl:ws.length = 4:=by rw [← hws]; rfl
 refine loop_o (fun (st:Int) L=>∃ k:Nat,k≤8∧st = k∧L = [row b11 (cd ws k).cells tCmd,row b7 [.int .i64 0,.int .i64 0,.int .i64 0,.int .i64 0,.int .i64 0,.int .i64 0,.int .i64 0,.int .i64 0,.bool false] tCmd,row b5 (wI ws) tW4])
  (fun (st:Int)=>(8 - st).toNat) H ⟨0,by omega,rfl,by rw [← hws]; rfl⟩ ?_
 rintro _ _ wx ⟨k,hk,rfl,rfl⟩ H
 unfold zzkp
 refine cnd_i (fun hc=>join_o ?_) fun hc=>?_
 · have hc:=of_decide_eq_true hc
   have hk8:k < 8:=by omega
   repeat (first | refine lIa H ?_ | refine lLa H ?_ | refine lBa H ?_ | refine lPa H ?_ | refine lSa H ?_)
   refine call_pa H (parted_t (cd ws k).op k hk8) fun wx H=>?_
   refine ⟨_,_,_,_,rfl,?_⟩
   refine alc_o H fun b35 wx H=>?_
   iterate 3 refine sta H fun wx H=>?_
   unfold zzko
   have e1:IntKind.i64.wrap ((k:Int) + 1) = ((k + 1:Nat):Int):=by rw [W_id (by omega) (by omega)]; push_cast; rfl
   rw [e1]
   refine cnd_i (fun hh=>?_) fun hh=>?_
   · refine drw_o H fun wx H=>?_
     repeat (first | refine lIa H ?_ | refine lLa H ?_ | refine lBa H ?_ | refine lPa H ?_ | refine lSa H ?_)
     refine ix_i (pw_lt _ k) ?_
     rw [add_lit,Nat.mul_one,Nat.zero_add]
     refine ldI_o H (by repeat (first | exact Pick.here | apply Pick.there)) (wI_get (by rw [hl]; exact pw_lt _ _)) ?_
     repeat (first | refine lIa H ?_ | refine lLa H ?_ | refine lBa H ?_ | refine lPa H ?_ | refine lSa H ?_)
     refine ⟨by omega,?_⟩
     repeat (first | refine lIa H ?_ | refine lLa H ?_ | refine lBa H ?_ | refine lPa H ?_ | refine lSa H ?_)
     refine ⟨by omega,?_⟩
     refine call_oa H (put_t' b11 (cd ws k) k hk8 _) fun vx L' wx hq H=>?_
     obtain ⟨rfl,rfl⟩:=hq
     simp only [List.cons_append,List.nil_append] at H
     refine ⟨rfl,⟨[row b11 (cd ws (k + 1)).cells tCmd,row b7 [.int .i64 0,.int .i64 0,.int .i64 0,.int .i64 0,.int .i64 0,.int .i64 0,.int .i64 0,.int .i64 0,.bool false] tCmd,row b5 (wI ws) tW4],⟨k + 1,by omega,rfl,rfl⟩,?_⟩,by omega⟩
     have e2:cd ws (k + 1) = (cd ws k).put (ext (ws.getD (pw (cd ws k).op k) 0) (pf (cd ws k).op k) (ps (cd ws k).op k)) k:=by
      conv=>lhs; unfold cd
      rw [hh,if_pos rfl]
     rw [e2]
     exact H.dp
   · refine ⟨⟨[row b11 (cd ws (k + 1)).cells tCmd,row b7 [.int .i64 0,.int .i64 0,.int .i64 0,.int .i64 0,.int .i64 0,.int .i64 0,.int .i64 0,.int .i64 0,.bool false] tCmd,row b5 (wI ws) tW4],⟨k + 1,by omega,rfl,rfl⟩,?_⟩,by omega⟩
     have e2:cd ws (k + 1) = cd ws k:=by
      conv=>lhs; unfold cd
      rw [hh,if_neg (by decide)]
     rw [e2]
     exact H.dp
 · have hc:=of_decide_eq_false hc
   have:k = 8:=by omega
   subst this
   repeat (first | refine lIa H ?_ | refine lLa H ?_ | refine lBa H ?_ | refine lPa H ?_ | refine lSa H ?_)
   refine call_pa H (Encode_t (cd ws 8)) fun wx H=>?_
   have hd:decV ws = if encM (cd ws 8) = some ws then .tuple [cmV (cd ws 8),.int .i64 0].toArray else .tuple [cmV cm0,.int .i64 160].toArray:=by
    unfold decV decM; split <;> split <;> simp_all
   have fin:∀ bb:Bool,(bb = true↔encM (cd ws 8)≠some ws)→∀ wx,∀ b66 xs,X.Own w S [row b66 xs tW4,row b11 (cd ws 8).cells tCmd,row b7 [.int .i64 0,.int .i64 0,.int .i64 0,.int .i64 0,.int .i64 0,.int .i64 0,.int .i64 0,.int .i64 0,.bool false] tCmd,row b5 (wI ws) tW4] wx →
    zzih (fun v w'=>∃ L',(v = decV ws∧L' = [])∧X.Own w S L' w') b7 b11 bb wx:=by
    intro bb hbb wx b66 xs H
    unfold zzih
    rw [hd]
    refine cnd_i (fun h=>?_) fun h=>?_
    · rw [if_neg (hbb.1 h)]
      iterate 9 refine sta H fun wx H=>?_
      repeat (first | refine lIa H ?_ | refine lLa H ?_ | refine lBa H ?_ | refine lPa H ?_ | refine lSa H ?_)
      exact ⟨_,⟨rfl,rfl⟩,H.dp⟩
    · rw [if_pos (Classical.not_not.1 fun hn=>by rw [hbb.2 hn] at h; cases h)]
      repeat (first | refine lIa H ?_ | refine lLa H ?_ | refine lBa H ?_ | refine lPa H ?_ | refine lSa H ?_)
      iterate 9 refine sta H fun wx H=>?_
      repeat (first | refine lIa H ?_ | refine lLa H ?_ | refine lBa H ?_ | refine lPa H ?_ | refine lSa H ?_)
      exact ⟨_,⟨rfl,rfl⟩,H.dp⟩
   cases he:encM (cd ws 8) with
   | none =>
    have e:encV (cd ws 8) = .tuple [.agg [.int .u64 0,.int .u64 0,.int .u64 0,.int .u64 0].toArray,.int .i64 160].toArray:=by unfold encV; rw [he]; rfl
    rw [e]
    refine ⟨_,_,_,_,_,rfl,?_⟩
    refine alc_o H fun b66 wx H=>?_
    iterate 4 refine sta H fun wx H=>?_
    refine join_o (cnd_i (fun _=>?_) (fun h=>by cases h))
    exact fin true (by rw [he]; simp) _ _ _ H
   | some xs =>
    have hx4:xs.length = 4:=by
     unfold encM at he
     split at he
     · cases he
     split at he
     · cases he
     · cases he; exact wd_length _ _
    obtain ⟨x0,x1,x2,x3,rfl⟩:=four hx4
    have e:encV (cd ws 8) = .tuple [.agg [.int .u64 x0,.int .u64 x1,.int .u64 x2,.int .u64 x3].toArray,.int .i64 0].toArray:=by unfold encV; rw [he]; rfl
    rw [e]
    refine ⟨_,_,_,_,_,rfl,?_⟩
    refine alc_o H fun b66 wx H=>?_
    iterate 4 refine sta H fun wx H=>?_
    refine join_o (cnd_i (fun h=>by cases h) fun _=>?_)
    subst hws
    repeat (first | refine lIa H ?_ | refine lLa H ?_ | refine lBa H ?_ | refine lPa H ?_ | refine lSa H ?_)
    refine eq4 ?_
    exact fin _ (by rw [he]; simp only [ne_eq,Option.some.injEq,Bool.not_eq_true',decide_eq_false_iff_not]) _ _ _ H
def Plain (f:FuncId) (args:List Value) (v:Value):Prop:=∀ w,CV P f args w fun v' w'=>v' = v∧Below w.heap.size w w'
def winV (a s:Int):Value:=.agg [.int .i64 a,.int .i64 s].toArray
structure MemAt (w:World) (p:Option Addr) (b d c:Nat) (bs:List Int) (rest:List Value):Prop where
 hp:p = some ⟨b,0,none⟩
 hb:∃ t,Row w b [.slice (some ⟨d,0,none⟩) bs.length c] t
 hd:∃ t,Row w d ((u8s bs ++ rest)) t
 hc:c = bs.length + rest.length
 hne:b≠d
 hr:∀ x∈bs,0≤x∧x < 256
 hl:bs.length≤131072
theorem zzmh {bs:List Int} {rest:List Value} {k:Nat} (h:k < bs.length):(u8s bs ++ rest)[k]? = some (.int .u8 bs[k]):=by
 rw [List.getElem?_append_left (by rw [u8s_length]; exact h),u8s_get h]
theorem zzmO {bs:List Int} {rest:List Value} {k:Nat} {n:Int} (h:k < bs.length):(u8s bs ++ rest).set k (.int .u8 n) = u8s (bs.set k n) ++ rest:=by
 rw [List.set_append_left _ _ (by rw [u8s_length]; exact h),u8s_set]
theorem MemAt.ext {w w':World} {p:Option Addr} {b d c:Nat} {bs:List Int} {rest:List Value} (h:MemAt w p b d c bs rest) (hB:Below w.heap.size w w'):MemAt w' p b d c bs rest :=
 ⟨h.hp,let ⟨t,r⟩:=h.hb; ⟨t,r.ext hB⟩,let ⟨t,r⟩:=h.hd; ⟨t,r.ext hB⟩,h.hc,h.hne,h.hr,h.hl⟩
theorem MemAt.heap {w w':World} {p:Option Addr} {b d c:Nat} {bs:List Int} {rest:List Value} (h:MemAt w p b d c bs rest) (hb:w'.heap[b]? = w.heap[b]?) (hd:w'.heap[d]? = w.heap[d]?):MemAt w' p b d c bs rest :=
 ⟨h.hp,let ⟨t,r⟩:=h.hb; ⟨t,by unfold Row; rw [hb]; exact r⟩,let ⟨t,r⟩:=h.hd; ⟨t,by unfold Row; rw [hd]; exact r⟩,h.hc,h.hne,h.hr,h.hl⟩
theorem MemAt.lt {w:World} {p:Option Addr} {b d c:Nat} {bs:List Int} {rest:List Value} (h:MemAt w p b d c bs rest):b < w.heap.size∧d < w.heap.size :=
 ⟨let ⟨t,r⟩:=h.hb; r.lt,let ⟨t,r⟩:=h.hd; r.lt⟩
def holdsB (n:Nat) (a s:Int):Bool:=decide (0≤a) && (decide (0≤s) && (decide (s≤n) && decide (a≤n - s)))
theorem holdsB_iff {n:Nat} {a s:Int}:holdsB n a s = true↔0≤a∧0≤s∧s≤n∧a≤n - s:=by simp [holdsB]
theorem holds_cv {w:World} {p:Option Addr} {b d c:Nat} {bs:List Int} {rest:List Value} (hm:MemAt w p b d c bs rest) (a s:Int) :
 CV P F.zzcZ [.pointer p,winV a s] w fun v w'=>v = .bool (holdsB bs.length a s)∧Below w.heap.size w w':=by
 refine zzlZ ?_
 unfold zzcZ
 refine alc_i fun w1 hB1 h1 hs1=>?_
 have hb1:=(hB1 _ (Nat.le_refl _)).drew
 have hm1:=hm.ext (hB1 _ (Nat.le_refl _))
 obtain ⟨tb,rb⟩:=hm1.hb
 have hp:=hm.hp
 have hl:=hm.hl
 subst hp
 unfold JoinT
 refine ldI_i h1.drew rfl (cnd_i (fun h=>?_) fun h=>⟨?_,hb1⟩)
 · refine ldI_i h1.drew rfl (cnd_i (fun h'=>?_) fun h'=>⟨?_,hb1⟩)
   · refine ldI_i h1.drew rfl (ldL_i rb.drew rfl (cnd_i (fun h2=>?_) fun h2=>⟨?_,hb1⟩))
     · refine ldI_i h1.drew rfl (ldL_i rb.drew rfl (ldI_i h1.drew rfl ⟨?_,hb1⟩))
       have h:=of_decide_eq_true h
       have h':=of_decide_eq_true h'
       have h2:=of_decide_eq_true h2
       rw [W_id (by omega) (by omega)]
       simp [holdsB,show 0≤a by omega,show 0≤s by omega,h2]
     · have h2:=of_decide_eq_false h2
       have:holdsB bs.length a s = false:=by
        cases hh:holdsB bs.length a s
        · rfl
        · rw [holdsB_iff] at hh; omega
       rw [this]
   · have h':=of_decide_eq_false h'
     have:holdsB bs.length a s = false:=by
      cases hh:holdsB bs.length a s
      · rfl
      · rw [holdsB_iff] at hh; omega
     rw [this]
 · have h:=of_decide_eq_false h
   have:holdsB bs.length a s = false:=by
    cases hh:holdsB bs.length a s
    · rfl
    · rw [holdsB_iff] at hh; omega
   rw [this]
def mayE (s o n:Int):Int:=if n≠1∧n≠4∧n≠8 then 40 else if Int.tmod o n≠0 then 41 else if o < 0∨o > IntKind.i64.wrap (s - n) then 42 else 0
theorem may_plain (s o n:Int):Plain F.zziQ [.int .i64 s,.int .i64 o,.int .i64 n] (.int .i64 (mayE s o n)):=by
 intro w
 refine zzmN ?_
 unfold zziQ JoinT
 have hB:=Below.refl w.heap.size w
 have good:(n = 1∨n = 4∨n = 8)→zzkf s o n (fun v' w'=>v' = .int .i64 (mayE s o n)∧Below w.heap.size w w') false w:=by
  intro hn
  unfold zzkf
  refine cnd_i (fun h=>by cases h) fun _=>⟨by omega,?_⟩
  refine cnd_i (fun h=>⟨?_,hB⟩) fun h=>?_
  · have h:Int.tmod o n≠0:=by simpa using h
    rw [mayE,if_neg (by omega),if_pos h]
  have h:Int.tmod o n = 0:=by simpa using h
  unfold JoinT zzma
  refine cnd_i (fun h'=>cnd_i (fun _=>⟨?_,hB⟩) fun h=>by cases h) fun h'=>cnd_i (fun h2=>⟨?_,hB⟩) fun h2=>⟨?_,hB⟩
  · have h':=of_decide_eq_true h'
    rw [mayE,if_neg (by omega),if_neg (by omega),if_pos (by omega)]
  · have h2:=of_decide_eq_true h2
    rw [mayE,if_neg (by omega),if_neg (by omega),if_pos (by omega)]
  · have h':=of_decide_eq_false h'
    have h2:=of_decide_eq_false h2
    rw [mayE,if_neg (by omega),if_neg (by omega),if_neg (by omega)]
 refine cnd_i (fun h=>cnd_i (fun h'=>?_) fun h'=>?_) fun h=>?_
 · have h:n≠1:=by simpa using h
   have h':n≠4:=by simpa using h'
   cases h2:(n != 8)
   · exact good (by
                    have:n = 8:=by simpa using h2
                    omega)
   · have h2:n≠8:=by simpa using h2
     exact ⟨by rw [mayE,if_pos (by omega)],hB⟩
 · exact good (by
                  have:n = 4:=by simpa using h'
                  omega)
 · exact good (by
                  have:n = 1:=by simpa using h
                  omega)
def errE (len:Nat) (a s o n:Int):Int:=if holdsB len a s then mayE s o n else 42
theorem errE_ok {len:Nat} {a s o n:Int} (h:errE len a s o n = 0) (hl:len≤131072):0≤a∧0≤o∧(n = 1∨n = 4∨n = 8)∧Int.tmod o n = 0∧a + o + n≤len∧s≤len∧o + n≤s∧a + s≤len:=by
 unfold errE at h
 split at h
 · rename_i hh
   rw [holdsB_iff] at hh
   unfold mayE at h
   split at h
   · omega
   · split at h
     · omega
     · split at h
       · omega
       · rename_i h1 h2 h3
         have hn:n = 1∨n = 4∨n = 8:=by omega
         rw [W_id (by omega) (by omega)] at h3
         exact ⟨by omega,by omega,hn,by omega,by omega,by omega,by omega,by omega⟩
 · omega
def partV (len c d:Nat) (a s o n:Int):Value:=if errE len a s o n = 0 then .tuple [.slice (some ⟨d,(a + o).toNat,none⟩) n.toNat (c - (a + o).toNat),.int .i64 0].toArray else .tuple [.slice none 0 0,.int .i64 (errE len a s o n)].toArray
theorem part_cv {w:World} {p:Option Addr} {b d c:Nat} {bs:List Int} {rest:List Value} (hm:MemAt w p b d c bs rest) (a s o n:Int) :
 CV P F.zzes [.pointer p,winV a s,.int .i64 o,.int .i64 n] w fun v w'=>v = partV bs.length c d a s o n∧Below w.heap.size w w':=by
 refine zzl8 ?_
 unfold zzes
 refine alc_i fun w1 hB1 h1 hs1=>?_
 have hb1:=hB1 _ (Nat.le_refl _)
 have hm1:=hm.ext hb1
 refine ldI_i h1 rfl (ldI_i h1 rfl ?_)
 refine (holds_cv hm1 a s).mono ?_
 rintro _ w2 ⟨rfl,hB2⟩
 have h2:=h1.ext hB2
 have hm2:=hm1.ext hB2
 have hb2:=hb1.trans (hB2.mono hb1.size)
 refine ⟨_,rfl,?_⟩
 cases hh:holdsB bs.length a s
 · refine ⟨?_,hb2⟩
   have:errE bs.length a s o n = 42:=by simp [errE,hh]
   simp [partV,this]
 refine cnd_i (fun h=>by cases h) fun _=>ldI_i h2 rfl ?_
 refine (may_plain s o n w2).mono ?_
 rintro _ w3 ⟨rfl,hB3⟩
 have h3:=h2.ext hB3
 have hm3:=hm2.ext hB3
 have hb3:=hb2.trans (hB3.mono hb2.size)
 have he:errE bs.length a s o n = mayE s o n:=by simp [errE,hh]
 refine ⟨_,rfl,cnd_i (fun h=>⟨?_,hb3⟩) fun h=>?_⟩
 · have h:mayE s o n≠0:=by simpa using h
   simp [partV,he,h]
 have h:mayE s o n = 0:=by simpa using h
 have hz:errE bs.length a s o n = 0:=by rw [he,h]
 obtain ⟨a0,o0,hn,ht,hlen,_,_,_⟩:=errE_ok hz hm.hl
 have hl:=hm.hl
 obtain ⟨tb,rb⟩:=hm3.hb
 have hp:=hm.hp
 subst hp
 refine ldL_i rb.drew rfl (ldI_i h3.drew rfl (ldI_i h3.drew rfl ?_))
 have hc:=hm.hc
 rw [W_id (n:=a + o) (by omega) (by omega),W_id (n:=a + o + n) (by omega) (by omega)]
 refine ⟨by simp,?_,?_,?_⟩
 · intro x hx; cases hx; exact ⟨by omega,by simp; omega⟩
 · intro x hx; cases hx; exact ⟨by omega,by simp; omega⟩
 · refine ⟨?_,hb3.drew⟩
   have e1:c≠(a + o).toNat:=by omega
   have e2:(a + o + n).toNat - (a + o).toNat = n.toNat:=by omega
   simp [partV,hz,e1,e2,add_lit]
def le:List Int→Int
 | []=>0
 | x :: r=>x + 256 * le r
theorem le_nonneg {bs:List Int} (h:∀ x∈bs,0≤x∧x < 256):0≤le bs∧le bs < 256 ^ bs.length:=by
 induction bs with
 | nil=>simp [le]
 | cons x r ih =>
  obtain ⟨h1,h2⟩:=ih fun y hy=>h y (by simp [hy])
  have hx:=h x (by simp)
  simp only [le,List.length_cons,Int.pow_succ]
  omega
theorem le_append (a b:List Int):le (a ++ b) = le a + 256 ^ a.length * le b:=by
 induction a with
 | nil=>simp [le]
 | cons x r ih=>simp only [List.cons_append,le,ih,List.length_cons,Int.pow_succ,Int.mul_add]; rw [Int.mul_comm (256 ^ r.length) 256,Int.mul_assoc]; omega
theorem or_add {a x:Int} {i:Nat} (hi:i < 8) (ha:0≤a∧a < 256 ^ i) (hx:0≤x∧x < 256) :
 bitX .or .u64 a (IntKind.u64.wrap (IntKind.u64.wrap x * 2 ^ min (Int.toNat (IntKind.i64.wrap (8 * (i:Int)))) IntKind.u64.bits)) = a + 256 ^ i * x:=by
 have e1:IntKind.i64.wrap (8 * (i:Int)) = 8 * i:=W_id (by omega) (by omega)
 have e2:min (8 * (i:Int)).toNat IntKind.u64.bits = 8 * i:=by simp [IntKind.bits]; omega
 rw [e1,e2]
 obtain ⟨m,rfl⟩:=Int.eq_ofNat_of_zero_le ha.1
 obtain ⟨y,rfl⟩:=Int.eq_ofNat_of_zero_le hx.1
 have hm:m < 256 ^ i:=by have:=ha.2; exact_mod_cast this
 have hy:y < 256:=by omega
 have hp:(256:Nat) ^ i = 2 ^ (8 * i):=by rw [Nat.pow_mul]
 have hle:2 ^ (8 * i)≤2 ^ 56:=Nat.pow_le_pow_right (by omega) (by omega)
 have hprod:y * 2 ^ (8 * i)≤255 * 2 ^ 56:=Nat.mul_le_mul (by omega) hle
 have w1:IntKind.u64.wrap (y:Int) = y:=by simp [IntKind.wrap,IntKind.signed,IntKind.bits]; omega
 rw [w1]
 have hc:((y:Int) * 2 ^ (8 * i)) = ((y * 2 ^ (8 * i):Nat):Int):=by push_cast; rfl
 rw [hc]
 generalize hk:y * 2 ^ (8 * i) = k at *
 have w2:IntKind.u64.wrap (k:Int) = k:=by simp [IntKind.wrap,IntKind.signed,IntKind.bits]; omega
 rw [w2]
 have hor:k ||| m = k + m:=by
  rw [← hk,← Nat.shiftLeft_eq]; exact (Nat.shiftLeft_add_eq_or_of_lt (by rw [← hp]; exact hm) y).symm
 have hm64:m < 2 ^ 64:=by rw [hp] at hm; omega
 have hb:(BitVec.ofInt 64 (m:Int) ||| BitVec.ofInt 64 (k:Int)).toNat = m + k:=by
  rw [BitVec.toNat_or,BitVec.ofInt_natCast,BitVec.ofInt_natCast,BitVec.toNat_ofNat,BitVec.toNat_ofNat,Nat.mod_eq_of_lt hm64,Nat.mod_eq_of_lt (by omega),Nat.or_comm,hor,Nat.add_comm]
 show IntKind.u64.wrap _ = _
 have hb':(BitVec.ofInt (IntKind.u64).bits (m:Int) ||| BitVec.ofInt (IntKind.u64).bits (k:Int)).toNat = m + k:=hb
 rw [hb']
 have w3:IntKind.u64.wrap ((m + k:Nat):Int) = (m + k:Nat):=by
  simp [IntKind.wrap,IntKind.signed,IntKind.bits]
  rw [hp] at hm; omega
 rw [w3,← hk,hp.symm]
 push_cast
 rw [Int.mul_comm (y:Int)]
def cut (bs:List Int) (k n:Nat):List Int:=(bs.drop k).take n
theorem cut_length {bs:List Int} {k n:Nat} (h:k + n≤bs.length):(cut bs k n).length = n:=by simp [cut]; omega
theorem cut_succ {bs:List Int} {k n:Nat} (h:k + n < bs.length):cut bs k (n + 1) = cut bs k n ++ [bs[k + n]]:=by
 unfold cut
 rw [List.take_succ_eq_append_getElem (by simp; omega)]
 simp
theorem cut_mem {bs:List Int} {k n:Nat} {x:Int} (h:x∈cut bs k n):x∈bs:=List.mem_of_mem_drop (List.mem_of_mem_take h)
def readV (bs:List Int) (a s o n:Int):Value:=if errE bs.length a s o n = 0 then .tuple [.int .u64 (le (cut bs (a + o).toNat n.toNat)),.int .i64 0].toArray else .tuple [.int .u64 0,.int .i64 (errE bs.length a s o n)].toArray
theorem read_cv {w:World} {p:Option Addr} {b d c:Nat} {bs:List Int} {rest:List Value} (hm:MemAt w p b d c bs rest) (a s o n:Int) :
 CV P F.zzdE [.pointer p,winV a s,.int .i64 o,.int .i64 n] w fun v w'=>v = readV bs a s o n∧Below w.heap.size w w':=by
 refine zzl7 ?_
 unfold zzdE
 refine alc_i fun w1 hB1 h1 hs1=>?_
 have hb1:=hB1 _ (Nat.le_refl _)
 have hm1:=hm.ext hb1
 refine ldI_i h1 rfl (ldI_i h1 rfl ?_)
 refine (part_cv hm1 a s o n).mono ?_
 rintro _ w2 ⟨rfl,hB2⟩
 have hm2:=hm1.ext hB2
 have hb2:=hb1.trans (hB2.mono hb1.size)
 by_cases he:errE bs.length a s o n = 0
 · obtain ⟨a0,o0,hn,ht,hlen,_,_,_⟩:=errE_ok he hm.hl
   refine ⟨some ⟨d,(a + o).toNat,none⟩,n.toNat,c - (a + o).toNat,0,by simp [partV,he],?_⟩
   refine ⟨fun (st:Int×Int) w'=>∃ i:Nat,i≤n.toNat∧st.2 = i∧st.1 = le (cut bs (a + o).toNat i)∧w' = w2,fun (st:Int×Int) _=>(n - st.2).toNat,⟨0,by omega,rfl,by simp [cut,le],rfl⟩,?_⟩
   rintro ⟨acc,i'⟩ _ ⟨i,hi,hi',hacc,rfl⟩
   simp only at hi' hacc
   subst hi' hacc
   unfold zzhm
   refine cnd_i (fun h=>?_) fun h=>⟨?_,hb2⟩
   · have h:=of_decide_eq_true h
     have hin:i < n.toNat:=by omega
     refine ⟨⟨by omega,by omega⟩,?_⟩
     rw [show ((i:Int)).toNat = i from rfl]
     obtain ⟨td,rd⟩:=hm2.hd
     have hk:(a + o).toNat + i < bs.length:=by omega
     show ldI _ _ _ _
     rw [add_lit,Nat.mul_one]
     refine ldI_i rd (n:=bs[(a + o).toNat + i]) (zzmh hk) ?_
     refine ⟨by rw [W_id (by omega) (by omega)]; omega,⟨i + 1,by omega,?_,?_,rfl⟩,?_⟩
     · show IntKind.i64.wrap ((i:Int) + 1) = ((i + 1:Nat):Int)
       rw [W_id (by omega) (by omega)]; rfl
     · show bitX .or .u64 _ _ = _
       have hr:=hm.hr
       have hle:=le_nonneg (bs:=cut bs (a + o).toNat i) fun x hx=>hr x (cut_mem hx)
       rw [cut_length (by omega)] at hle
       rw [or_add (by omega) hle (hr _ (List.getElem_mem hk)),cut_succ hk,le_append,cut_length (by omega)]
       simp [le]
     · show (n - IntKind.i64.wrap ((i:Int) + 1)).toNat < (n - (i:Int)).toNat
       rw [W_id (by omega) (by omega)]; omega
   · have h:=of_decide_eq_false h
     have:i = n.toNat:=by omega
     subst this
     simp [readV,he]
 · refine ⟨none,0,0,errE bs.length a s o n,by simp [partV,he],?_⟩
   refine ⟨fun (st:Int×Int) w'=>st = (0,0)∧w' = w2,fun _ _=>0,⟨rfl,rfl⟩,?_⟩
   rintro _ _ ⟨rfl,rfl⟩
   unfold zzhm
   refine cnd_i (fun h=>by simp at h) fun h=>⟨?_,hb2⟩
   simp [readV,he]
def byteI (v:Int) (i:Nat):Int:=(v / 256 ^ i) % 256
theorem byteI_range (v:Int) (i:Nat):0≤byteI v i∧byteI v i < 256:=⟨Int.emod_nonneg _ (by omega),Int.emod_lt_of_pos _ (by omega)⟩
def wr (bs:List Int) (k:Nat) (v:Int):Nat→List Int
 | 0=>bs
 | i + 1=>(wr bs k v i).set (k + i) (byteI v i)
theorem wr_length (bs:List Int) (k:Nat) (v:Int):∀ i,(wr bs k v i).length = bs.length
 | 0=>rfl
 | i + 1=>by simp [wr,wr_length bs k v i]
theorem wr_range {bs:List Int} (h:∀ x∈bs,0≤x∧x < 256) (k:Nat) (v:Int):∀ i,∀ x∈wr bs k v i,0≤x∧x < 256
 | 0,x,hx=>h x hx
 | i + 1,x,hx=>by
  rcases List.mem_or_eq_of_mem_set hx with hx | rfl
  · exact wr_range h k v i x hx
  · exact byteI_range v i
theorem wr_get (bs:List Int) (k:Nat) (v:Int):∀ (i j:Nat),(wr bs k v i)[j]? = if k≤j∧j < k + i∧j < bs.length then some (byteI v (j - k)) else bs[j]?
 | 0,j=>by simp [wr]; omega
 | i + 1,j=>by
  simp only [wr,List.getElem?_set,wr_length,wr_get bs k v i j]
  by_cases e:k + i = j
  · subst e
    by_cases h:k + i < bs.length
    · simp [h]
    · rw [if_pos rfl,if_neg h,if_neg (by omega)]
      simp; omega
  · rw [if_neg e]
    by_cases h:k≤j∧j < k + i∧j < bs.length
    · rw [if_pos h,if_pos (by omega)]
    · rw [if_neg h,if_neg (by omega)]
def writeM (bs:List Int) (a s o n v:Int):List Int:=if errE bs.length a s o n = 0 then wr bs (a + o).toNat v n.toNat else bs
theorem writeM_length {bs:List Int} {a s o n v:Int}:(writeM bs a s o n v).length = bs.length:=by
 unfold writeM; split
 · exact wr_length _ _ _ _
 · rfl
theorem new_cv {w:World} (n:Int):CV P F.zziO [.int .i64 n] w fun v w'=>Below w.heap.size w w' ∧
 (if 0≤n∧n≤131072 then ∃ b d,v = .tuple [.pointer (some ⟨b,0,none⟩),.int .i64 0].toArray∧MemAt w' (some ⟨b,0,none⟩) b d n.toNat (List.replicate n.toNat 0) []∧w.heap.size≤b∧w.heap.size≤d
  else v = .tuple [.pointer none,.int .i64 1].toArray):=by
 refine zzmL ?_
 unfold zziO JoinT
 have hB:=Below.refl w.heap.size w
 have bad:¬ (0≤n∧n≤131072)→zziA n (fun v w'=>Below w.heap.size w w' ∧
  (if 0≤n∧n≤131072 then ∃ b d,v = .tuple [.pointer (some ⟨b,0,none⟩),.int .i64 0].toArray∧MemAt w' (some ⟨b,0,none⟩) b d n.toNat (List.replicate n.toNat 0) []∧w.heap.size≤b∧w.heap.size≤d
   else v = .tuple [.pointer none,.int .i64 1].toArray)) true w:=by
  intro h
  unfold zziA
  exact cnd_i (fun _=>⟨hB,by rw [if_neg h]⟩) fun h=>by cases h
 refine cnd_i (fun h=>bad (by have h:=of_decide_eq_true h; omega)) fun h=>?_
 have h:=of_decide_eq_false h
 cases h2:decide (n > 131072)
 · have h2:=of_decide_eq_false h2
   unfold zziA
   refine cnd_i (fun h=>by cases h) fun _=>?_
   refine make_i appBytes zeroByte (by omega) (by omega) (by omega) fun w1 hB1 h1 hs1=>alc_i fun w2 hB2 h2' hs2=>⟨(hB1 _ (Nat.le_refl _)).trans (hB2 _ (by omega)),?_⟩
   rw [if_pos (by omega)]
   have hb':∃ t,Row w2 w1.heap.size [.slice (some ⟨w.heap.size,0,none⟩) (List.replicate n.toNat (0:Int)).length n.toNat] t:=by rw [List.length_replicate]; exact ⟨_,h2'⟩
   have hd':∃ t,Row w2 w.heap.size (u8s (List.replicate n.toNat 0) ++ []) t:=by
    have:=h1.below (hB2 w1.heap.size (Nat.le_refl _)) (by omega)
    exact ⟨_,by simpa [u8s] using this⟩
   refine ⟨w1.heap.size,w.heap.size,rfl,⟨rfl,hb',hd',by simp,by omega,?_,by simp; omega⟩,by omega,Nat.le_refl _⟩
   intro x hx; rw [(List.mem_replicate.1 hx).2]; omega
 · have h2:=of_decide_eq_true h2
   exact bad (by omega)
theorem u8s_one (bs:List Int):∀ u∈u8s bs,u.oneCell' = true:=by
 intro u hu
 obtain ⟨x,_,rfl⟩:=List.mem_map.1 hu
 rfl
def over (bs:List Int) (k:Nat) (xs:List Int):List Int:=bs.take k ++ xs ++ bs.drop (k + xs.length)
theorem over_length {bs xs:List Int} {k:Nat} (h:k + xs.length≤bs.length):(over bs k xs).length = bs.length:=by simp [over]; omega
theorem splice_u8s {bs xs:List Int} {rest:List Value} {k:Nat} (h:k + xs.length≤bs.length):splice ((u8s bs ++ rest)) k (u8s xs) = u8s (over bs k xs) ++ rest:=by
 simp only [splice,over,u8s_append,u8s_length]
 rw [List.take_append_of_le_length (by rw [u8s_length]; omega),List.drop_append_of_le_length (by rw [u8s_length]; omega)]
 simp [u8s]
theorem over_range {bs xs:List Int} {k:Nat} (h:∀ x∈bs,0≤x∧x < 256) (h':∀ x∈xs,0≤x∧x < 256):∀ x∈over bs k xs,0≤x∧x < 256:=by
 intro x hx
 simp only [over,List.mem_append] at hx
 rcases hx with (hx | hx) | hx
 · exact h x (List.mem_of_mem_take hx)
 · exact h' x hx
 · exact h x (List.mem_of_mem_drop hx)
theorem MemAt.turned {w w':World} {p:Option Addr} {b d c:Nat} {bs xs:List Int} {rest:List Value} {k:Nat} {td:TypeId} (hm:MemAt w p b d c bs rest) (h:k + xs.length≤bs.length) (hx:∀ x∈xs,0≤x∧x < 256)
 (hd:Row w' d (splice ((u8s bs ++ rest)) k (u8s xs)) td) (ho:∀ k,k≠d→w'.heap[k]? = w.heap[k]?):MemAt w' p b d c (over bs k xs) rest:=by
 obtain ⟨tb,rb⟩:=hm.hb
 refine ⟨hm.hp,⟨tb,?_⟩,⟨td,?_⟩,by rw [hm.hc,over_length h],hm.hne,over_range hm.hr hx,by rw [over_length h]; exact hm.hl⟩
 · rw [over_length h]; unfold Row; rw [ho _ hm.hne]; exact rb
 · rw [splice_u8s h] at hd; exact hd
theorem put_cv {w:World} {p:Option Addr} {b d c:Nat} {bs:List Int} {rest:List Value} (hm:MemAt w p b d c bs rest) (a s:Int) {q:Option Addr} {c':Nat} {xs:List Int} (hx:Sl w q (u8s xs)) (hr:∀ x∈xs,0≤x∧x < 256) :
 CV P F.zzdr [.pointer p,winV a s,.slice q xs.length c'] w fun v w'=>v = .int .i64 (if holdsB bs.length a s && decide ((xs.length:Int)≤s) then 0 else 42)∧Out (fun k=>k = d) w w' ∧
  MemAt w' p b d c (if holdsB bs.length a s && decide ((xs.length:Int)≤s) then over bs a.toNat xs else bs) rest:=by
 refine zzme ?_
 unfold zzdr JoinT
 refine alc_i fun w1 hB1 h1 hs1=>?_
 have hb1:=hB1 _ (Nat.le_refl _)
 have hm1:=hm.ext hb1
 refine ldI_i h1 rfl (ldI_i h1 rfl ?_)
 refine (holds_cv hm1 a s).mono ?_
 rintro _ w2 ⟨rfl,hB2⟩
 have h2:=h1.ext hB2
 have hm2:=hm1.ext hB2
 have hb2:=hb1.trans (hB2.mono hb1.size)
 refine ⟨_,rfl,?_⟩
 cases hh:holdsB bs.length a s
 · refine cnd_i (fun _=>?_) fun h=>by cases h
   unfold zzhK
   exact cnd_i (fun _=>⟨rfl,Out.pure hb2,hm2⟩) fun h=>by cases h
 refine cnd_i (fun h=>by cases h) fun _=>ldI_i h2 rfl ?_
 unfold zzhK
 refine cnd_i (fun h=>?_) fun h=>?_
 · have h:=of_decide_eq_true h
   rw [show decide ((xs.length:Int)≤s) = false from decide_eq_false (by omega)]
   exact ⟨rfl,Out.pure hb2,hm2⟩
 have h:=of_decide_eq_false h
 rw [show decide ((xs.length:Int)≤s) = true from decide_eq_true (by omega)]
 obtain ⟨g1,g2,g3,g4⟩:=holdsB_iff.1 hh
 have hl:=hm.hl
 have hc:=hm.hc
 obtain ⟨tb,rb⟩:=hm2.hb
 obtain ⟨td,rd⟩:=hm2.hd
 have hp:=hm.hp
 subst hp
 unfold drw
 refine ldL_i rb.drew rfl (ldI_i h2.drew rfl ?_)
 refine ⟨by simp,by simp,?_,?_⟩
 · intro x hx; cases hx; exact ⟨by omega,by simp; omega⟩
 simp only [Option.map_some,Option.getD_some,Option.map_none,Option.getD_none,Nat.mul_one,add_lit,Nat.zero_add]
 have hx2:Sl w2.drew q (u8s xs):=by
  intro j u hj
  obtain ⟨y,hy,hcell⟩:=hx j u hj
  refine ⟨y,hy,?_⟩
  have hlt:=World.block_lt_of_cell? w _ hcell
  show w2.cell? _ = _
  rw [hb2.cell hlt]; exact hcell
 have fin:∀ w',Row w' d (splice ((u8s bs ++ rest)) a.toNat (u8s xs)) td→(∀ k,k≠d→w'.heap[k]? = w2.heap[k]?)→w'.heap.size = w2.heap.size→w'.os = w2.os→w'.tape = w2.tape→w'.output = w2.output →
  (Value.int .i64 0 = .int .i64 (if (true && true) = true then 0 else 42)∧Out (fun k=>k = d) w w'∧MemAt w' (some ⟨b,0,none⟩) b d c (if (true && true) = true then over bs a.toNat xs else bs) rest):=by
  intro w' h5 h6 h7 h8 h9 h10
  refine ⟨rfl,(Out.pure hb2).trans ⟨h8,h9,h10,by omega,fun k _ hk=>h6 k hk⟩,?_⟩
  show MemAt w' _ b d c (over bs a.toNat xs) rest
  exact hm2.turned (by omega) hr h5 h6
 by_cases hca:c = a.toNat
 · have hs0:xs.length = 0:=by omega
   have:xs = []:=List.eq_nil_of_length_eq_zero hs0
   subst this
   rw [if_pos hca]
   refine copy_i appBytes (o:=0) rd.drew hx2 (by simp [u8s]) (by simp) (by simp) (by simp [u8s]) fun w' h5 h6 h7 h8 h9 h10=>fin w' ?_ h6 h7 h8 h9 h10
   simpa [splice,u8s] using h5
 · rw [if_neg hca]
   refine copy_i appBytes (o:=a.toNat) rd.drew hx2 (by rw [u8s_length]) (by omega) (by rw [List.length_append,u8s_length]; omega) (u8s_one xs) fun w' h5 h6 h7 h8 h9 h10=>fin w' h5 h6 h7 h8 h9 h10
def memI (b:Nat) (bs:List Int):It where
 h:=fun w S=>∃ d c rest,MemAt w (some ⟨b,0,none⟩) b d c bs rest∧∀ k,S k↔k = b∨k = d
 loc:=fun ⟨d,c,rest,h1,h2⟩ hw _=>⟨d,c,rest,h1.heap (hw _ ((h2 _).2 (.inl rfl))) (hw _ ((h2 _).2 (.inr rfl))),h2⟩
 lt:=fun ⟨d,c,rest,h1,h2⟩ k hk=>by rcases (h2 k).1 hk with rfl | rfl; exact h1.lt.1; exact h1.lt.2
theorem tri_mem {f:FuncId} {args:List Value} {b:Nat} {bs:List Int} {V:Value} (h:∀ w d c rest,MemAt w (some ⟨b,0,none⟩) b d c bs rest→CV P f args w fun v w'=>v = V∧Below w.heap.size w w') :
 Tri P f args [memI b bs] fun v L'=>v = V∧L' = [memI b bs] :=
 Tri.of_pure fun w S hS=>let ⟨d,c,rest,h1,_⟩:=sep_one.1 hS; h w d c rest h1
theorem read_t (b:Nat) (bs:List Int) (a s o n:Int):Tri P F.zzdE [.pointer (some ⟨b,0,none⟩),winV a s,.int .i64 o,.int .i64 n] [memI b bs] fun v L'=>v = readV bs a s o n∧L' = [memI b bs]:=tri_mem fun w d c rest hm=>read_cv hm a s o n
theorem put_t (b:Nat) (bs:List Int) (a s:Int) {q:Option Addr} {c':Nat} {xs:List Int} (i:It) (hi:∀ w S,i.h w S→Sl w q (u8s xs)) (hr:∀ x∈xs,0≤x∧x < 256) :
 Tri P F.zzdr [.pointer (some ⟨b,0,none⟩),winV a s,.slice q xs.length c'] [memI b bs,i] fun v L'=>v = .int .i64 (if holdsB bs.length a s && decide ((xs.length:Int)≤s) then 0 else 42) ∧
  L' = [memI b (if holdsB bs.length a s && decide ((xs.length:Int)≤s) then over bs a.toNat xs else bs),i]:=by
 rintro w S ⟨S1,S2,⟨d,c,rest,hm,h2⟩,hS2,h3,h4⟩
 refine (put_cv hm a s (hi w S2 (sep_one.1 hS2)) hr).mono fun v w' ⟨e,hO,hm'⟩=>⟨_,⟨e,rfl⟩,?_⟩
 refine own_join (L2:=[memI b _]) hS2 h3 (Out.refl _ _) (fun k hk=>.inl ((h4 k).2 hk)) (S':=S1) (sep_one.2 ⟨d,c,rest,hm',h2⟩) (hO.mono fun k _ hk=>(h2 k).2 (.inr hk)) fun k hk=>.inl hk
def ptr (b:Nat):Value:=.pointer (some ⟨b,0,none⟩)
theorem refHolds_cv {w:World} {p:Option Addr} {b d c:Nat} {bs:List Int} {rest:List Value} (hm:MemAt w p b d c bs rest) (a s:Int) :
 CV P F.zzav [.pointer p,winV a s] w fun v w'=>v = .bool (holdsB bs.length a s)∧Below w.heap.size w w':=by
 refine zzjx ?_
 unfold zzav
 refine alc_i fun w1 hB1 h1 hs1=>?_
 have hb1:=(hB1 _ (Nat.le_refl _)).drew
 have hm1:=hm.ext (hB1 _ (Nat.le_refl _))
 obtain ⟨tb,rb⟩:=hm1.hb
 have hp:=hm.hp
 have hl:=hm.hl
 subst hp
 unfold JoinT
 refine ldI_i h1.drew rfl (cnd_i (fun h=>?_) fun h=>⟨?_,hb1⟩)
 · refine ldI_i h1.drew rfl (cnd_i (fun h'=>?_) fun h'=>⟨?_,hb1⟩)
   · refine ldI_i h1.drew rfl (ldL_i rb.drew rfl (cnd_i (fun h2=>?_) fun h2=>⟨?_,hb1⟩))
     · refine ldI_i h1.drew rfl (ldL_i rb.drew rfl (ldI_i h1.drew rfl ⟨?_,hb1⟩))
       have h:=of_decide_eq_true h
       have h':=of_decide_eq_true h'
       have h2:=of_decide_eq_true h2
       rw [W_id (by omega) (by omega)]
       simp [holdsB,show 0≤a by omega,show 0≤s by omega,h2]
     · have h2:=of_decide_eq_false h2
       have:holdsB bs.length a s = false:=by
        cases hh:holdsB bs.length a s
        · rfl
        · rw [holdsB_iff] at hh; omega
       rw [this]
   · have h':=of_decide_eq_false h'
     have:holdsB bs.length a s = false:=by
      cases hh:holdsB bs.length a s
      · rfl
      · rw [holdsB_iff] at hh; omega
     rw [this]
 · have h:=of_decide_eq_false h
   have:holdsB bs.length a s = false:=by
    cases hh:holdsB bs.length a s
    · rfl
    · rw [holdsB_iff] at hh; omega
   rw [this]
theorem refMay_plain (s o n:Int):Plain F.zzcE [.int .i64 s,.int .i64 o,.int .i64 n] (.int .i64 (mayE s o n)):=by
 intro w
 refine zzlR ?_
 unfold zzcE JoinT
 have hB:=Below.refl w.heap.size w
 have good:(n = 1∨n = 4∨n = 8)→zzgx s o n (fun v' w'=>v' = .int .i64 (mayE s o n)∧Below w.heap.size w w') false w:=by
  intro hn
  unfold zzgx
  refine cnd_i (fun h=>by cases h) fun _=>⟨by omega,?_⟩
  refine cnd_i (fun h=>⟨?_,hB⟩) fun h=>?_
  · have h:Int.tmod o n≠0:=by simpa using h
    rw [mayE,if_neg (by omega),if_pos h]
  have h:Int.tmod o n = 0:=by simpa using h
  unfold JoinT zzit
  refine cnd_i (fun h'=>cnd_i (fun _=>⟨?_,hB⟩) fun h=>by cases h) fun h'=>cnd_i (fun h2=>⟨?_,hB⟩) fun h2=>⟨?_,hB⟩
  · have h':=of_decide_eq_true h'
    rw [mayE,if_neg (by omega),if_neg (by omega),if_pos (by omega)]
  · have h2:=of_decide_eq_true h2
    rw [mayE,if_neg (by omega),if_neg (by omega),if_pos (by omega)]
  · have h':=of_decide_eq_false h'
    have h2:=of_decide_eq_false h2
    rw [mayE,if_neg (by omega),if_neg (by omega),if_neg (by omega)]
 refine cnd_i (fun h=>cnd_i (fun h'=>?_) fun h'=>?_) fun h=>?_
 · have h:n≠1:=by simpa using h
   have h':n≠4:=by simpa using h'
   cases h2:(n != 8)
   · exact good (by
                    have:n = 8:=by simpa using h2
                    omega)
   · have h2:n≠8:=by simpa using h2
     exact ⟨by rw [mayE,if_pos (by omega)],hB⟩
 · exact good (by
                  have:n = 4:=by simpa using h'
                  omega)
 · exact good (by
                  have:n = 1:=by simpa using h
                  omega)
theorem refHolds_t (b:Nat) (bs:List Int) (a s:Int):Tri P F.zzav [ptr b,winV a s] [memI b bs] fun v L'=>v = .bool (holdsB bs.length a s)∧L' = [memI b bs]:=tri_mem fun w d c rest hm=>refHolds_cv hm a s
theorem zzkh {w w0:World} {S0:Nat→Prop} {L F:List It} {b:Nat} {bs:List Int} (H:X.Own w0 S0 L w) (hp:Pick L (memI b bs) F):∃ (d c:Nat) (rest:List Value) (tb td:TypeId),
 X.Own w0 S0 (row b [.slice (some ⟨d,0,none⟩) bs.length c] tb :: row d (u8s bs ++ rest) td :: F) w∧c = bs.length + rest.length∧(∀ x∈bs,0≤x∧x < 256)∧bs.length≤131072:=by
 obtain ⟨S,h1,h2⟩:=H
 obtain ⟨S1,S2,⟨d,c,rest,hm,g⟩,g2,g3,g4⟩:=hp.iff.1 h1
 obtain ⟨tb,rb⟩:=hm.hb
 obtain ⟨td,rd⟩:=hm.hd
 refine ⟨d,c,rest,tb,td,⟨S,⟨fun k=>k = b,fun k=>k = d∨S2 k,⟨rb,fun _=>Iff.rfl⟩,⟨fun k=>k = d,S2,⟨rd,fun _=>Iff.rfl⟩,g2,?_,fun _=>Iff.rfl⟩,?_,?_⟩,h2⟩,hm.hc,hm.hr,hm.hl⟩
 · rintro k rfl; exact g3 k ((g k).2 (.inr rfl))
 · rintro k rfl (h | h)
   · exact hm.hne h
   · exact g3 k ((g k).2 (.inl rfl)) h
 · intro k; rw [g4,g,or_assoc]
theorem zzl3 {w w0:World} {S0:Nat→Prop} {F:List It} {b d c n:Nat} {bs:List Int} {rest:List Value} {tb td:TypeId} (H:X.Own w0 S0 (row b [.slice (some ⟨d,0,none⟩) n c] tb :: row d (u8s bs ++ rest) td :: F) w)
 (hn:n = bs.length) (hc:c = bs.length + rest.length) (hr:∀ x∈bs,0≤x∧x < 256) (hl:bs.length≤131072):X.Own w0 S0 (memI b bs :: F) w:=by
 subst hn
 obtain ⟨S,⟨S1,S2,⟨rb,e1⟩,⟨T1,T2,⟨rd,e2⟩,g2,g3,g4⟩,g5,g6⟩,h2⟩:=H
 refine ⟨S,⟨fun k=>k = b∨k = d,T2,⟨d,c,rest,⟨rfl,⟨_,rb⟩,⟨_,rd⟩,hc,?_,hr,hl⟩,fun _=>Iff.rfl⟩,g2,?_,?_⟩,h2⟩
 · rintro rfl; exact g5 b ((e1 b).2 rfl) ((g4 b).2 (.inl ((e2 b).2 rfl)))
 · rintro k (rfl | rfl) h
   · exact g5 k ((e1 k).2 rfl) ((g4 k).2 (.inr h))
   · exact g3 k ((e2 k).2 rfl) h
 · intro k; rw [g6,g4,e1,e2,or_assoc]
theorem refWrite_t (b:Nat) (bs:List Int) (a s o n v:Int) (hv:0≤v∧v < 2 ^ 64):Tri P F.zzbA [ptr b,winV a s,.int .i64 o,.int .i64 n,.int .u64 v] [memI b bs] fun r L'=>r = .int .i64 (errE bs.length a s o n)∧L' = [memI b (writeM bs a s o n v)]:=by
 intro w S hS
 refine zzjB ?_
 unfold zzbA
 have H:=Own.start hS
 refine alc_o H fun bx wx H=>?_
 repeat (first | refine lIa H ?_ | refine lLa H ?_ | refine lBa H ?_ | refine lPa H ?_ | refine lSa H ?_)
 refine call_pa H (refHolds_t b bs a s) fun wx H=>?_
 refine ⟨_,rfl,?_⟩
 cases hh:holdsB bs.length a s
 · have:errE bs.length a s o n = 42:=by simp [errE,hh]
   rw [writeM,this,if_neg (by omega)]
   exact cnd_i (fun _=>⟨_,⟨rfl,rfl⟩,H.dp⟩) (fun h=>by cases h)
 refine cnd_i (fun h=>by cases h) fun _=>?_
 repeat (first | refine lIa H ?_ | refine lLa H ?_ | refine lBa H ?_ | refine lPa H ?_ | refine lSa H ?_)
 refine call_pa H (tri_plain (refMay_plain s o n)) fun wx H=>?_
 have he:errE bs.length a s o n = mayE s o n:=by simp [errE,hh]
 refine ⟨_,rfl,cnd_i (fun h=>?_) fun h=>?_⟩
 · have h:mayE s o n≠0:=by simpa using h
   rw [writeM,he,if_neg h]
   exact ⟨_,⟨rfl,rfl⟩,H.dp⟩
 have h:mayE s o n = 0:=by simpa using h
 have hz:errE bs.length a s o n = 0:=by rw [he,h]
 obtain ⟨d,c,rest,tb,td,H,hc,hr,hl⟩:=zzkh H (b:=b) (bs:=bs) (by repeat (first | exact Pick.here | apply Pick.there))
 obtain ⟨a0,o0,hn,ht,hlen,_,_,_⟩:=errE_ok hz hl
 refine loop_o (fun (st:Int×Int) L=>∃ i:Nat,i≤n.toNat∧st.2 = i∧st.1 = v / 256 ^ i∧L = [row b [.slice (some ⟨d,0,none⟩) bs.length c] tb,row d (u8s (wr bs (a + o).toNat v i) ++ rest) td,row bx [.int .i64 a,.int .i64 s] _])
  (fun (st:Int×Int)=>(n - st.2).toNat) H ⟨0,by omega,rfl,by simp,rfl⟩ ?_
 rintro ⟨v',i'⟩ _ wx ⟨i,hi,hi',hv',rfl⟩ H
 simp only at hi' hv'
 subst hi' hv'
 unfold zzf9
 dsimp only
 refine cnd_i (fun h=>?_) fun h=>?_
 · have h:=of_decide_eq_true h
   refine drw_o H fun wx H=>?_
   repeat (first | refine lIa H ?_ | refine lLa H ?_ | refine lBa H ?_ | refine lPa H ?_ | refine lSa H ?_)
   rw [W_id (n:=a + o) (by omega) (by omega),W_id (n:=a + o + _) (by omega) (by omega)]
   refine ⟨by omega,⟨by omega,by omega⟩,?_⟩
   dsimp only [nn]
   have hk:(a + o + (i:Int)).toNat < (wr bs (a + o).toNat v i).length:=by rw [wr_length]; omega
   have e:(a + o + (i:Int)).toNat = (a + o).toNat + i:=by omega
   have hq:0≤v / 256 ^ i∧v / 256 ^ i≤v:=⟨Int.ediv_nonneg hv.1 (Int.le_of_lt (Int.pow_pos (by omega))),Int.ediv_le_self _ hv.1⟩
   have hb:IntKind.u8.wrap (Int.tmod (v / 256 ^ i) 256) = byteI v i:=by
    rw [Int.tmod_eq_emod_of_nonneg hq.1]
    have:=byteI_range v i
    unfold byteI at *
    simp [IntKind.wrap,IntKind.signed,IntKind.bits]
   rw [add_lit,Nat.mul_one,Nat.zero_add,hb]
   refine st1_o H (by repeat (first | exact Rep.here | apply Rep.there)) (by rw [List.length_append,u8s_length]; omega) fun wx H=>⟨by omega,⟨_,⟨i + 1,by omega,?_,?_,?_⟩,H⟩,?_⟩
   · rw [W_id (by omega) (by omega)]; rfl
   · show IntKind.u64.wrap _ = _
     rw [Int.tdiv_eq_ediv_of_nonneg hq.1,Int.pow_succ,← Int.ediv_ediv_of_nonneg (Int.le_of_lt (Int.pow_pos (by omega)))]
     have h1:0≤v / 256 ^ i / 256:=Int.ediv_nonneg hq.1 (by omega)
     have h2:v / 256 ^ i / 256≤v / 256 ^ i:=Int.ediv_le_self _ hq.1
     have:=hv.2
     simp [IntKind.wrap,IntKind.signed,IntKind.bits]; omega
   · rw [zzmO hk,e]; rfl
   · show (n - IntKind.i64.wrap ((i:Int) + 1)).toNat < (n - (i:Int)).toNat
     rw [W_id (by omega) (by omega)]; omega
 · have h:=of_decide_eq_false h
   have:i = n.toNat:=by omega
   subst this
   rw [hz,writeM,if_pos hz]
   exact ⟨_,⟨rfl,rfl⟩,(zzl3 H (by rw [wr_length]) (by rw [wr_length]; exact hc) (wr_range hr _ _ _) (by rw [wr_length]; exact hl)).dp⟩
def fairB (a s:Int):Bool:=decide (a≥0) && (decide (a≤1099511627776) && (decide (s≥0) && decide (s≤1099511627776)))
theorem fair_plain (a s:Int):Plain F.zziR [winV a s] (.bool (fairB a s)):=by
 intro w
 refine zzmH ?_
 refine alc_i fun w1 hB1 h1 hs1=>?_
 have hb1:=hB1 _ (Nat.le_refl _)
 unfold JoinT
 have no:∀ x,x = false→fairB a s = x→zzlT (fun v' w'=>v' = .bool (fairB a s)∧Below w.heap.size w w') x w1:=fun x hx h=>⟨by rw [h],hb1⟩
 refine ldI_i h1 rfl (cnd_i (fun ha=>?_) fun ha=>no _ rfl (by simp only [fairB,ha,Bool.false_and]))
 refine ldI_i h1 rfl (cnd_i (fun ha'=>?_) fun ha'=>no _ rfl (by simp only [fairB,ha',Bool.false_and,Bool.and_false]))
 refine ldI_i h1 rfl (cnd_i (fun hs=>?_) fun hs=>no _ rfl (by simp only [fairB,hs,Bool.false_and,Bool.and_false]))
 exact ldI_i h1 rfl ⟨by simp only [fairB,ha,ha',hs,Bool.true_and],hb1⟩
theorem fairB_iff {a s:Int}:fairB a s = true↔0≤a∧a≤1099511627776∧0≤s∧s≤1099511627776:=by simp [fairB]
def partW (a s x n:Int):Value:=if fairB a s && (decide (0≤x) && (decide (0≤n) && (decide (n≤s) && decide (x≤s - n)))) then .tuple [winV (a + x) n,.int .i64 0].toArray else .tuple [winV 0 0,.int .i64 42].toArray
theorem cond_false {a s x n:Int} (h:¬ (fairB a s = true∧0≤x∧0≤n∧n≤s∧x≤s - n)):partW a s x n = .tuple [winV 0 0,.int .i64 42].toArray:=by
 unfold partW; rw [if_neg]; simpa using h
theorem cond_true {a s x n:Int} (h:fairB a s = true∧0≤x∧0≤n∧n≤s∧x≤s - n):partW a s x n = .tuple [winV (a + x) n,.int .i64 0].toArray:=by
 unfold partW; rw [if_pos]; simpa using h
theorem Part_plain (a s x n:Int):Plain F.zzhF [winV a s,.int .i64 x,.int .i64 n] (partW a s x n):=by
 intro w
 refine zzmF ?_
 refine alc_i fun w1 hB1 h1 hs1=>alc_i fun w2 hB2 h2 hs2=>?_
 have h1:=h1.below (hB2 w1.heap.size (Nat.le_refl _)) (by omega)
 have hb2:=(hB1 _ (Nat.le_refl _)).trans (hB2 w.heap.size (by omega))
 unfold JoinT
 refine ldI_i h1 rfl (ldI_i h1 rfl ?_)
 refine (fair_plain a s w2).mono ?_
 rintro _ w3 ⟨rfl,hB3⟩
 have h1:=h1.ext hB3
 have h2:=h2.ext hB3
 have hb3:=hb2.trans (hB3.mono hb2.size)
 have no:¬ (fairB a s = true∧0≤x∧0≤n∧n≤s∧x≤s - n)→zzhO x n (fun v' w'=>v' = partW a s x n∧Below w.heap.size w w') w.heap.size w1.heap.size true w3:=by
  intro h
  unfold zzhO
  refine cnd_i (fun _=>?_) fun h=>by cases h
  refine st1_i h2 (by simp) fun w4 hB4 _ _ h4=>st1_i h4 (by simp) fun w5 hB5 _ _ h5=>?_
  have h5:Row w5 w1.heap.size [.int .i64 0,.int .i64 0] _:=h5
  exact ldI_i h5 rfl (ldI_i h5 rfl ⟨by rw [cond_false h]; rfl,(hb3.trans (hB4 _ (by omega))).trans (hB5 _ (by omega))⟩)
 refine ⟨_,rfl,cnd_i (fun h=>no (by simp only [Bool.not_eq_true'] at h; simp [h])) fun hf=>?_⟩
 simp only [Bool.not_eq_false'] at hf
 have hf':=fairB_iff.1 hf
 refine cnd_i (fun h=>no (by have h:=of_decide_eq_true h; omega)) fun hx=>cnd_i (fun h=>no (by have h:=of_decide_eq_true h; omega)) fun hn=>ldI_i h1 rfl (cnd_i (fun h=>no (by have h:=of_decide_eq_true h; omega)) fun hns=>ldI_i h1 rfl ?_)
 have hx:=of_decide_eq_false hx
 have hn:=of_decide_eq_false hn
 have hns:=of_decide_eq_false hns
 rw [W_id (n:=s - n) (by omega) (by omega)]
 cases hg:decide (x > s - n)
 · have hg:=of_decide_eq_false hg
   unfold zzhO
   refine cnd_i (fun h=>by cases h) fun _=>ldI_i h1 rfl ?_
   refine st1_i h2 (by simp) fun w4 hB4 _ _ h4=>st1_i h4 (by simp) fun w5 hB5 _ _ h5=>?_
   have h5:Row w5 w1.heap.size [.int .i64 (IntKind.i64.wrap (a + x)),.int .i64 n] _:=h5
   refine ldI_i h5 rfl (ldI_i h5 rfl ⟨?_,(hb3.trans (hB4 _ (by omega))).trans (hB5 _ (by omega))⟩)
   rw [cond_true ⟨hf,by omega,by omega,by omega,by omega⟩,W_id (by omega) (by omega)]; rfl
 · exact no (by have hg:=of_decide_eq_true hg; omega)
theorem and_low {v:Int} (h0:0≤v) (h1:v < 2 ^ 64) (m:Nat) (hm:m≤64):bitX .and .u64 v ((2 ^ m - 1:Nat):Int) = v % 2 ^ m:=by
 obtain ⟨x,rfl⟩:=Int.eq_ofNat_of_zero_le h0
 have hx:x < 2 ^ 64:=by omega
 have hle:2 ^ m≤2 ^ 64:=Nat.pow_le_pow_right (by omega) hm
 have hp:0 < 2 ^ m:=Nat.pow_pos (by omega)
 show IntKind.u64.wrap ((BitVec.ofInt 64 (x:Int) &&& BitVec.ofInt 64 ((2 ^ m - 1:Nat):Int)).toNat:Int) = _
 rw [BitVec.toNat_and,BitVec.ofInt_natCast,BitVec.ofInt_natCast,BitVec.toNat_ofNat,BitVec.toNat_ofNat,Nat.mod_eq_of_lt hx,Nat.mod_eq_of_lt (by omega),Nat.and_two_pow_sub_one_eq_mod]
 have hlt:x % 2 ^ m < 2 ^ m:=Nat.mod_lt _ hp
 have:IntKind.u64.wrap ((x % 2 ^ m:Nat):Int) = ((x % 2 ^ m:Nat):Int):=by
  generalize x % 2 ^ m = y at *
  simp [IntKind.wrap,IntKind.signed,IntKind.bits]
  omega
 rw [this]; push_cast; rfl
theorem insB_eq {a n:Int} {f:Nat} (hf:f < 64) (ha:0≤a∧a < 2 ^ f) (hn:0≤n) (h:n * 2 ^ f < 2 ^ 64):insB a n f = a + n * 2 ^ f:=by
 unfold insB
 have e2:min (Int.toNat (f:Int)) IntKind.u64.bits = f:=by simp [IntKind.bits]; omega
 rw [e2]
 obtain ⟨m,rfl⟩:=Int.eq_ofNat_of_zero_le ha.1
 obtain ⟨y,rfl⟩:=Int.eq_ofNat_of_zero_le hn
 have hm:m < 2 ^ f:=by have:=ha.2; exact_mod_cast this
 have hk:y * 2 ^ f < 2 ^ 64:=by exact_mod_cast h
 have hp:0 < 2 ^ f:=Nat.pow_pos (by omega)
 have hle:2 ^ f≤2 ^ 63:=Nat.pow_le_pow_right (by omega) (by omega)
 have hy:y < 2 ^ 64:=Nat.lt_of_le_of_lt (Nat.le_mul_of_pos_right y hp) hk
 have w1:IntKind.u64.wrap (y:Int) = y:=by simp [IntKind.wrap,IntKind.signed,IntKind.bits]; omega
 rw [w1]
 have hc:((y:Int) * 2 ^ f) = ((y * 2 ^ f:Nat):Int):=by push_cast; rfl
 rw [hc]
 have hor:(y * 2 ^ f) ||| m = y * 2 ^ f + m:=by
  rw [← Nat.shiftLeft_eq]; exact (Nat.shiftLeft_add_eq_or_of_lt hm y).symm
 generalize y * 2 ^ f = k at *
 have w2:IntKind.u64.wrap (k:Int) = k:=by simp [IntKind.wrap,IntKind.signed,IntKind.bits]; omega
 rw [w2]
 have hm64:m < 2 ^ 64:=by omega
 have hsum:k ||| m < 2 ^ 64:=Nat.or_lt_two_pow hk hm64
 have hb:(BitVec.ofInt 64 (m:Int) ||| BitVec.ofInt 64 (k:Int)).toNat = m + k:=by
  rw [BitVec.toNat_or,BitVec.ofInt_natCast,BitVec.ofInt_natCast,BitVec.toNat_ofNat,BitVec.toNat_ofNat,Nat.mod_eq_of_lt hm64,Nat.mod_eq_of_lt hk,Nat.or_comm,hor,Nat.add_comm]
 show IntKind.u64.wrap _ = _
 have hb':(BitVec.ofInt (IntKind.u64).bits (m:Int) ||| BitVec.ofInt (IntKind.u64).bits (k:Int)).toNat = m + k:=hb
 rw [hb']
 have w3:IntKind.u64.wrap ((m + k:Nat):Int) = (m + k:Nat):=by
  simp [IntKind.wrap,IntKind.signed,IntKind.bits]
  omega
 rw [w3]
 push_cast; rfl
theorem ext_eq {a:Int} {f s:Nat} (hf:f < 64) (hs:s≤62) (ha:0≤a∧a < 2 ^ 64):ext a f s = a / 2 ^ f % 2 ^ s:=by
 unfold ext
 have e1:min (Int.toNat (f:Int)) IntKind.u64.bits = f:=by simp [IntKind.bits]; omega
 have e2:min (Int.toNat (s:Int)) IntKind.u64.bits = s:=by simp [IntKind.bits]; omega
 rw [e1,e2]
 have hp:(0:Int) < 2 ^ f:=Int.pow_pos (by omega)
 have hle:(2:Nat) ^ s≤2 ^ 62:=Nat.pow_le_pow_right (by omega) hs
 have hps:0 < (2:Nat) ^ s:=Nat.pow_pos (by omega)
 have e3:IntKind.u64.wrap (IntKind.u64.wrap (1 * 2 ^ s) - 1) = ((2 ^ s - 1:Nat):Int):=by
  have:(1 * 2 ^ s:Int) = ((2 ^ s:Nat):Int):=by push_cast; omega
  rw [this]
  generalize (2:Nat) ^ s = y at *
  simp [IntKind.wrap,IntKind.signed,IntKind.bits]
  omega
 rw [e3,Int.fdiv_eq_ediv_of_nonneg _ (by omega)]
 have hd0:0≤a / 2 ^ f:=Int.ediv_nonneg ha.1 (by omega)
 have hd1:a / 2 ^ f < 2 ^ 64:=Int.lt_of_le_of_lt (Int.ediv_le_self _ ha.1) ha.2
 rw [and_low hd0 hd1 s (by omega)]
 have hq:(2:Int) ^ s = ((2 ^ s:Nat):Int):=by push_cast; rfl
 rw [hq]
 generalize (2:Nat) ^ s = y at *
 generalize a / 2 ^ f = z at *
 have h1:=Int.emod_nonneg z (b:=(y:Int)) (by omega)
 have h2:=Int.emod_lt_of_pos z (b:=(y:Int)) (by omega)
 rw [W_id (by omega) (by omega)]
theorem and_i64 {a:Int} (h0:0≤a) (h1:a < 2 ^ 63):bitX .and .i64 a 255 = a % 256:=by
 obtain ⟨x,rfl⟩:=Int.eq_ofNat_of_zero_le h0
 have hx:x < 2 ^ 63:=by omega
 show IntKind.i64.wrap ((BitVec.ofInt 64 (x:Int) &&& BitVec.ofInt 64 ((255:Nat):Int)).toNat:Int) = _
 rw [BitVec.toNat_and,BitVec.ofInt_natCast,BitVec.ofInt_natCast,BitVec.toNat_ofNat,BitVec.toNat_ofNat,Nat.mod_eq_of_lt (by omega),Nat.mod_eq_of_lt (by omega),show (255:Nat) = 2 ^ 8 - 1 from rfl,Nat.and_two_pow_sub_one_eq_mod]
 rw [W_id (by omega) (by omega)]; push_cast; rfl
def wS (c:Cm):List Int:=[c.op + c.dev * 4294967296,c.ev + (if c.op = 14 then 0 else c.num) * 4294967296 + c.bits,c.coll + c.tgt * 65536 + c.addr / 256 * 256 + (if c.val = true then 1 else 0) * 9223372036854775808,(if c.op = 14 then c.num else 0) * 65536]
def stD (ws:List Int) (k:Nat) (c:Cm):Cm:=if ph c.op k then c.put (ext (ws.getD (pw c.op k) 0) (pf c.op k) (ps c.op k)) k else c
theorem cd_eight (ws:List Int):cd ws 8 = stD ws 7 (stD ws 6 (stD ws 5 (stD ws 4 (stD ws 3 (stD ws 2 (stD ws 1 (stD ws 0 (cd ws 0)))))))):=rfl
theorem l4 {a b c d a' b' c' d':Int} (h1:a = a') (h2:b = b') (h3:c = c') (h4:d = d'):[a,b,c,d] = [a',b',c',d']:=by rw [h1,h2,h3,h4]
theorem cd_zero (a b c d:Int):cd [a,b,c,d] 0 = ⟨IntKind.i64.wrap (bitX .and .u64 a 255),0,0,0,0,0,0,0,false⟩:=rfl
theorem low8 {a:Int} (h0:0≤a) (h1:a < 2 ^ 64):IntKind.i64.wrap (bitX .and .u64 a 255) = a % 256:=by
 have h:bitX .and .u64 a 255 = a % 2 ^ 8:=and_low h0 h1 8 (by omega)
 rw [h,W_id (by omega) (by omega)]; rfl
def Fld (c:Cm):Prop:=∀ k,k < 8→0≤c.get k∧c.get k < 2 ^ ps c.op k∧(ph c.op k = false→c.get k = 0)
theorem ps_le (op:Int) (k:Nat):ps op k≤40:=by unfold ps; split <;> (try split) <;> omega
theorem fld_of {c:Cm} (h:(List.range 8).any (badB c) = false):Fld c:=by
 intro k hk
 have hb:badB c k = false:=by
  cases e:badB c k with
  | false=>rfl
  | true=>rw [List.any_eq_true.2 ⟨k,List.mem_range.2 hk,e⟩] at h; cases h
 unfold badB at hb
 have e2:min (Int.toNat ((ps c.op k:Nat):Int)) IntKind.i64.bits = ps c.op k:=by have:=ps_le c.op k; simp [IntKind.bits]; omega
 have hle:(2:Nat) ^ ps c.op k≤2 ^ 40:=Nat.pow_le_pow_right (by omega) (ps_le _ _)
 have e3:IntKind.i64.wrap (1 * 2 ^ ps c.op k) = 2 ^ ps c.op k:=by
  have:(1 * 2 ^ ps c.op k:Int) = ((2 ^ ps c.op k:Nat):Int):=by push_cast; omega
  rw [this]
  have h2:(2:Int) ^ ps c.op k = ((2 ^ ps c.op k:Nat):Int):=by push_cast; rfl
  rw [h2]
  generalize (2:Nat) ^ ps c.op k = y at *
  exact W_id (by omega) (by omega)
 rw [e2,e3] at hb
 simp only [Bool.or_eq_false_iff,decide_eq_false_iff_not,Bool.and_eq_false_iff] at hb
 refine ⟨by omega,by omega,fun hh=>?_⟩
 rcases hb.1 with h1 | h1
 · rw [hh] at h1; cases h1
 · simpa using h1
theorem rt_1 (dev ev num coll tgt bits addr:Int) (val:Bool) (hA:addr % 256 = 0) (f:Fld ⟨1,dev,ev,num,coll,tgt,bits,addr,val⟩) :
 wd ⟨1,dev,ev,num,coll,tgt,bits,addr,val⟩ 8 = wS ⟨1,dev,ev,num,coll,tgt,bits,addr,val⟩∧cd (wS ⟨1,dev,ev,num,coll,tgt,bits,addr,val⟩) 8 = ⟨1,dev,ev,num,coll,tgt,bits,addr,val⟩:=by
 have f0:0≤dev∧dev < 2 ^ 32:=⟨(f 0 (by omega)).1,(f 0 (by omega)).2.1⟩
 have f1:0≤ev∧ev < 2 ^ 32:=⟨(f 1 (by omega)).1,(f 1 (by omega)).2.1⟩
 have f2:num = 0:=(f 2 (by omega)).2.2 (by simp [ph])
 have f3:0≤coll∧coll < 2 ^ 16:=⟨(f 3 (by omega)).1,(f 3 (by omega)).2.1⟩
 have f4:tgt = 0:=(f 4 (by omega)).2.2 (by simp [ph])
 have f5:bits = 0:=(f 5 (by omega)).2.2 (by simp [ph])
 have f6:(addr / 256) = 0:=(f 6 (by omega)).2.2 (by simp [ph])
 have f7:val = false:=by have h:=(f 7 (by omega)).2.2 (by simp [ph]); cases val <;> first | rfl | cases h
 subst f7
 have e:wd ⟨1,dev,ev,num,coll,tgt,bits,addr,false⟩ 8 = wS ⟨1,dev,ev,num,coll,tgt,bits,addr,false⟩:=by
  show [insB (1) dev 32,insB (0) ev 0,insB (0) coll 0,0] = _
  rw [insB_eq (a:=1) (n:=dev) (f:=32) (by omega) (by omega) (by omega) (by omega),insB_eq (a:=0) (n:=ev) (f:=0) (by omega) (by omega) (by omega) (by omega),insB_eq (a:=0) (n:=coll) (f:=0) (by omega) (by omega) (by omega) (by omega)]
  unfold wS
  dsimp only
  simp only [show ¬ ((1:Int) = 14) by decide,if_false,Bool.false_eq_true,if_true]
  exact l4 (by omega) (by omega) (by omega) (by omega)
 refine ⟨e,?_⟩
 unfold wS
 dsimp only
 simp only [show ¬ ((1:Int) = 14) by decide,if_false,Bool.false_eq_true,if_true]
 have h0:cd [1 + dev * 4294967296,ev + num * 4294967296 + bits,coll + tgt * 65536 + addr / 256 * 256 + 0 * 9223372036854775808,0 * 65536] 0 = ⟨1,0,0,0,0,0,0,0,false⟩:=by
  rw [cd_zero,low8 (by omega) (by omega),show (1 + dev * 4294967296) % 256 = 1 by omega]
 have hd:∀ W0 W1 W2 W3:Int,cd [W0,W1,W2,W3] 0 = ⟨1,0,0,0,0,0,0,0,false⟩→cd [W0,W1,W2,W3] 8 = ⟨1,ext W0 32 32,ext W1 0 32,0,ext W2 0 16,0,0,0,false⟩:=by
  intro W0 W1 W2 W3 h
  rw [cd_eight,h]
  simp [stD,ph,pw,pf,ps,Cm.put]
 rw [hd _ _ _ _ h0]
 have x0:ext (1 + dev * 4294967296) 32 32 = dev:=by rw [ext_eq (by omega) (by omega) (by omega)]; omega
 have x1:ext (ev + num * 4294967296 + bits) 0 32 = ev:=by rw [ext_eq (by omega) (by omega) (by omega)]; omega
 have x3:ext (coll + tgt * 65536 + addr / 256 * 256 + 0 * 9223372036854775808) 0 16 = coll:=by rw [ext_eq (by omega) (by omega) (by omega)]; omega
 rw [x0,x1,x3]
 subst f2
 subst f4
 subst f5
 obtain rfl:addr = 0:=by omega
 try rfl
theorem rt_3 (dev ev num coll tgt bits addr:Int) (val:Bool) (hA:addr % 256 = 0) (f:Fld ⟨3,dev,ev,num,coll,tgt,bits,addr,val⟩) :
 wd ⟨3,dev,ev,num,coll,tgt,bits,addr,val⟩ 8 = wS ⟨3,dev,ev,num,coll,tgt,bits,addr,val⟩∧cd (wS ⟨3,dev,ev,num,coll,tgt,bits,addr,val⟩) 8 = ⟨3,dev,ev,num,coll,tgt,bits,addr,val⟩:=by
 have f0:0≤dev∧dev < 2 ^ 32:=⟨(f 0 (by omega)).1,(f 0 (by omega)).2.1⟩
 have f1:0≤ev∧ev < 2 ^ 32:=⟨(f 1 (by omega)).1,(f 1 (by omega)).2.1⟩
 have f2:num = 0:=(f 2 (by omega)).2.2 (by simp [ph])
 have f3:coll = 0:=(f 3 (by omega)).2.2 (by simp [ph])
 have f4:tgt = 0:=(f 4 (by omega)).2.2 (by simp [ph])
 have f5:bits = 0:=(f 5 (by omega)).2.2 (by simp [ph])
 have f6:(addr / 256) = 0:=(f 6 (by omega)).2.2 (by simp [ph])
 have f7:val = false:=by have h:=(f 7 (by omega)).2.2 (by simp [ph]); cases val <;> first | rfl | cases h
 subst f7
 have e:wd ⟨3,dev,ev,num,coll,tgt,bits,addr,false⟩ 8 = wS ⟨3,dev,ev,num,coll,tgt,bits,addr,false⟩:=by
  show [insB (3) dev 32,insB (0) ev 0,0,0] = _
  rw [insB_eq (a:=3) (n:=dev) (f:=32) (by omega) (by omega) (by omega) (by omega),insB_eq (a:=0) (n:=ev) (f:=0) (by omega) (by omega) (by omega) (by omega)]
  unfold wS
  dsimp only
  simp only [show ¬ ((3:Int) = 14) by decide,if_false,Bool.false_eq_true,if_true]
  exact l4 (by omega) (by omega) (by omega) (by omega)
 refine ⟨e,?_⟩
 unfold wS
 dsimp only
 simp only [show ¬ ((3:Int) = 14) by decide,if_false,Bool.false_eq_true,if_true]
 have h0:cd [3 + dev * 4294967296,ev + num * 4294967296 + bits,coll + tgt * 65536 + addr / 256 * 256 + 0 * 9223372036854775808,0 * 65536] 0 = ⟨3,0,0,0,0,0,0,0,false⟩:=by
  rw [cd_zero,low8 (by omega) (by omega),show (3 + dev * 4294967296) % 256 = 3 by omega]
 have hd:∀ W0 W1 W2 W3:Int,cd [W0,W1,W2,W3] 0 = ⟨3,0,0,0,0,0,0,0,false⟩→cd [W0,W1,W2,W3] 8 = ⟨3,ext W0 32 32,ext W1 0 32,0,0,0,0,0,false⟩:=by
  intro W0 W1 W2 W3 h
  rw [cd_eight,h]
  simp [stD,ph,pw,pf,ps,Cm.put]
 rw [hd _ _ _ _ h0]
 have x0:ext (3 + dev * 4294967296) 32 32 = dev:=by rw [ext_eq (by omega) (by omega) (by omega)]; omega
 have x1:ext (ev + num * 4294967296 + bits) 0 32 = ev:=by rw [ext_eq (by omega) (by omega) (by omega)]; omega
 rw [x0,x1]
 subst f2
 subst f3
 subst f4
 subst f5
 obtain rfl:addr = 0:=by omega
 try rfl
theorem rt_4 (dev ev num coll tgt bits addr:Int) (val:Bool) (hA:addr % 256 = 0) (f:Fld ⟨4,dev,ev,num,coll,tgt,bits,addr,val⟩) :
 wd ⟨4,dev,ev,num,coll,tgt,bits,addr,val⟩ 8 = wS ⟨4,dev,ev,num,coll,tgt,bits,addr,val⟩∧cd (wS ⟨4,dev,ev,num,coll,tgt,bits,addr,val⟩) 8 = ⟨4,dev,ev,num,coll,tgt,bits,addr,val⟩:=by
 have f0:0≤dev∧dev < 2 ^ 32:=⟨(f 0 (by omega)).1,(f 0 (by omega)).2.1⟩
 have f1:0≤ev∧ev < 2 ^ 32:=⟨(f 1 (by omega)).1,(f 1 (by omega)).2.1⟩
 have f2:num = 0:=(f 2 (by omega)).2.2 (by simp [ph])
 have f3:coll = 0:=(f 3 (by omega)).2.2 (by simp [ph])
 have f4:tgt = 0:=(f 4 (by omega)).2.2 (by simp [ph])
 have f5:bits = 0:=(f 5 (by omega)).2.2 (by simp [ph])
 have f6:(addr / 256) = 0:=(f 6 (by omega)).2.2 (by simp [ph])
 have f7:val = false:=by have h:=(f 7 (by omega)).2.2 (by simp [ph]); cases val <;> first | rfl | cases h
 subst f7
 have e:wd ⟨4,dev,ev,num,coll,tgt,bits,addr,false⟩ 8 = wS ⟨4,dev,ev,num,coll,tgt,bits,addr,false⟩:=by
  show [insB (4) dev 32,insB (0) ev 0,0,0] = _
  rw [insB_eq (a:=4) (n:=dev) (f:=32) (by omega) (by omega) (by omega) (by omega),insB_eq (a:=0) (n:=ev) (f:=0) (by omega) (by omega) (by omega) (by omega)]
  unfold wS
  dsimp only
  simp only [show ¬ ((4:Int) = 14) by decide,if_false,Bool.false_eq_true,if_true]
  exact l4 (by omega) (by omega) (by omega) (by omega)
 refine ⟨e,?_⟩
 unfold wS
 dsimp only
 simp only [show ¬ ((4:Int) = 14) by decide,if_false,Bool.false_eq_true,if_true]
 have h0:cd [4 + dev * 4294967296,ev + num * 4294967296 + bits,coll + tgt * 65536 + addr / 256 * 256 + 0 * 9223372036854775808,0 * 65536] 0 = ⟨4,0,0,0,0,0,0,0,false⟩:=by
  rw [cd_zero,low8 (by omega) (by omega),show (4 + dev * 4294967296) % 256 = 4 by omega]
 have hd:∀ W0 W1 W2 W3:Int,cd [W0,W1,W2,W3] 0 = ⟨4,0,0,0,0,0,0,0,false⟩→cd [W0,W1,W2,W3] 8 = ⟨4,ext W0 32 32,ext W1 0 32,0,0,0,0,0,false⟩:=by
  intro W0 W1 W2 W3 h
  rw [cd_eight,h]
  simp [stD,ph,pw,pf,ps,Cm.put]
 rw [hd _ _ _ _ h0]
 have x0:ext (4 + dev * 4294967296) 32 32 = dev:=by rw [ext_eq (by omega) (by omega) (by omega)]; omega
 have x1:ext (ev + num * 4294967296 + bits) 0 32 = ev:=by rw [ext_eq (by omega) (by omega) (by omega)]; omega
 rw [x0,x1]
 subst f2
 subst f3
 subst f4
 subst f5
 obtain rfl:addr = 0:=by omega
 try rfl
theorem rt_5 (dev ev num coll tgt bits addr:Int) (val:Bool) (hA:addr % 256 = 0) (f:Fld ⟨5,dev,ev,num,coll,tgt,bits,addr,val⟩) :
 wd ⟨5,dev,ev,num,coll,tgt,bits,addr,val⟩ 8 = wS ⟨5,dev,ev,num,coll,tgt,bits,addr,val⟩∧cd (wS ⟨5,dev,ev,num,coll,tgt,bits,addr,val⟩) 8 = ⟨5,dev,ev,num,coll,tgt,bits,addr,val⟩:=by
 have f0:dev = 0:=(f 0 (by omega)).2.2 (by simp [ph])
 have f1:ev = 0:=(f 1 (by omega)).2.2 (by simp [ph])
 have f2:num = 0:=(f 2 (by omega)).2.2 (by simp [ph])
 have f3:coll = 0:=(f 3 (by omega)).2.2 (by simp [ph])
 have f4:0≤tgt∧tgt < 2 ^ 16:=⟨(f 4 (by omega)).1,(f 4 (by omega)).2.1⟩
 have f5:bits = 0:=(f 5 (by omega)).2.2 (by simp [ph])
 have f6:(addr / 256) = 0:=(f 6 (by omega)).2.2 (by simp [ph])
 have f7:val = false:=by have h:=(f 7 (by omega)).2.2 (by simp [ph]); cases val <;> first | rfl | cases h
 subst f7
 have e:wd ⟨5,dev,ev,num,coll,tgt,bits,addr,false⟩ 8 = wS ⟨5,dev,ev,num,coll,tgt,bits,addr,false⟩:=by
  show [5,0,insB (0) tgt 16,0] = _
  rw [insB_eq (a:=0) (n:=tgt) (f:=16) (by omega) (by omega) (by omega) (by omega)]
  unfold wS
  dsimp only
  simp only [show ¬ ((5:Int) = 14) by decide,if_false,Bool.false_eq_true,if_true]
  exact l4 (by omega) (by omega) (by omega) (by omega)
 refine ⟨e,?_⟩
 unfold wS
 dsimp only
 simp only [show ¬ ((5:Int) = 14) by decide,if_false,Bool.false_eq_true,if_true]
 have h0:cd [5 + dev * 4294967296,ev + num * 4294967296 + bits,coll + tgt * 65536 + addr / 256 * 256 + 0 * 9223372036854775808,0 * 65536] 0 = ⟨5,0,0,0,0,0,0,0,false⟩:=by
  rw [cd_zero,low8 (by omega) (by omega),show (5 + dev * 4294967296) % 256 = 5 by omega]
 have hd:∀ W0 W1 W2 W3:Int,cd [W0,W1,W2,W3] 0 = ⟨5,0,0,0,0,0,0,0,false⟩→cd [W0,W1,W2,W3] 8 = ⟨5,0,0,0,0,ext W2 16 16,0,0,false⟩:=by
  intro W0 W1 W2 W3 h
  rw [cd_eight,h]
  simp [stD,ph,pw,pf,ps,Cm.put]
 rw [hd _ _ _ _ h0]
 have x4:ext (coll + tgt * 65536 + addr / 256 * 256 + 0 * 9223372036854775808) 16 16 = tgt:=by rw [ext_eq (by omega) (by omega) (by omega)]; omega
 rw [x4]
 subst f0
 subst f1
 subst f2
 subst f3
 subst f5
 obtain rfl:addr = 0:=by omega
 try rfl
theorem rt_8 (dev ev num coll tgt bits addr:Int) (val:Bool) (hA:addr % 256 = 0) (f:Fld ⟨8,dev,ev,num,coll,tgt,bits,addr,val⟩) :
 wd ⟨8,dev,ev,num,coll,tgt,bits,addr,val⟩ 8 = wS ⟨8,dev,ev,num,coll,tgt,bits,addr,val⟩∧cd (wS ⟨8,dev,ev,num,coll,tgt,bits,addr,val⟩) 8 = ⟨8,dev,ev,num,coll,tgt,bits,addr,val⟩:=by
 have f0:0≤dev∧dev < 2 ^ 32:=⟨(f 0 (by omega)).1,(f 0 (by omega)).2.1⟩
 have f1:ev = 0:=(f 1 (by omega)).2.2 (by simp [ph])
 have f2:num = 0:=(f 2 (by omega)).2.2 (by simp [ph])
 have f3:coll = 0:=(f 3 (by omega)).2.2 (by simp [ph])
 have f4:tgt = 0:=(f 4 (by omega)).2.2 (by simp [ph])
 have f5:0≤bits∧bits < 2 ^ 5:=⟨(f 5 (by omega)).1,(f 5 (by omega)).2.1⟩
 have f6:0≤(addr / 256)∧(addr / 256) < 2 ^ 40:=⟨(f 6 (by omega)).1,(f 6 (by omega)).2.1⟩
 have f7:True:=trivial
 have hv:(0:Int)≤(if val = true then 1 else 0)∧(if val = true then (1:Int) else 0)≤1:=by cases val <;> decide
 have e:wd ⟨8,dev,ev,num,coll,tgt,bits,addr,val⟩ 8 = wS ⟨8,dev,ev,num,coll,tgt,bits,addr,val⟩:=by
  show [insB (8) dev 32,insB (0) bits 0,insB (insB (0) (addr / 256) 8) (if val = true then 1 else 0) 63,0] = _
  rw [insB_eq (a:=8) (n:=dev) (f:=32) (by omega) (by omega) (by omega) (by omega),insB_eq (a:=0) (n:=bits) (f:=0) (by omega) (by omega) (by omega) (by omega),insB_eq (a:=0) (n:=(addr / 256)) (f:=8) (by omega) (by omega) (by omega) (by omega),insB_eq (a:=0 + (addr / 256) * 2 ^ 8) (n:=(if val = true then 1 else 0)) (f:=63) (by omega) (by omega) (by omega) (by omega)]
  unfold wS
  dsimp only
  simp only [show ¬ ((8:Int) = 14) by decide,if_false,Bool.false_eq_true,if_true]
  exact l4 (by omega) (by omega) (by omega) (by omega)
 refine ⟨e,?_⟩
 unfold wS
 dsimp only
 simp only [show ¬ ((8:Int) = 14) by decide,if_false,Bool.false_eq_true,if_true]
 have h0:cd [8 + dev * 4294967296,ev + num * 4294967296 + bits,coll + tgt * 65536 + addr / 256 * 256 + (if val = true then 1 else 0) * 9223372036854775808,0 * 65536] 0 = ⟨8,0,0,0,0,0,0,0,false⟩:=by
  rw [cd_zero,low8 (by omega) (by omega),show (8 + dev * 4294967296) % 256 = 8 by omega]
 have hd:∀ W0 W1 W2 W3:Int,cd [W0,W1,W2,W3] 0 = ⟨8,0,0,0,0,0,0,0,false⟩→cd [W0,W1,W2,W3] 8 = ⟨8,ext W0 32 32,0,0,0,0,ext W1 0 5,IntKind.i64.wrap (ext W2 8 40 * 256),(ext W2 63 1 == 1)⟩:=by
  intro W0 W1 W2 W3 h
  rw [cd_eight,h]
  simp [stD,ph,pw,pf,ps,Cm.put]
 rw [hd _ _ _ _ h0]
 have x0:ext (8 + dev * 4294967296) 32 32 = dev:=by rw [ext_eq (by omega) (by omega) (by omega)]; omega
 have x5:ext (ev + num * 4294967296 + bits) 0 5 = bits:=by rw [ext_eq (by omega) (by omega) (by omega)]; omega
 have x6:ext (coll + tgt * 65536 + addr / 256 * 256 + (if val = true then 1 else 0) * 9223372036854775808) 8 40 = (addr / 256):=by rw [ext_eq (by omega) (by omega) (by omega)]; omega
 have x7:ext (coll + tgt * 65536 + addr / 256 * 256 + (if val = true then 1 else 0) * 9223372036854775808) 63 1 = (if val = true then 1 else 0):=by rw [ext_eq (by omega) (by omega) (by omega)]; omega
 rw [x0,x5,x6,x7]
 rw [W_id (by omega) (by omega),show addr / 256 * 256 = addr by omega]
 subst f1
 subst f2
 subst f3
 subst f4
 cases val <;> rfl
theorem rt_9 (dev ev num coll tgt bits addr:Int) (val:Bool) (hA:addr % 256 = 0) (f:Fld ⟨9,dev,ev,num,coll,tgt,bits,addr,val⟩) :
 wd ⟨9,dev,ev,num,coll,tgt,bits,addr,val⟩ 8 = wS ⟨9,dev,ev,num,coll,tgt,bits,addr,val⟩∧cd (wS ⟨9,dev,ev,num,coll,tgt,bits,addr,val⟩) 8 = ⟨9,dev,ev,num,coll,tgt,bits,addr,val⟩:=by
 have f0:dev = 0:=(f 0 (by omega)).2.2 (by simp [ph])
 have f1:ev = 0:=(f 1 (by omega)).2.2 (by simp [ph])
 have f2:num = 0:=(f 2 (by omega)).2.2 (by simp [ph])
 have f3:0≤coll∧coll < 2 ^ 16:=⟨(f 3 (by omega)).1,(f 3 (by omega)).2.1⟩
 have f4:0≤tgt∧tgt < 2 ^ 16:=⟨(f 4 (by omega)).1,(f 4 (by omega)).2.1⟩
 have f5:bits = 0:=(f 5 (by omega)).2.2 (by simp [ph])
 have f6:(addr / 256) = 0:=(f 6 (by omega)).2.2 (by simp [ph])
 have f7:True:=trivial
 have hv:(0:Int)≤(if val = true then 1 else 0)∧(if val = true then (1:Int) else 0)≤1:=by cases val <;> decide
 have e:wd ⟨9,dev,ev,num,coll,tgt,bits,addr,val⟩ 8 = wS ⟨9,dev,ev,num,coll,tgt,bits,addr,val⟩:=by
  show [9,0,insB (insB (insB (0) coll 0) tgt 16) (if val = true then 1 else 0) 63,0] = _
  rw [insB_eq (a:=0) (n:=coll) (f:=0) (by omega) (by omega) (by omega) (by omega),insB_eq (a:=0 + coll * 2 ^ 0) (n:=tgt) (f:=16) (by omega) (by omega) (by omega) (by omega),insB_eq (a:=0 + coll * 2 ^ 0 + tgt * 2 ^ 16) (n:=(if val = true then 1 else 0)) (f:=63) (by omega) (by omega) (by omega) (by omega)]
  unfold wS
  dsimp only
  simp only [show ¬ ((9:Int) = 14) by decide,if_false,Bool.false_eq_true,if_true]
  exact l4 (by omega) (by omega) (by omega) (by omega)
 refine ⟨e,?_⟩
 unfold wS
 dsimp only
 simp only [show ¬ ((9:Int) = 14) by decide,if_false,Bool.false_eq_true,if_true]
 have h0:cd [9 + dev * 4294967296,ev + num * 4294967296 + bits,coll + tgt * 65536 + addr / 256 * 256 + (if val = true then 1 else 0) * 9223372036854775808,0 * 65536] 0 = ⟨9,0,0,0,0,0,0,0,false⟩:=by
  rw [cd_zero,low8 (by omega) (by omega),show (9 + dev * 4294967296) % 256 = 9 by omega]
 have hd:∀ W0 W1 W2 W3:Int,cd [W0,W1,W2,W3] 0 = ⟨9,0,0,0,0,0,0,0,false⟩→cd [W0,W1,W2,W3] 8 = ⟨9,0,0,0,ext W2 0 16,ext W2 16 16,0,0,(ext W2 63 1 == 1)⟩:=by
  intro W0 W1 W2 W3 h
  rw [cd_eight,h]
  simp [stD,ph,pw,pf,ps,Cm.put]
 rw [hd _ _ _ _ h0]
 have x3:ext (coll + tgt * 65536 + addr / 256 * 256 + (if val = true then 1 else 0) * 9223372036854775808) 0 16 = coll:=by rw [ext_eq (by omega) (by omega) (by omega)]; omega
 have x4:ext (coll + tgt * 65536 + addr / 256 * 256 + (if val = true then 1 else 0) * 9223372036854775808) 16 16 = tgt:=by rw [ext_eq (by omega) (by omega) (by omega)]; omega
 have x7:ext (coll + tgt * 65536 + addr / 256 * 256 + (if val = true then 1 else 0) * 9223372036854775808) 63 1 = (if val = true then 1 else 0):=by rw [ext_eq (by omega) (by omega) (by omega)]; omega
 rw [x3,x4,x7]
 subst f0
 subst f1
 subst f2
 subst f5
 obtain rfl:addr = 0:=by omega
 cases val <;> rfl
theorem rt_10 (dev ev num coll tgt bits addr:Int) (val:Bool) (hA:addr % 256 = 0) (f:Fld ⟨10,dev,ev,num,coll,tgt,bits,addr,val⟩) :
 wd ⟨10,dev,ev,num,coll,tgt,bits,addr,val⟩ 8 = wS ⟨10,dev,ev,num,coll,tgt,bits,addr,val⟩∧cd (wS ⟨10,dev,ev,num,coll,tgt,bits,addr,val⟩) 8 = ⟨10,dev,ev,num,coll,tgt,bits,addr,val⟩:=by
 have f0:0≤dev∧dev < 2 ^ 32:=⟨(f 0 (by omega)).1,(f 0 (by omega)).2.1⟩
 have f1:0≤ev∧ev < 2 ^ 32:=⟨(f 1 (by omega)).1,(f 1 (by omega)).2.1⟩
 have f2:0≤num∧num < 2 ^ 32:=⟨(f 2 (by omega)).1,(f 2 (by omega)).2.1⟩
 have f3:0≤coll∧coll < 2 ^ 16:=⟨(f 3 (by omega)).1,(f 3 (by omega)).2.1⟩
 have f4:tgt = 0:=(f 4 (by omega)).2.2 (by simp [ph])
 have f5:bits = 0:=(f 5 (by omega)).2.2 (by simp [ph])
 have f6:(addr / 256) = 0:=(f 6 (by omega)).2.2 (by simp [ph])
 have f7:val = false:=by have h:=(f 7 (by omega)).2.2 (by simp [ph]); cases val <;> first | rfl | cases h
 subst f7
 have e:wd ⟨10,dev,ev,num,coll,tgt,bits,addr,false⟩ 8 = wS ⟨10,dev,ev,num,coll,tgt,bits,addr,false⟩:=by
  show [insB (10) dev 32,insB (insB (0) ev 0) num 32,insB (0) coll 0,0] = _
  rw [insB_eq (a:=10) (n:=dev) (f:=32) (by omega) (by omega) (by omega) (by omega),insB_eq (a:=0) (n:=ev) (f:=0) (by omega) (by omega) (by omega) (by omega),insB_eq (a:=0 + ev * 2 ^ 0) (n:=num) (f:=32) (by omega) (by omega) (by omega) (by omega),insB_eq (a:=0) (n:=coll) (f:=0) (by omega) (by omega) (by omega) (by omega)]
  unfold wS
  dsimp only
  simp only [show ¬ ((10:Int) = 14) by decide,if_false,Bool.false_eq_true,if_true]
  exact l4 (by omega) (by omega) (by omega) (by omega)
 refine ⟨e,?_⟩
 unfold wS
 dsimp only
 simp only [show ¬ ((10:Int) = 14) by decide,if_false,Bool.false_eq_true,if_true]
 have h0:cd [10 + dev * 4294967296,ev + num * 4294967296 + bits,coll + tgt * 65536 + addr / 256 * 256 + 0 * 9223372036854775808,0 * 65536] 0 = ⟨10,0,0,0,0,0,0,0,false⟩:=by
  rw [cd_zero,low8 (by omega) (by omega),show (10 + dev * 4294967296) % 256 = 10 by omega]
 have hd:∀ W0 W1 W2 W3:Int,cd [W0,W1,W2,W3] 0 = ⟨10,0,0,0,0,0,0,0,false⟩→cd [W0,W1,W2,W3] 8 = ⟨10,ext W0 32 32,ext W1 0 32,ext W1 32 32,ext W2 0 16,0,0,0,false⟩:=by
  intro W0 W1 W2 W3 h
  rw [cd_eight,h]
  simp [stD,ph,pw,pf,ps,Cm.put]
 rw [hd _ _ _ _ h0]
 have x0:ext (10 + dev * 4294967296) 32 32 = dev:=by rw [ext_eq (by omega) (by omega) (by omega)]; omega
 have x1:ext (ev + num * 4294967296 + bits) 0 32 = ev:=by rw [ext_eq (by omega) (by omega) (by omega)]; omega
 have x2:ext (ev + num * 4294967296 + bits) 32 32 = num:=by rw [ext_eq (by omega) (by omega) (by omega)]; omega
 have x3:ext (coll + tgt * 65536 + addr / 256 * 256 + 0 * 9223372036854775808) 0 16 = coll:=by rw [ext_eq (by omega) (by omega) (by omega)]; omega
 rw [x0,x1,x2,x3]
 subst f4
 subst f5
 obtain rfl:addr = 0:=by omega
 try rfl
theorem rt_11 (dev ev num coll tgt bits addr:Int) (val:Bool) (hA:addr % 256 = 0) (f:Fld ⟨11,dev,ev,num,coll,tgt,bits,addr,val⟩) :
 wd ⟨11,dev,ev,num,coll,tgt,bits,addr,val⟩ 8 = wS ⟨11,dev,ev,num,coll,tgt,bits,addr,val⟩∧cd (wS ⟨11,dev,ev,num,coll,tgt,bits,addr,val⟩) 8 = ⟨11,dev,ev,num,coll,tgt,bits,addr,val⟩:=by
 have f0:0≤dev∧dev < 2 ^ 32:=⟨(f 0 (by omega)).1,(f 0 (by omega)).2.1⟩
 have f1:0≤ev∧ev < 2 ^ 32:=⟨(f 1 (by omega)).1,(f 1 (by omega)).2.1⟩
 have f2:num = 0:=(f 2 (by omega)).2.2 (by simp [ph])
 have f3:0≤coll∧coll < 2 ^ 16:=⟨(f 3 (by omega)).1,(f 3 (by omega)).2.1⟩
 have f4:tgt = 0:=(f 4 (by omega)).2.2 (by simp [ph])
 have f5:bits = 0:=(f 5 (by omega)).2.2 (by simp [ph])
 have f6:(addr / 256) = 0:=(f 6 (by omega)).2.2 (by simp [ph])
 have f7:val = false:=by have h:=(f 7 (by omega)).2.2 (by simp [ph]); cases val <;> first | rfl | cases h
 subst f7
 have e:wd ⟨11,dev,ev,num,coll,tgt,bits,addr,false⟩ 8 = wS ⟨11,dev,ev,num,coll,tgt,bits,addr,false⟩:=by
  show [insB (11) dev 32,insB (0) ev 0,insB (0) coll 0,0] = _
  rw [insB_eq (a:=11) (n:=dev) (f:=32) (by omega) (by omega) (by omega) (by omega),insB_eq (a:=0) (n:=ev) (f:=0) (by omega) (by omega) (by omega) (by omega),insB_eq (a:=0) (n:=coll) (f:=0) (by omega) (by omega) (by omega) (by omega)]
  unfold wS
  dsimp only
  simp only [show ¬ ((11:Int) = 14) by decide,if_false,Bool.false_eq_true,if_true]
  exact l4 (by omega) (by omega) (by omega) (by omega)
 refine ⟨e,?_⟩
 unfold wS
 dsimp only
 simp only [show ¬ ((11:Int) = 14) by decide,if_false,Bool.false_eq_true,if_true]
 have h0:cd [11 + dev * 4294967296,ev + num * 4294967296 + bits,coll + tgt * 65536 + addr / 256 * 256 + 0 * 9223372036854775808,0 * 65536] 0 = ⟨11,0,0,0,0,0,0,0,false⟩:=by
  rw [cd_zero,low8 (by omega) (by omega),show (11 + dev * 4294967296) % 256 = 11 by omega]
 have hd:∀ W0 W1 W2 W3:Int,cd [W0,W1,W2,W3] 0 = ⟨11,0,0,0,0,0,0,0,false⟩→cd [W0,W1,W2,W3] 8 = ⟨11,ext W0 32 32,ext W1 0 32,0,ext W2 0 16,0,0,0,false⟩:=by
  intro W0 W1 W2 W3 h
  rw [cd_eight,h]
  simp [stD,ph,pw,pf,ps,Cm.put]
 rw [hd _ _ _ _ h0]
 have x0:ext (11 + dev * 4294967296) 32 32 = dev:=by rw [ext_eq (by omega) (by omega) (by omega)]; omega
 have x1:ext (ev + num * 4294967296 + bits) 0 32 = ev:=by rw [ext_eq (by omega) (by omega) (by omega)]; omega
 have x3:ext (coll + tgt * 65536 + addr / 256 * 256 + 0 * 9223372036854775808) 0 16 = coll:=by rw [ext_eq (by omega) (by omega) (by omega)]; omega
 rw [x0,x1,x3]
 subst f2
 subst f4
 subst f5
 obtain rfl:addr = 0:=by omega
 try rfl
theorem rt_12 (dev ev num coll tgt bits addr:Int) (val:Bool) (hA:addr % 256 = 0) (f:Fld ⟨12,dev,ev,num,coll,tgt,bits,addr,val⟩) :
 wd ⟨12,dev,ev,num,coll,tgt,bits,addr,val⟩ 8 = wS ⟨12,dev,ev,num,coll,tgt,bits,addr,val⟩∧cd (wS ⟨12,dev,ev,num,coll,tgt,bits,addr,val⟩) 8 = ⟨12,dev,ev,num,coll,tgt,bits,addr,val⟩:=by
 have f0:0≤dev∧dev < 2 ^ 32:=⟨(f 0 (by omega)).1,(f 0 (by omega)).2.1⟩
 have f1:0≤ev∧ev < 2 ^ 32:=⟨(f 1 (by omega)).1,(f 1 (by omega)).2.1⟩
 have f2:num = 0:=(f 2 (by omega)).2.2 (by simp [ph])
 have f3:coll = 0:=(f 3 (by omega)).2.2 (by simp [ph])
 have f4:tgt = 0:=(f 4 (by omega)).2.2 (by simp [ph])
 have f5:bits = 0:=(f 5 (by omega)).2.2 (by simp [ph])
 have f6:(addr / 256) = 0:=(f 6 (by omega)).2.2 (by simp [ph])
 have f7:val = false:=by have h:=(f 7 (by omega)).2.2 (by simp [ph]); cases val <;> first | rfl | cases h
 subst f7
 have e:wd ⟨12,dev,ev,num,coll,tgt,bits,addr,false⟩ 8 = wS ⟨12,dev,ev,num,coll,tgt,bits,addr,false⟩:=by
  show [insB (12) dev 32,insB (0) ev 0,0,0] = _
  rw [insB_eq (a:=12) (n:=dev) (f:=32) (by omega) (by omega) (by omega) (by omega),insB_eq (a:=0) (n:=ev) (f:=0) (by omega) (by omega) (by omega) (by omega)]
  unfold wS
  dsimp only
  simp only [show ¬ ((12:Int) = 14) by decide,if_false,Bool.false_eq_true,if_true]
  exact l4 (by omega) (by omega) (by omega) (by omega)
 refine ⟨e,?_⟩
 unfold wS
 dsimp only
 simp only [show ¬ ((12:Int) = 14) by decide,if_false,Bool.false_eq_true,if_true]
 have h0:cd [12 + dev * 4294967296,ev + num * 4294967296 + bits,coll + tgt * 65536 + addr / 256 * 256 + 0 * 9223372036854775808,0 * 65536] 0 = ⟨12,0,0,0,0,0,0,0,false⟩:=by
  rw [cd_zero,low8 (by omega) (by omega),show (12 + dev * 4294967296) % 256 = 12 by omega]
 have hd:∀ W0 W1 W2 W3:Int,cd [W0,W1,W2,W3] 0 = ⟨12,0,0,0,0,0,0,0,false⟩→cd [W0,W1,W2,W3] 8 = ⟨12,ext W0 32 32,ext W1 0 32,0,0,0,0,0,false⟩:=by
  intro W0 W1 W2 W3 h
  rw [cd_eight,h]
  simp [stD,ph,pw,pf,ps,Cm.put]
 rw [hd _ _ _ _ h0]
 have x0:ext (12 + dev * 4294967296) 32 32 = dev:=by rw [ext_eq (by omega) (by omega) (by omega)]; omega
 have x1:ext (ev + num * 4294967296 + bits) 0 32 = ev:=by rw [ext_eq (by omega) (by omega) (by omega)]; omega
 rw [x0,x1]
 subst f2
 subst f3
 subst f4
 subst f5
 obtain rfl:addr = 0:=by omega
 try rfl
theorem rt_13 (dev ev num coll tgt bits addr:Int) (val:Bool) (hA:addr % 256 = 0) (f:Fld ⟨13,dev,ev,num,coll,tgt,bits,addr,val⟩) :
 wd ⟨13,dev,ev,num,coll,tgt,bits,addr,val⟩ 8 = wS ⟨13,dev,ev,num,coll,tgt,bits,addr,val⟩∧cd (wS ⟨13,dev,ev,num,coll,tgt,bits,addr,val⟩) 8 = ⟨13,dev,ev,num,coll,tgt,bits,addr,val⟩:=by
 have f0:dev = 0:=(f 0 (by omega)).2.2 (by simp [ph])
 have f1:ev = 0:=(f 1 (by omega)).2.2 (by simp [ph])
 have f2:num = 0:=(f 2 (by omega)).2.2 (by simp [ph])
 have f3:0≤coll∧coll < 2 ^ 16:=⟨(f 3 (by omega)).1,(f 3 (by omega)).2.1⟩
 have f4:tgt = 0:=(f 4 (by omega)).2.2 (by simp [ph])
 have f5:bits = 0:=(f 5 (by omega)).2.2 (by simp [ph])
 have f6:(addr / 256) = 0:=(f 6 (by omega)).2.2 (by simp [ph])
 have f7:val = false:=by have h:=(f 7 (by omega)).2.2 (by simp [ph]); cases val <;> first | rfl | cases h
 subst f7
 have e:wd ⟨13,dev,ev,num,coll,tgt,bits,addr,false⟩ 8 = wS ⟨13,dev,ev,num,coll,tgt,bits,addr,false⟩:=by
  show [13,0,insB (0) coll 0,0] = _
  rw [insB_eq (a:=0) (n:=coll) (f:=0) (by omega) (by omega) (by omega) (by omega)]
  unfold wS
  dsimp only
  simp only [show ¬ ((13:Int) = 14) by decide,if_false,Bool.false_eq_true,if_true]
  exact l4 (by omega) (by omega) (by omega) (by omega)
 refine ⟨e,?_⟩
 unfold wS
 dsimp only
 simp only [show ¬ ((13:Int) = 14) by decide,if_false,Bool.false_eq_true,if_true]
 have h0:cd [13 + dev * 4294967296,ev + num * 4294967296 + bits,coll + tgt * 65536 + addr / 256 * 256 + 0 * 9223372036854775808,0 * 65536] 0 = ⟨13,0,0,0,0,0,0,0,false⟩:=by
  rw [cd_zero,low8 (by omega) (by omega),show (13 + dev * 4294967296) % 256 = 13 by omega]
 have hd:∀ W0 W1 W2 W3:Int,cd [W0,W1,W2,W3] 0 = ⟨13,0,0,0,0,0,0,0,false⟩→cd [W0,W1,W2,W3] 8 = ⟨13,0,0,0,ext W2 0 16,0,0,0,false⟩:=by
  intro W0 W1 W2 W3 h
  rw [cd_eight,h]
  simp [stD,ph,pw,pf,ps,Cm.put]
 rw [hd _ _ _ _ h0]
 have x3:ext (coll + tgt * 65536 + addr / 256 * 256 + 0 * 9223372036854775808) 0 16 = coll:=by rw [ext_eq (by omega) (by omega) (by omega)]; omega
 rw [x3]
 subst f0
 subst f1
 subst f2
 subst f4
 subst f5
 obtain rfl:addr = 0:=by omega
 try rfl
theorem rt_14 (dev ev num coll tgt bits addr:Int) (val:Bool) (hA:addr % 256 = 0) (f:Fld ⟨14,dev,ev,num,coll,tgt,bits,addr,val⟩) :
 wd ⟨14,dev,ev,num,coll,tgt,bits,addr,val⟩ 8 = wS ⟨14,dev,ev,num,coll,tgt,bits,addr,val⟩∧cd (wS ⟨14,dev,ev,num,coll,tgt,bits,addr,val⟩) 8 = ⟨14,dev,ev,num,coll,tgt,bits,addr,val⟩:=by
 have f0:dev = 0:=(f 0 (by omega)).2.2 (by simp [ph])
 have f1:ev = 0:=(f 1 (by omega)).2.2 (by simp [ph])
 have f2:0≤num∧num < 2 ^ 16:=⟨(f 2 (by omega)).1,(f 2 (by omega)).2.1⟩
 have f3:coll = 0:=(f 3 (by omega)).2.2 (by simp [ph])
 have f4:0≤tgt∧tgt < 2 ^ 16:=⟨(f 4 (by omega)).1,(f 4 (by omega)).2.1⟩
 have f5:bits = 0:=(f 5 (by omega)).2.2 (by simp [ph])
 have f6:(addr / 256) = 0:=(f 6 (by omega)).2.2 (by simp [ph])
 have f7:val = false:=by have h:=(f 7 (by omega)).2.2 (by simp [ph]); cases val <;> first | rfl | cases h
 subst f7
 have e:wd ⟨14,dev,ev,num,coll,tgt,bits,addr,false⟩ 8 = wS ⟨14,dev,ev,num,coll,tgt,bits,addr,false⟩:=by
  show [14,0,insB (0) tgt 16,insB (0) num 16] = _
  rw [insB_eq (a:=0) (n:=num) (f:=16) (by omega) (by omega) (by omega) (by omega),insB_eq (a:=0) (n:=tgt) (f:=16) (by omega) (by omega) (by omega) (by omega)]
  unfold wS
  dsimp only
  simp only [show ((14:Int) = 14) = True by simp,if_false,Bool.false_eq_true,if_true]
  exact l4 (by omega) (by omega) (by omega) (by omega)
 refine ⟨e,?_⟩
 unfold wS
 dsimp only
 simp only [show ((14:Int) = 14) = True by simp,if_false,Bool.false_eq_true,if_true]
 have h0:cd [14 + dev * 4294967296,ev + 0 * 4294967296 + bits,coll + tgt * 65536 + addr / 256 * 256 + 0 * 9223372036854775808,num * 65536] 0 = ⟨14,0,0,0,0,0,0,0,false⟩:=by
  rw [cd_zero,low8 (by omega) (by omega),show (14 + dev * 4294967296) % 256 = 14 by omega]
 have hd:∀ W0 W1 W2 W3:Int,cd [W0,W1,W2,W3] 0 = ⟨14,0,0,0,0,0,0,0,false⟩→cd [W0,W1,W2,W3] 8 = ⟨14,0,0,ext W3 16 16,0,ext W2 16 16,0,0,false⟩:=by
  intro W0 W1 W2 W3 h
  rw [cd_eight,h]
  simp [stD,ph,pw,pf,ps,Cm.put]
 rw [hd _ _ _ _ h0]
 have x2:ext (num * 65536) 16 16 = num:=by rw [ext_eq (by omega) (by omega) (by omega)]; omega
 have x4:ext (coll + tgt * 65536 + addr / 256 * 256 + 0 * 9223372036854775808) 16 16 = tgt:=by rw [ext_eq (by omega) (by omega) (by omega)]; omega
 rw [x2,x4]
 subst f0
 subst f1
 subst f3
 subst f5
 obtain rfl:addr = 0:=by omega
 try rfl
theorem rt_15 (dev ev num coll tgt bits addr:Int) (val:Bool) (hA:addr % 256 = 0) (f:Fld ⟨15,dev,ev,num,coll,tgt,bits,addr,val⟩) :
 wd ⟨15,dev,ev,num,coll,tgt,bits,addr,val⟩ 8 = wS ⟨15,dev,ev,num,coll,tgt,bits,addr,val⟩∧cd (wS ⟨15,dev,ev,num,coll,tgt,bits,addr,val⟩) 8 = ⟨15,dev,ev,num,coll,tgt,bits,addr,val⟩:=by
 have f0:0≤dev∧dev < 2 ^ 32:=⟨(f 0 (by omega)).1,(f 0 (by omega)).2.1⟩
 have f1:0≤ev∧ev < 2 ^ 32:=⟨(f 1 (by omega)).1,(f 1 (by omega)).2.1⟩
 have f2:num = 0:=(f 2 (by omega)).2.2 (by simp [ph])
 have f3:coll = 0:=(f 3 (by omega)).2.2 (by simp [ph])
 have f4:tgt = 0:=(f 4 (by omega)).2.2 (by simp [ph])
 have f5:bits = 0:=(f 5 (by omega)).2.2 (by simp [ph])
 have f6:(addr / 256) = 0:=(f 6 (by omega)).2.2 (by simp [ph])
 have f7:val = false:=by have h:=(f 7 (by omega)).2.2 (by simp [ph]); cases val <;> first | rfl | cases h
 subst f7
 have e:wd ⟨15,dev,ev,num,coll,tgt,bits,addr,false⟩ 8 = wS ⟨15,dev,ev,num,coll,tgt,bits,addr,false⟩:=by
  show [insB (15) dev 32,insB (0) ev 0,0,0] = _
  rw [insB_eq (a:=15) (n:=dev) (f:=32) (by omega) (by omega) (by omega) (by omega),insB_eq (a:=0) (n:=ev) (f:=0) (by omega) (by omega) (by omega) (by omega)]
  unfold wS
  dsimp only
  simp only [show ¬ ((15:Int) = 14) by decide,if_false,Bool.false_eq_true,if_true]
  exact l4 (by omega) (by omega) (by omega) (by omega)
 refine ⟨e,?_⟩
 unfold wS
 dsimp only
 simp only [show ¬ ((15:Int) = 14) by decide,if_false,Bool.false_eq_true,if_true]
 have h0:cd [15 + dev * 4294967296,ev + num * 4294967296 + bits,coll + tgt * 65536 + addr / 256 * 256 + 0 * 9223372036854775808,0 * 65536] 0 = ⟨15,0,0,0,0,0,0,0,false⟩:=by
  rw [cd_zero,low8 (by omega) (by omega),show (15 + dev * 4294967296) % 256 = 15 by omega]
 have hd:∀ W0 W1 W2 W3:Int,cd [W0,W1,W2,W3] 0 = ⟨15,0,0,0,0,0,0,0,false⟩→cd [W0,W1,W2,W3] 8 = ⟨15,ext W0 32 32,ext W1 0 32,0,0,0,0,0,false⟩:=by
  intro W0 W1 W2 W3 h
  rw [cd_eight,h]
  simp [stD,ph,pw,pf,ps,Cm.put]
 rw [hd _ _ _ _ h0]
 have x0:ext (15 + dev * 4294967296) 32 32 = dev:=by rw [ext_eq (by omega) (by omega) (by omega)]; omega
 have x1:ext (ev + num * 4294967296 + bits) 0 32 = ev:=by rw [ext_eq (by omega) (by omega) (by omega)]; omega
 rw [x0,x1]
 subst f2
 subst f3
 subst f4
 subst f5
 obtain rfl:addr = 0:=by omega
 try rfl
theorem encM_some {c:Cm} {ws:List Int} (h:encM c = some ws):knownB c.op = true∧Fld c∧c.addr % 256 = 0∧ws = wS c∧cd ws 8 = c:=by
 unfold encM at h
 split at h
 · cases h
 · rename_i hb
   split at h
   · cases h
   · rename_i hf
     cases h
     have hf:=fld_of (by simpa using hf)
     unfold badC at hb
     simp only [Bool.or_eq_true,not_or,Bool.not_eq_true',Bool.not_eq_false] at hb
     obtain ⟨hk,ha⟩:=hb
     have h6:0≤c.addr / 256∧c.addr / 256 < 2 ^ 40:=⟨(hf 6 (by omega)).1,(hf 6 (by omega)).2.1⟩
     have hA:c.addr % 256 = 0:=by
      rw [and_i64 (by omega) (by omega)] at ha
      simpa using ha
     clear ha
     refine ⟨hk,hf,hA,?_⟩
     obtain ⟨op,dev,ev,num,coll,tgt,bits,addr,val⟩:=c
     dsimp only at hA hk
     have hk:op = 1∨op = 3∨op = 4∨op = 5∨op = 8∨op = 9∨op = 10∨op = 11∨op = 12∨op = 13∨op = 14∨op = 15:=by
      have:=of_decide_eq_true hk; omega
     have fin:wd ⟨op,dev,ev,num,coll,tgt,bits,addr,val⟩ 8 = wS ⟨op,dev,ev,num,coll,tgt,bits,addr,val⟩∧cd (wS ⟨op,dev,ev,num,coll,tgt,bits,addr,val⟩) 8 = ⟨op,dev,ev,num,coll,tgt,bits,addr,val⟩:=by
      rcases hk with rfl | rfl | rfl | rfl | rfl | rfl | rfl | rfl | rfl | rfl | rfl | rfl
      · exact rt_1 _ _ _ _ _ _ _ _ hA hf
      · exact rt_3 _ _ _ _ _ _ _ _ hA hf
      · exact rt_4 _ _ _ _ _ _ _ _ hA hf
      · exact rt_5 _ _ _ _ _ _ _ _ hA hf
      · exact rt_8 _ _ _ _ _ _ _ _ hA hf
      · exact rt_9 _ _ _ _ _ _ _ _ hA hf
      · exact rt_10 _ _ _ _ _ _ _ _ hA hf
      · exact rt_11 _ _ _ _ _ _ _ _ hA hf
      · exact rt_12 _ _ _ _ _ _ _ _ hA hf
      · exact rt_13 _ _ _ _ _ _ _ _ hA hf
      · exact rt_14 _ _ _ _ _ _ _ _ hA hf
      · exact rt_15 _ _ _ _ _ _ _ _ hA hf
     exact ⟨fin.1,by rw [fin.1]; exact fin.2⟩
theorem enc_dec {c:Cm} {ws:List Int} (h:decM ws = some c):encM c = some ws:=by
 unfold decM at h
 split at h
 · cases h; assumption
 · cases h
theorem enc_range {c:Cm} {ws:List Int} (h:encM c = some ws):ws.length = 4∧∀ x∈ws,0≤x∧x < 2 ^ 64:=by
 obtain ⟨h1,hf,h3,rfl,-⟩:=encM_some h
 have hk:=of_decide_eq_true h1
 have f0:=hf 0 (by omega)
 have f1:=hf 1 (by omega)
 have f2:=hf 2 (by omega)
 have f3:=hf 3 (by omega)
 have f4:=hf 4 (by omega)
 have f5:=hf 5 (by omega)
 have f6:=hf 6 (by omega)
 have f7:=hf 7 (by omega)
 simp only [Cm.get,ps,ph] at f0 f1 f2 f3 f4 f5 f6 f7
 have h2:(if c.op = 14 then 16 else 32:Nat)≤32:=by split <;> omega
 refine ⟨rfl,fun x hx=>?_⟩
 simp only [wS,List.mem_cons,List.not_mem_nil,or_false] at hx
 have hb:c.bits = 0∨c.ev = 0∧(if c.op = 14 then 0 else c.num) = 0:=by
  by_cases e:c.op = 8
  · right
    refine ⟨f1.2.2 (by simp [e]),?_⟩
    rw [if_neg (by omega)]
    exact f2.2.2 (by simp [e])
  · exact .inl (f5.2.2 (by simp [e]))
 have hq:c.addr = 0∨c.coll = 0∧c.tgt = 0:=by
  by_cases e:c.op = 8
  · exact .inr ⟨f3.2.2 (by simp [e]),f4.2.2 (by simp [e])⟩
  · have:=f6.2.2 (by simp [e]); omega
 rcases hx with rfl | rfl | rfl | rfl
 · omega
 · by_cases e:c.op = 14
   · simp only [if_pos e] at f2 hb ⊢; omega
   · simp only [if_neg e] at f2 hb ⊢; omega
 · split <;> omega
 · by_cases e:c.op = 14
   · simp only [if_pos e] at f2 hb ⊢; omega
   · simp only [if_neg e] at f2 hb ⊢; omega
def bytesOf (v:Int) (n:Nat):List Int:=(List.range n).map (byteI v)
def lawN (n:Int):Nat:=if n < 0∨n > 4096 then 200 else n.toNat
theorem lawNewX_cv {w:World} (n:Int):CV P F.zzcw [.int .i64 n] w fun v w'=>Below w.heap.size w w'∧∃ (b d b' d':Nat),v = .tuple [.pointer (some ⟨b,0,none⟩),.pointer (some ⟨b',0,none⟩)].toArray ∧
 MemAt w' (some ⟨b,0,none⟩) b d (lawN n) (List.replicate (lawN n) 0) []∧MemAt w' (some ⟨b',0,none⟩) b' d' (lawN n) (List.replicate (lawN n) 0) []∧w.heap.size≤b∧w.heap.size≤d∧b < d'∧d < d'∧b < b'∧d < b':=by
 refine zzlG ?_
 unfold zzcw JoinT
 have go:∀ m:Int,0≤m→m≤4096→lawN n = m.toNat→zzgn (fun v w'=>Below w.heap.size w w'∧∃ (b d b' d':Nat),v = .tuple [.pointer (some ⟨b,0,none⟩),.pointer (some ⟨b',0,none⟩)].toArray ∧
  MemAt w' (some ⟨b,0,none⟩) b d (lawN n) (List.replicate (lawN n) 0) []∧MemAt w' (some ⟨b',0,none⟩) b' d' (lawN n) (List.replicate (lawN n) 0) []∧w.heap.size≤b∧w.heap.size≤d∧b < d'∧d < d'∧b < b'∧d < b') m w:=by
  intro m h0 h1 hm0
  rw [hm0]
  unfold zzgn
  refine (new_cv (w:=w) m).mono ?_
  rintro _ w1 ⟨hB1,h⟩
  rw [if_pos (by omega)] at h
  obtain ⟨b,d,rfl,hm,hb,hd⟩:=h
  refine ⟨_,0,rfl,cnd_i (fun h=>by cases h) fun _=>?_⟩
  unfold drw
  have hlt:=hm.lt
  have hs1:=hB1.size
  refine make_i appBytes zeroByte (w:=w1.drew) h0 (by omega) (by omega) fun w2 hB2 h2 hs2=>alc_i fun w3 hB3 h3 hs3=>?_
  have e1:w1.drew.heap.size = w1.heap.size:=rfl
  have hB13:Below w1.heap.size w1 w3:=((Below.refl _ w1).drew.trans (hB2 _ (Nat.le_refl _))).trans (hB3 _ (by omega))
  refine ⟨hB1.trans (hB13.mono hs1),b,d,w2.heap.size,w1.heap.size,rfl,hm.ext hB13,?_,hb,hd,hlt.1,hlt.2,by omega,by omega⟩
  have hb':∃ t,Row w3 w2.heap.size [.slice (some ⟨w1.heap.size,0,none⟩) (List.replicate m.toNat (0:Int)).length m.toNat] t:=by rw [List.length_replicate]; exact ⟨_,h3⟩
  have hd':∃ t,Row w3 w1.heap.size (u8s (List.replicate m.toNat 0) ++ []) t:=by
   have:=h2.below (hB3 w2.heap.size (Nat.le_refl _)) (by omega)
   exact ⟨_,by simpa [u8s] using this⟩
  exact ⟨rfl,hb',hd',by simp,by omega,by intro x hx; rw [(List.mem_replicate.1 hx).2]; omega,by simp; omega⟩
 unfold zzir
 refine cnd_i (fun h=>?_) fun h=>?_
 · exact cnd_i (fun _=>go 200 (by omega) (by omega) (by unfold lawN; rw [if_pos (.inl (of_decide_eq_true h))]; rfl)) fun h=>by cases h
 · have h:=of_decide_eq_false h
   refine cnd_i (fun h'=>go 200 (by omega) (by omega) (by unfold lawN; rw [if_pos (.inr (of_decide_eq_true h'))]; rfl)) fun h'=>?_
   have h':=of_decide_eq_false h'
   exact go n (by omega) (by omega) (by unfold lawN; rw [if_neg (by omega)])
theorem lawNewX_t (n:Int):Tri P F.zzcw [.int .i64 n] [] fun v L'=>∃ b b',v = .tuple [ptr b,ptr b'].toArray∧L' = [memI b (List.replicate (lawN n) 0),memI b' (List.replicate (lawN n) 0)]:=by
 intro w S hS
 refine (lawNewX_cv n).mono fun v w' ⟨hB,b,d,b',d',e,hm,hm',g1,g2,g3,g4,g5,g6⟩=>⟨_,⟨b,b',e,rfl⟩,?_⟩
 have hs:=hm.lt
 have hs':=hm'.lt
 have H0:=(Own.start hS).grow hB
 obtain ⟨T,e1,e2,e3⟩:=H0
 have hT:=Sep.lt hS
 refine ⟨fun k=>(k = b∨k = d)∨(k = b'∨k = d'),⟨fun k=>k = b∨k = d,fun k=>k = b'∨k = d',⟨d,_,[],hm,fun _=>Iff.rfl⟩,sep_one.2 ⟨d',_,[],hm',fun _=>Iff.rfl⟩,?_,fun _=>Iff.rfl⟩,e2,?_⟩
 · have:=hm.hne
   have:=hm'.hne
   rintro k (rfl | rfl) (h | h) <;> omega
 · rintro k ((rfl | rfl) | (rfl | rfl)) <;> exact .inr (by omega)
variable {w w0:World} {S0:Nat→Prop}
theorem zzmb {L F:List It} {b:Nat} {bs:List Int} (H:X.Own w0 S0 L w) (hp:Pick L (memI b bs) F):(∀ x∈bs,0≤x∧x < 256)∧bs.length≤131072:=by
 obtain ⟨d,c,rest,tb,td,_,_,h1,h2⟩:=zzkh H hp
 exact ⟨h1,h2⟩
def offK (off:Int) (k:Nat):Int:=IntKind.i64.wrap (off + IntKind.i64.wrap (8 * (k:Int)))
def rd8 (bs:List Int) (a off:Int) (k:Nat):Int:=le (cut bs (a + offK off k).toNat 8)
def rds (bs:List Int) (a off:Int) (k:Nat):List Int:=[if 0 < k then rd8 bs a off 0 else 0,if 1 < k then rd8 bs a off 1 else 0,if 2 < k then rd8 bs a off 2 else 0,if 3 < k then rd8 bs a off 3 else 0]
theorem rds_next (bs:List Int) (a off:Int) {k:Nat} (h:k < 4):(rds bs a off k).set k (rd8 bs a off k) = rds bs a off (k + 1):=by
 have:k = 0∨k = 1∨k = 2∨k = 3:=by omega
 rcases this with rfl | rfl | rfl | rfl <;> rfl
def ldOk (len:Nat) (a s off:Int):Bool:=(List.range 4).all fun k=>decide (errE len a s (offK off k) 8 = 0)
def loadM (bs:List Int) (a s off:Int):Cm×Int:=if ldOk bs.length a s off then (match decM (rds bs a off 4) with | some c=>(c,0) | none=>(cm0,160)) else (cm0,42)
def loadV (bs:List Int) (a s off:Int):Value:=.tuple [cmV (loadM bs a s off).1,.int .i64 (loadM bs a s off).2].toArray
theorem Load_t (b:Nat) (bs:List Int) (a s off:Int):Tri P F.zzhD [ptr b,winV a s,.int .i64 off] [memI b bs] fun v L'=>v = loadV bs a s off∧L' = [memI b bs]:=by
 intro w S hS
 refine zzmD ?_
 unfold zzhD
 have H:=Own.start hS
 refine alc_o H fun b5 wx H=>alc_o H fun b7 wx H=>alc_o H fun b9 wx H=>?_
 refine loop_o (fun (st:Int) L=>∃ k:Nat,k≤4∧(∀ j,j < k→errE bs.length a s (offK off j) 8 = 0)∧st = k∧L = [row b9 (wI (rds bs a off k)) tW4,row b7 [.int .i64 0,.int .i64 0,.int .i64 0,.int .i64 0,.int .i64 0,.int .i64 0,.int .i64 0,.int .i64 0,.bool false] tCmd,row b5 [.int .i64 a,.int .i64 s] tWin,memI b bs])
  (fun (st:Int)=>(4 - st).toNat) H ⟨0,by omega,fun _ h=>absurd h (by omega),rfl,rfl⟩ ?_
 rintro _ _ wx ⟨k,hk,hg,rfl,rfl⟩ H
 unfold zzlS
 refine cnd_i (fun hc=>?_) fun hc=>?_
 · have hc:=of_decide_eq_true hc
   have hk4:k < 4:=by omega
   repeat (first | refine lIa H ?_ | refine lLa H ?_ | refine lBa H ?_ | refine lPa H ?_ | refine lSa H ?_)
   refine call_pa H (read_t b bs a s (offK off k) 8) fun wx H=>?_
   unfold readV
   have e1:IntKind.i64.wrap ((k:Int) + 1) = ((k + 1:Nat):Int):=by rw [W_id (by omega) (by omega)]; push_cast; rfl
   by_cases he:errE bs.length a s (offK off k) 8 = 0
   · rw [if_pos he]
     refine ⟨_,_,rfl,cnd_i (fun h=>by cases h) fun _=>?_⟩
     refine ix_i hk4 ?_
     rw [add_lit,Nat.mul_one,Nat.zero_add,e1]
     refine st1_o H (by repeat (first | exact Rep.here | apply Rep.there)) (by rw [wI_length]; exact hk4) fun wx H=>⟨⟨_,⟨k + 1,by omega,?_,rfl,rfl⟩,?_⟩,by omega⟩
     · intro j hj
       by_cases e:j = k
       · rw [e]; exact he
       · exact hg j (by omega)
     · rw [wI_set] at H
       rw [← rds_next bs a off hk4]
       exact H
   · rw [if_neg he]
     refine ⟨_,_,rfl,cnd_i (fun _=>?_) (fun h=>absurd (by simpa using h) he)⟩
     iterate 9 refine sta H fun wx H=>?_
     repeat (first | refine lIa H ?_ | refine lLa H ?_ | refine lBa H ?_ | refine lPa H ?_ | refine lSa H ?_)
     have hl:ldOk bs.length a s off = false:=by
      unfold ldOk
      refine Bool.eq_false_iff.2 fun h=>he ?_
      exact of_decide_eq_true (List.all_eq_true.1 h k (List.mem_range.2 hk4))
     have e:loadM bs a s off = (cm0,42):=by unfold loadM; rw [hl]; rfl
     exact ⟨_,⟨by unfold loadV; rw [e]; rfl,rfl⟩,H.dp⟩
 · have hc:=of_decide_eq_false hc
   have:k = 4:=by omega
   subst this
   have hl:ldOk bs.length a s off = true:=by
    unfold ldOk
    exact List.all_eq_true.2 fun k hk=>decide_eq_true (hg k (List.mem_range.1 hk))
   repeat (first | refine lIa H ?_ | refine lLa H ?_ | refine lBa H ?_ | refine lPa H ?_ | refine lSa H ?_)
   refine call_p H (Decode_t (rd8 bs a off 0) (rd8 bs a off 1) (rd8 bs a off 2) (rd8 bs a off 3)) (by repeat (first | exact Cut.nil | (apply Cut.cons; (repeat (first | exact Pick.here | apply Pick.there))))) fun wx H=>?_
   have hd:decV [rd8 bs a off 0,rd8 bs a off 1,rd8 bs a off 2,rd8 bs a off 3] = loadV bs a s off:=by
    unfold decV loadV loadM
    rw [hl,if_pos rfl]
    show (match decM (rds bs a off 4) with | some c=>_ | none=>_) = _
    cases decM (rds bs a off 4) <;> rfl
   rw [hd]
   unfold loadV
   generalize loadM bs a s off = r
   refine ⟨_,_,_,_,_,_,_,_,_,_,rfl,?_⟩
   iterate 9 refine sta H fun wx H=>?_
   repeat (first | refine lIa H ?_ | refine lLa H ?_ | refine lBa H ?_ | refine lPa H ?_ | refine lSa H ?_)
   exact ⟨_,⟨rfl,rfl⟩,H.dp⟩
def storeE (len:Nat) (a s off:Int) (c:Cm):Int:=match encM c with
 | none=>160
 | some _=>if mayE s off 8≠0∨off > IntKind.i64.wrap (s - 32)∨holdsB len a s = false then 42 else 0
def stW (bs:List Int) (a s off:Int) (ws:List Int):Nat→List Int
 | 0=>bs
 | k + 1=>writeM (stW bs a s off ws k) a s (offK off k) 8 (ws.getD k 0)
theorem stW_length (bs:List Int) (a s off:Int) (ws:List Int):∀ k,(stW bs a s off ws k).length = bs.length
 | 0=>rfl
 | k + 1=>by rw [stW,writeM_length,stW_length bs a s off ws k]
def storeM (bs:List Int) (a s off:Int) (c:Cm):List Int:=match encM c with
 | none=>bs
 | some ws=>if mayE s off 8≠0∨off > IntKind.i64.wrap (s - 32)∨holdsB bs.length a s = false then bs else stW bs a s off ws 4
def W (n:Int):Int:=IntKind.i64.wrap n
def rightB (s t:Int):Bool:=!(decide (t < 1) || (decide (s < t) || (Int.tmod s t != 0 || decide (W (Int.tdiv s t) > 1024))))
def ringV (s t:Int):Value:=.agg [.int .i64 s,.int .i64 t].toArray
def i64V (n:Int):Value:=.int .i64 n
theorem right_plain (s t:Int):Plain F.zzcT [ringV s t] (i64V (if rightB s t then 0 else 1)):=by
 intro w
 refine zzln ?_
 refine alc_i fun w1 hB h1 _=>?_
 have hb:=hB _ (Nat.le_refl _)
 unfold JoinT
 refine ldI_i h1 rfl ?_
 refine cnd_i (fun h=>?_) fun h=>?_
 · refine cnd_i (fun _=>⟨?_,hb⟩) fun h=>by cases h
   simp_all [rightB,i64V]
 refine ldI_i h1 rfl (ldI_i h1 rfl ?_)
 refine cnd_i (fun h'=>?_) fun h'=>?_
 · refine cnd_i (fun _=>⟨?_,hb⟩) fun h=>by cases h
   simp_all [rightB,i64V]
 refine ldI_i h1 rfl (ldI_i h1 rfl ⟨by simp at h; omega,?_⟩)
 refine cnd_i (fun h''=>?_) fun h''=>?_
 · refine cnd_i (fun _=>⟨?_,hb⟩) fun h=>by cases h
   simp_all [rightB,i64V]
 refine ldI_i h1 rfl (ldI_i h1 rfl ⟨by simp at h; omega,?_⟩)
 refine cnd_i (fun h3=>⟨?_,hb⟩) fun h3=>⟨?_,hb⟩
 · simp_all [rightB,i64V,W]
 · simp_all [rightB,i64V,W]
def mayB (s t a:Int):Bool:=rightB s t && (decide (a≥0) && (decide (a < s) && Int.tmod a t == 0))
theorem right_pos {s t:Int} (h:rightB s t = true):1≤t∧t≤s∧Int.tmod s t = 0∧W (Int.tdiv s t)≤1024:=by
 simp only [rightB,Bool.not_eq_true',Bool.or_eq_false_iff,decide_eq_false_iff_not,bne_eq_false_iff_eq] at h
 omega
theorem may_right {s t a:Int} (h:mayB s t a = true):rightB s t = true:=by
 simp only [mayB,Bool.and_eq_true] at h; exact h.1
theorem rmay_plain (s t a:Int):Plain F.zzci [ringV s t,i64V a] (.bool (mayB s t a)):=by
 intro w
 refine zzlX ?_
 refine alc_i fun w1 hB h1 _=>?_
 have hb:=hB _ (Nat.le_refl _)
 unfold JoinT
 refine ldI_i h1 rfl (ldI_i h1 rfl ?_)
 refine (right_plain s t w1).mono ?_
 rintro _ w2 ⟨rfl,hB2⟩
 have h2:=h1.ext hB2
 have hb2:=hb.trans (hB2.mono (by have:=hB w.heap.size (Nat.le_refl _); exact this.size))
 refine ⟨_,rfl,?_⟩
 cases hr:rightB s t
 · exact ⟨by simp [mayB,hr],hb2⟩
 refine cnd_i (fun _=>?_) fun h=>by simp at h
 refine cnd_i (fun h=>?_) fun h=>⟨by have h:=of_decide_eq_false h; simp [mayB,hr,show ¬ (0≤a) by omega],hb2⟩
 refine ldI_i h2 rfl (cnd_i (fun h'=>?_) fun h'=>⟨by have h':=of_decide_eq_false h'; simp [mayB,hr,show ¬ (a < s) by omega],hb2⟩)
 have:=right_pos hr
 exact ldI_i h2 rfl ⟨by omega,⟨by simp_all [mayB],hb2⟩⟩
def tupV (a b:Int):Value:=.tuple [.int .i64 a,.int .i64 b].toArray
theorem next_plain (s t a:Int):Plain F.zzdB [ringV s t,i64V a] (if mayB s t a then tupV (Int.tmod (W (a + t)) s) 0 else tupV 0 1):=by
 intro w
 refine zzlJ ?_
 refine alc_i fun w1 hB h1 _=>?_
 have hb:=hB _ (Nat.le_refl _)
 refine ldI_i h1 rfl (ldI_i h1 rfl ?_)
 refine (rmay_plain s t a w1).mono ?_
 rintro _ w2 ⟨rfl,hB2⟩
 have h2:=h1.ext hB2
 have hb2:=hb.trans (hB2.mono hb.size)
 refine ⟨_,rfl,?_⟩
 cases hr:mayB s t a
 · exact ⟨rfl,hb2⟩
 have:=right_pos (may_right hr)
 exact ldI_i h2 rfl (ldI_i h2 rfl ⟨by omega,rfl,hb2⟩)
def leftV (s t a b:Int):Int:=W (Int.tdiv (Int.tmod (W (W (b - a) + s)) s) t)
theorem left_plain (s t a b:Int):Plain F.zzer [ringV s t,i64V a,i64V b] (if mayB s t a && mayB s t b then tupV (leftV s t a b) 0 else tupV 0 1):=by
 intro w
 refine zzlI ?_
 refine alc_i fun w1 hB h1 _=>?_
 have hb:=hB _ (Nat.le_refl _)
 unfold JoinT
 refine ldI_i h1 rfl (ldI_i h1 rfl ?_)
 refine (rmay_plain s t a w1).mono ?_
 rintro _ w2 ⟨rfl,hB2⟩
 have h2:=h1.ext hB2
 have hb2:=hb.trans (hB2.mono hb.size)
 refine ⟨_,rfl,?_⟩
 cases hr:mayB s t a
 · exact ⟨rfl,hb2⟩
 refine ldI_i h2 rfl (ldI_i h2 rfl ?_)
 refine (rmay_plain s t b w2).mono ?_
 rintro _ w3 ⟨rfl,hB3⟩
 have h3:=h2.ext hB3
 have hb3:=hb2.trans (hB3.mono hb2.size)
 refine ⟨_,rfl,?_⟩
 cases hr':mayB s t b
 · exact ⟨rfl,hb3⟩
 have:=right_pos (may_right hr)
 exact ldI_i h3.drew rfl (ldI_i h3.drew rfl ⟨by omega,ldI_i h3.drew rfl ⟨by omega,rfl,hb3.drew⟩⟩)
def roomV (s t a b:Int):Int:=W (W (W (Int.tdiv s t) - 1) - leftV s t a b)
structure Qu where
 a:Int
 s:Int
 r:Int
 w:Int
 deriving DecidableEq
def Qu.cells (q:Qu):List Value:=[.int .i64 q.a,.int .i64 q.s,.int .i64 q.r,.int .i64 q.w]
def quV (q:Qu):Value:=.agg [.int .i64 q.a,.int .i64 q.s,.int .i64 q.r,.int .i64 q.w].toArray
def Qu.both (q:Qu):Bool:=mayB q.s 32 q.r && mayB q.s 32 q.w
def Qu.left (q:Qu):Int:=if q.both then leftV q.s 32 q.r q.w else 0
def Qu.room (q:Qu):Int:=if q.both then roomV q.s 32 q.r q.w else 0
def nextQ (s a:Int):Int:=if mayB s 32 a then Int.tmod (W (a + 32)) s else 0
theorem pl_t {f:FuncId} {args:List Value} {v:Value} (h:Plain f args v):Tri P f args [] fun v' L'=>v' = v∧L' = []:=Tri.of_pure fun w S _=>h w
theorem zzmc (q:Qu):Tri P F.zzaZ [quV q] [] fun v L'=>v = ringV q.s 32∧L' = []:=by
 intro w S hS
 refine zzkI ?_
 unfold zzaZ
 have H:=Own.start hS
 refine alc_o H fun b5 wx H=>alc_o H fun b7 wx H=>?_
 repeat (first | refine lIa H ?_ | refine lLa H ?_ | refine lBa H ?_ | refine lPa H ?_ | refine lSa H ?_)
 iterate 2 refine sta H fun wx H=>?_
 repeat (first | refine lIa H ?_ | refine lLa H ?_ | refine lBa H ?_ | refine lPa H ?_ | refine lSa H ?_)
 exact ⟨_,⟨rfl,rfl⟩,H.dp⟩
theorem Left_t (q:Qu):Tri P F.zzbm [quV q] [] fun v L'=>v = .int .i64 q.left∧L' = []:=by
 intro w S hS
 refine zzkz ?_
 unfold zzbm
 have H:=Own.start hS
 refine alc_o H fun b5 wx H=>?_
 refine drw_o H fun wx H=>?_
 repeat (first | refine lIa H ?_ | refine lLa H ?_ | refine lBa H ?_ | refine lPa H ?_ | refine lSa H ?_)
 refine call_pa H (zzmc q) fun wx H=>?_
 refine ⟨_,_,rfl,by
                       repeat (first | refine lIa H ?_ | refine lLa H ?_ | refine lBa H ?_ | refine lPa H ?_ | refine lSa H ?_)
                       rfl,by
                               repeat (first | refine lIa H ?_ | refine lLa H ?_ | refine lBa H ?_ | refine lPa H ?_ | refine lSa H ?_)
                               rfl,?_⟩
 refine call_pa H (pl_t (left_plain q.s 32 q.r q.w)) fun wx H=>?_
 unfold Qu.left Qu.both
 cases mayB q.s 32 q.r && mayB q.s 32 q.w <;> exact ⟨_,_,rfl,_,⟨rfl,rfl⟩,H.dp⟩
def newQ (a s:Int):Qu×Int:=if rightB s 32 && decide (0≤a) then (⟨a,s,0,0⟩,0) else (⟨0,0,0,0⟩,1)
theorem NewQ_t (a s:Int):Tri P F.zzg2 [winV a s] [] fun v L'=>v = .tuple [quV (newQ a s).1,.int .i64 (newQ a s).2].toArray∧L' = []:=by
 intro w S hS
 refine zzmx ?_
 unfold zzg2
 have H:=Own.start hS
 refine alc_o H fun b3 wx H=>alc_o H fun b5 wx H=>?_
 repeat (first | refine lIa H ?_ | refine lLa H ?_ | refine lBa H ?_ | refine lPa H ?_ | refine lSa H ?_)
 refine alc_o H fun b9 wx H=>?_
 iterate 4 refine sta H fun wx H=>?_
 repeat (first | refine lIa H ?_ | refine lLa H ?_ | refine lBa H ?_ | refine lPa H ?_ | refine lSa H ?_)
 refine call_pa H (zzmc ⟨a,s,0,0⟩) fun wx H=>?_
 refine ⟨_,_,rfl,?_⟩
 refine call_pa H (pl_t (right_plain s 32)) fun wx H=>?_
 refine ⟨_,rfl,join_o ?_⟩
 have fin:∀ b:Bool,b = !(rightB s 32 && decide (0≤a))→∀ wx,X.Own w S [row b9 [.int .i64 a,.int .i64 s,.int .i64 0,.int .i64 0] tQ,row b5 [.int .i64 0,.int .i64 0,.int .i64 0,.int .i64 0] tQ,row b3 [.int .i64 a,.int .i64 s] tWin] wx →
  zzi6 (fun v w'=>∃ L',(v = .tuple [quV (newQ a s).1,.int .i64 (newQ a s).2].toArray∧L' = [])∧X.Own w S L' w') b5 b9 b wx:=by
  intro b hb wx H
  unfold zzi6
  refine cnd_i (fun h=>?_) fun h=>?_
  · have e:newQ a s = (⟨0,0,0,0⟩,1):=by unfold newQ; rw [hb,Bool.not_eq_true'] at h; rw [h]; rfl
    rw [e]
    iterate 4 refine sta H fun wx H=>?_
    repeat (first | refine lIa H ?_ | refine lLa H ?_ | refine lBa H ?_ | refine lPa H ?_ | refine lSa H ?_)
    exact ⟨_,⟨rfl,rfl⟩,H.dp⟩
  · have e:newQ a s = (⟨a,s,0,0⟩,0):=by unfold newQ; rw [hb,Bool.not_eq_false'] at h; rw [h]; rfl
    rw [e]
    repeat (first | refine lIa H ?_ | refine lLa H ?_ | refine lBa H ?_ | refine lPa H ?_ | refine lSa H ?_)
    iterate 4 refine sta H fun wx H=>?_
    repeat (first | refine lIa H ?_ | refine lLa H ?_ | refine lBa H ?_ | refine lPa H ?_ | refine lSa H ?_)
    exact ⟨_,⟨rfl,rfl⟩,H.dp⟩
 cases hr:rightB s 32
 · exact cnd_i (fun _=>fin _ (by rw [hr]; rfl) _ H) (fun h=>by cases h)
 · refine cnd_i (fun h=>by cases h) fun _=>?_
   repeat (first | refine lIa H ?_ | refine lLa H ?_ | refine lBa H ?_ | refine lPa H ?_ | refine lSa H ?_)
   refine fin _ ?_ _ H
   rw [hr,Bool.true_and,Bool.eq_iff_iff]
   simp
def putQ (q:Qu) (bs:List Int) (c:Cm):Qu×List Int×Int:=if q.room < 1 then (q,bs,2) else if storeE bs.length q.a q.s q.w c≠0 then (q,storeM bs q.a q.s q.w c,storeE bs.length q.a q.s q.w c) else ({ q with w:=nextQ q.s q.w },storeM bs q.a q.s q.w c,0)
theorem Next_t (s a:Int):Tri P F.zzdB [ringV s 32,i64V a] [] fun v L'=>(∃ e,v = .tuple [.int .i64 (nextQ s a),.int .i64 e].toArray)∧L' = []:=by
 intro w S hS
 refine (next_plain s 32 a w).mono ?_
 rintro _ w' ⟨rfl,hB⟩
 refine ⟨[],⟨?_,rfl⟩,(Own.start hS).grow hB⟩
 unfold nextQ
 cases mayB s 32 a <;> exact ⟨_,rfl⟩
def headQ (q:Qu) (bs:List Int):Cm×Int:=if q.left < 1 then (cm0,170) else loadM bs q.a q.s q.r
theorem Head_t (m:Nat) (q:Qu) (bs:List Int):Tri P F.zzct [quV q,ptr m] [memI m bs] fun v L'=>v = .tuple [cmV (headQ q bs).1,.int .i64 (headQ q bs).2].toArray∧L' = [memI m bs]:=by
 intro w S hS
 refine zzkA ?_
 unfold zzct
 have H:=Own.start hS
 refine alc_o H fun b6 wx H=>alc_o H fun b8 wx H=>?_
 repeat (first | refine lIa H ?_ | refine lLa H ?_ | refine lBa H ?_ | refine lPa H ?_ | refine lSa H ?_)
 refine call_pa H (Left_t q) fun wx H=>?_
 refine ⟨_,rfl,cnd_i (fun h=>?_) fun h=>?_⟩
 · have e:headQ q bs = (cm0,170):=by unfold headQ; rw [if_pos (of_decide_eq_true h)]
   rw [e]
   iterate 9 refine sta H fun wx H=>?_
   repeat (first | refine lIa H ?_ | refine lLa H ?_ | refine lBa H ?_ | refine lPa H ?_ | refine lSa H ?_)
   exact ⟨_,⟨rfl,rfl⟩,H.dp⟩
 have h:=of_decide_eq_false h
 have e:headQ q bs = loadM bs q.a q.s q.r:=by unfold headQ; rw [if_neg h]
 rw [e]
 repeat (first | refine lIa H ?_ | refine lLa H ?_ | refine lBa H ?_ | refine lPa H ?_ | refine lSa H ?_)
 refine call_pa H (Load_t m bs q.a q.s q.r) fun wx H=>?_
 unfold loadV
 generalize loadM bs q.a q.s q.r = z
 refine ⟨_,_,_,_,_,_,_,_,_,_,rfl,?_⟩
 iterate 9 refine sta H fun wx H=>?_
 repeat (first | refine lIa H ?_ | refine lLa H ?_ | refine lBa H ?_ | refine lPa H ?_ | refine lSa H ?_)
 exact ⟨_,⟨rfl,rfl⟩,H.dp⟩
def passQ (q:Qu):Qu×Int:=if q.left < 1 then (q,170) else ({ q with r:=nextQ q.s q.r },0)
def setQ (q:Qu) (at':Int):Qu×Int:=if mayB q.s 32 at' then ({ q with w:=at' },0) else (q,1)
open Go X
abbrev tVits:TypeId:=T.t84
abbrev tRules:TypeId:=T.t35
abbrev tChange:TypeId:=T.t55
abbrev tChanges:TypeId:=T.t48
theorem appChs:appB P tChanges tChange 6 48 = true:=by kernel_rfl
theorem zeroCh:zeroC P tChange = some [.int .i64 0,.int .i64 0,.int .i64 0,.int .i64 0,.int .i64 0,.int .i64 0]:=by kernel_rfl
open Go Go.RowKit X
section
variable {w w0:World} {S0:Nat→Prop}
def starI (L:List It):It where
 h:=fun w S=>Sep L w S
 loc:=fun h hw hz=>h.loc hw hz
 lt:=fun h k hk=>h.lt k hk
theorem star_flat {L F:List It} {S:Nat→Prop}:Sep (starI L :: F) w S↔Sep (L ++ F) w S:=Sep.append.symm
theorem own_iff {L L':List It} (h:∀ S,Sep L w S↔Sep L' w S):X.Own w0 S0 L w↔X.Own w0 S0 L' w :=
 ⟨fun ⟨S,h1,h2⟩=>⟨S,(h S).1 h1,h2⟩,fun ⟨S,h1,h2⟩=>⟨S,(h S).2 h1,h2⟩⟩
theorem sep_cons {i:It} {L L':List It} (h:∀ S,Sep L w S↔Sep L' w S) (S:Nat→Prop):Sep (i :: L) w S↔Sep (i :: L') w S :=
 ⟨fun ⟨S1,S2,h1,h2,h3⟩=>⟨S1,S2,h1,(h S2).1 h2,h3⟩,fun ⟨S1,S2,h1,h2,h3⟩=>⟨S1,S2,h1,(h S2).2 h2,h3⟩⟩
theorem pick_lift {i:It} {L L':List It} (h:Pick L i L') (R:List It):Pick (L ++ R) i (L' ++ R):=by
 induction h with
 | here=>exact .here
 | there h ih=>exact .there ih
theorem star_pick {i:It} {L L' F:List It} (hp:Pick L i L'):X.Own w0 S0 (starI L :: F) w↔X.Own w0 S0 (i :: starI L' :: F) w:=by
 refine own_iff fun S=>?_
 rw [star_flat,(pick_lift hp F).iff]
 exact sep_cons (fun S=>star_flat.symm) S
theorem pick_at {α:Type} {g:α→It} {x:α}:∀ {xs:List α} {i:Nat},xs[i]? = some x→Pick (xs.map g) (g x) ((xs.eraseIdx i).map g)
 | [],i,h=>by cases h
 | y :: r,0,h=>by cases h; exact .here
 | y :: r,i + 1,h=>by
  rw [List.eraseIdx_cons_succ,List.map_cons,List.map_cons]
  exact .there (pick_at (by simpa using h))
theorem star_open {α:Type} {g:α→It} {x:α} {xs:List α} {i:Nat} {F:List It} (h:xs[i]? = some x) (H:X.Own w0 S0 (starI (xs.map g) :: F) w):X.Own w0 S0 (g x :: starI ((xs.eraseIdx i).map g) :: F) w :=
 (star_pick (pick_at h)).1 H
theorem star_shut {α:Type} {g:α→It} {y:α} {xs:List α} {i:Nat} {F:List It} (h:i < xs.length) (H:X.Own w0 S0 (g y :: starI ((xs.eraseIdx i).map g) :: F) w):X.Own w0 S0 (starI ((xs.set i y).map g) :: F) w:=by
 have e:(xs.set i y).eraseIdx i = xs.eraseIdx i:=by
  rw [List.eraseIdx_set_eq]
 have:=pick_at (g:=g) (x:=y) (xs:=xs.set i y) (i:=i) (by simp [h])
 rw [e] at this
 exact (star_pick this).2 H
theorem star_ins {α:Type} {g:α→It} {y:α} {xs:List α} {i:Nat} {F:List It} (h:i≤xs.length) (H:X.Own w0 S0 (g y :: starI (xs.map g) :: F) w):X.Own w0 S0 (starI ((X.ins xs i y).map g) :: F) w:=by
 have hl:(xs.take i).length = i:=by rw [List.length_take]; omega
 have h1:(X.ins xs i y)[i]? = some y:=by
  unfold X.ins
  rw [List.getElem?_append_right (by omega),hl]; simp
 have h2:(X.ins xs i y).eraseIdx i = xs:=by
  unfold X.ins
  rw [List.eraseIdx_append_of_length_le (by omega),hl]; simp
 have:=pick_at (g:=g) h1
 rw [h2] at this
 exact (star_pick this).2 H
theorem star_nil {L:List It} (H:X.Own w0 S0 L w):X.Own w0 S0 (starI [] :: L) w:=(own_iff fun S=>star_flat).2 H
end
def mapv {α β:Type} (f:α→β) (kv:List (Int×α)):List (Int×β):=kv.map fun x=>(x.1,f x.2)
section
variable {α β:Type} {f:α→β}
theorem mapv_ks (kv:List (Int×α)):ks (mapv f kv) = ks kv:=by unfold ks mapv; rw [List.map_map]; rfl
theorem mapv_at (kv:List (Int×α)) (k:Int):at' (mapv f kv) k = at' kv k:=by unfold at'; rw [mapv_ks]
theorem mapv_has (kv:List (Int×α)) (k:Int):hasK (mapv f kv) k = hasK kv k:=by unfold hasK; rw [mapv_ks,mapv_at]
theorem mapv_get {a:α} (kv:List (Int×α)) (k:Int) (h:hasK kv k = true) (b:β):getK b (mapv f kv) k = f (getK a kv k):=by
 have h1:=vs_at (d:=a) h
 have h2:=vs_at (d:=b) (kv:=mapv f kv) (k:=k) (by rw [mapv_has]; exact h)
 have e:vs (mapv f kv) = (vs kv).map f:=by unfold vs mapv; rw [List.map_map,List.map_map]; rfl
 rw [mapv_at,e,List.getElem?_map,h1] at h2
 exact (Option.some.inj h2).symm
theorem mapv_put (kv:List (Int×α)) (k:Int) (v:α):mapv f (putK kv k v) = putK (mapv f kv) k (f v):=by
 unfold putK
 rw [mapv_has,mapv_at]
 split
 · unfold mapv; simp [List.map_set]
 · unfold mapv; simp
theorem mapv_take (kv:List (Int×α)) (k:Int):mapv f (takeK kv k) = takeK (mapv f kv) k:=by
 unfold takeK
 rw [mapv_has,mapv_at]
 split
 · unfold mapv; simp [List.eraseIdx_eq_take_drop_succ]
 · rfl
theorem mapv_len (kv:List (Int×α)):(mapv f kv).length = kv.length:=by simp [mapv]
theorem kv_at {d:α} {kv:List (Int×α)} {k:Int} (h:hasK kv k = true):kv[at' kv k]? = some (k,getK d kv k):=by
 have h1:(ks kv)[at' kv k]? = some k:=of_decide_eq_true h
 have h2:=vs_at (d:=d) h
 have hl:=at_lt h
 unfold ks at h1
 unfold vs at h2
 rw [List.getElem?_map,List.getElem?_eq_getElem hl] at h1 h2
 rw [List.getElem?_eq_getElem hl]
 simp only [Option.map_some,Option.some.injEq] at h1 h2 ⊢
 exact Prod.ext h1 h2
def setK (kv:List (Int×α)) (k:Int) (v:α):List (Int×α):=kv.set (at' kv k) (k,v)
theorem setK_ks {kv:List (Int×α)} {k:Int} {v:α} (h:hasK kv k = true):ks (setK kv k v) = ks kv:=by
 have:=(putK_old (v:=v) h).1
 unfold putK at this
 rw [h,if_pos rfl] at this
 exact this
theorem setK_mapv {kv:List (Int×α)} {k:Int} {v:α} {d:α} (h:hasK kv k = true) (hf:f v = f (getK d kv k)):mapv f (setK kv k v) = mapv f kv:=by
 unfold mapv setK
 rw [List.map_set]
 have hl:=at_lt h
 have h1:=kv_at (d:=d) h
 apply List.ext_getElem?
 intro j
 rw [List.getElem?_set]
 split
 · rename_i e
   subst e
   rw [List.getElem?_map,h1]
   simp [hl,hf]
 · rfl
end
structure DvI where
 bits:Int
 ptr:Nat
 evs:List (Int×RtE)
def DvI.e (d:DvI):DvE:=⟨d.bits,some ⟨d.ptr,0,none⟩⟩
def dvi0:DvI:=⟨0,0,[]⟩
structure Vi where
 on:Bool
 st:Bool
 base:Int
 fit:Bool
 q:Qu
 devs:List (Int×DvI)
 colls:List (Int×Int)
abbrev Vi.cells (s:Vi) (bd bc:Nat):List Value:=[.bool s.on,.bool s.st,.int .u64 s.base,.bool s.fit,.int .i64 s.q.a,.int .i64 s.q.s,.int .i64 s.q.r,.int .i64 s.q.w,bptr bd,bptr bc]
noncomputable def evI (x:Int×DvI):It:=bookG ER tBookR x.2.ptr x.2.evs
noncomputable abbrev vL (b bd bc:Nat) (s:Vi):List It:=[row b (s.cells bd bc) tVits,bookG ED tBookD bd (mapv DvI.e s.devs),bookG EI tBookI bc s.colls,starI (s.devs.map evI)]
noncomputable def vitsI (b:Nat) (s:Vi):It:=exI (fun _:Nat×Nat=>True) fun a=>vL b a.1 a.2 s
section
variable {w w0:World} {S0:Nat→Prop}
theorem zzag {L F:List It} {b:Nat} {s:Vi} (H:X.Own w0 S0 L w) (hp:Pick L (vitsI b s) F):∃ bd bc,X.Own w0 S0 (row b (s.cells bd bc) tVits :: bookG ED tBookD bd (mapv DvI.e s.devs) :: bookG EI tBookI bc s.colls :: starI (s.devs.map evI) :: F) w:=by
 obtain ⟨⟨bd,bc⟩,_,H⟩:=ex_open H hp
 exact ⟨bd,bc,H⟩
theorem zzab {F:List It} {b bd bc:Nat} {s:Vi} (H:X.Own w0 S0 (row b (s.cells bd bc) tVits :: bookG ED tBookD bd (mapv DvI.e s.devs) :: bookG EI tBookI bc s.colls :: starI (s.devs.map evI) :: F) w):X.Own w0 S0 (vitsI b s :: F) w :=
 ex_shut (f:=fun a:Nat×Nat=>vL b a.1 a.2 s) (bd,bc) trivial H
end
structure Ch where
 k:Int
 d:Int
 e:Int
 n:Int
 f:Int
 t:Int
deriving DecidableEq
abbrev Ch.cells (c:Ch):List Value:=[.int .i64 c.k,.int .i64 c.d,.int .i64 c.e,.int .i64 c.n,.int .i64 c.f,.int .i64 c.t]
noncomputable abbrev EC:El P where
 α:=Ch
 enc:=Ch.cells
 z:=6
 ta:=tChanges
 te:=tChange
 bytes:=48
 zs:=[.int .i64 0,.int .i64 0,.int .i64 0,.int .i64 0,.int .i64 0,.int .i64 0]
 hT:=appChs
 hZ:=zeroCh
 hz1:=by simp [Value.oneCell']
 hlen:=fun _=>rfl
 h1:=by intro x u hu; simp only [Ch.cells,List.mem_cons,List.not_mem_nil,or_false] at hu; rcases hu with rfl | rfl | rfl | rfl | rfl | rfl <;> rfl
 hz:=by omega
 hb:=by omega
noncomputable abbrev chs (p:Option Addr) (c:Nat) (xs:List Ch):It:=els EC p c xs
def goesM (cs:List (Int×Int)) (c:Int):Int×Int:=if hasK cs c then (getK 0 cs c,0) else (0,183)
def Vi.dev (s:Vi) (dev:Int):DvI:=getK dvi0 s.devs dev
def routeM (s:Vi) (dev ev:Int):RtE×Int×Int :=
 if hasK s.devs dev then
  if hasK (s.dev dev).evs ev then
   if hasK s.colls (getK rt0 (s.dev dev).evs ev).coll then (getK rt0 (s.dev dev).evs ev,getK 0 s.colls (getK rt0 (s.dev dev).evs ev).coll,0) else (rt0,0,183)
  else (rt0,0,182)
 else (rt0,0,181)
def boundM (s:Vi) (dev ev:Int):Ch :=
 if (routeM s dev ev).2.2≠0 then ⟨2,dev,ev,0,0,0⟩ else ⟨1,dev,ev,(routeM s dev ev).1.num,0,(routeM s dev ev).2.1⟩
def Vi.evs (s:Vi) (dev:Int) (l:List (Int×RtE)):Vi:={ s with devs:=setK s.devs dev { s.dev dev with evs:=l } }
def forgetS (s:Vi) (dev ev:Int):Vi:=s.evs dev (takeK (s.dev dev).evs ev)
def forgetC (s:Vi) (dev ev:Int):List Ch :=
 (if (routeM s dev ev).2.2 = 0 then [⟨4,0,0,(routeM s dev ev).1.num,(routeM s dev ev).2.1,0⟩] else []) ++ [boundM (forgetS s dev ev) dev ev]
open Go Go.RowKit X
section
variable {w w0:World} {S0:Nat→Prop} {F:List It} {b bd bc:Nat} {s:Vi} {dev:Int}
theorem dev_at (h:hasK s.devs dev = true):s.devs[at' s.devs dev]? = some (dev,s.dev dev):=kv_at h
theorem dev_open (h:hasK s.devs dev = true) (H:X.Own w0 S0 (row b (s.cells bd bc) tVits :: bookG ED tBookD bd (mapv DvI.e s.devs) :: bookG EI tBookI bc s.colls :: starI (s.devs.map evI) :: F) w) :
 X.Own w0 S0 (bookG ER tBookR (s.dev dev).ptr (s.dev dev).evs :: row b (s.cells bd bc) tVits :: bookG ED tBookD bd (mapv DvI.e s.devs) :: bookG EI tBookI bc s.colls :: starI ((s.devs.eraseIdx (at' s.devs dev)).map evI) :: F) w:=by
 have H:=H.perm (L1:=[starI (s.devs.map evI)]) (F:=row b (s.cells bd bc) tVits :: bookG ED tBookD bd (mapv DvI.e s.devs) :: bookG EI tBookI bc s.colls :: F) (.cons (.there (.there (.there .here))) .nil)
 have H:=star_open (g:=evI) (dev_at h) H
 exact H.perm (L1:=[evI (dev,s.dev dev),row b (s.cells bd bc) tVits,bookG ED tBookD bd (mapv DvI.e s.devs),bookG EI tBookI bc s.colls,starI ((s.devs.eraseIdx (at' s.devs dev)).map evI)]) (F:=F)
  (.cons .here (.cons (.there .here) (.cons (.there .here) (.cons (.there .here) (.cons .here .nil)))))
theorem dev_back (h:hasK s.devs dev = true) (H:X.Own w0 S0 (bookG ER tBookR (s.dev dev).ptr (s.dev dev).evs :: row b (s.cells bd bc) tVits :: bookG ED tBookD bd (mapv DvI.e s.devs) :: bookG EI tBookI bc s.colls :: starI ((s.devs.eraseIdx (at' s.devs dev)).map evI) :: F) w) :
 X.Own w0 S0 (row b (s.cells bd bc) tVits :: bookG ED tBookD bd (mapv DvI.e s.devs) :: bookG EI tBookI bc s.colls :: starI (s.devs.map evI) :: F) w:=by
 have H:=H.perm (L1:=[evI (dev,s.dev dev),starI ((s.devs.eraseIdx (at' s.devs dev)).map evI)]) (F:=row b (s.cells bd bc) tVits :: bookG ED tBookD bd (mapv DvI.e s.devs) :: bookG EI tBookI bc s.colls :: F)
  (.cons .here (.cons (.there (.there (.there .here))) .nil))
 have H:=(star_pick (pick_at (g:=evI) (dev_at h))).2 H
 exact H.perm (L1:=[row b (s.cells bd bc) tVits,bookG ED tBookD bd (mapv DvI.e s.devs),bookG EI tBookI bc s.colls,starI (s.devs.map evI)]) (F:=F)
  (.cons (.there .here) (.cons (.there .here) (.cons (.there .here) (.cons .here .nil))))
theorem dev_set (h:hasK s.devs dev = true) {l:List (Int×RtE)} (H:X.Own w0 S0 (bookG ER tBookR (s.dev dev).ptr l :: row b (s.cells bd bc) tVits :: bookG ED tBookD bd (mapv DvI.e s.devs) :: bookG EI tBookI bc s.colls :: starI ((s.devs.eraseIdx (at' s.devs dev)).map evI) :: F) w) :
 X.Own w0 S0 (row b ((s.evs dev l).cells bd bc) tVits :: bookG ED tBookD bd (mapv DvI.e (s.evs dev l).devs) :: bookG EI tBookI bc (s.evs dev l).colls :: starI ((s.evs dev l).devs.map evI) :: F) w:=by
 have H:=H.perm (L1:=[evI (dev,{ s.dev dev with evs:=l }),starI ((s.devs.eraseIdx (at' s.devs dev)).map evI)]) (F:=row b (s.cells bd bc) tVits :: bookG ED tBookD bd (mapv DvI.e s.devs) :: bookG EI tBookI bc s.colls :: F)
  (.cons .here (.cons (.there (.there (.there .here))) .nil))
 have H:=star_shut (g:=evI) (at_lt h) H
 have e:mapv DvI.e (s.evs dev l).devs = mapv DvI.e s.devs:=setK_mapv (d:=dvi0) h rfl
 rw [e]
 exact H.perm (L1:=[row b (s.cells bd bc) tVits,bookG ED tBookD bd (mapv DvI.e s.devs),bookG EI tBookI bc s.colls,starI ((s.evs dev l).devs.map evI)]) (F:=F)
  (.cons (.there .here) (.cons (.there .here) (.cons (.there .here) (.cons .here .nil))))
end
def vi0:Vi:=⟨false,false,0,false,⟨0,0,0,0⟩,[],[]⟩
theorem VNew_t:Tri P F.zzgK [] [] fun v L'=>∃ b,v = ptr b∧L' = [vitsI b vi0]:=by
 intro w S hS
 refine zzmz ?_
 unfold zzgK
 have H:=Own.start hS
 refine call_oa H (new_d) fun vx L' wx hq H=>?_
 obtain ⟨bd,rfl,rfl⟩:=hq
 simp only [List.cons_append,List.nil_append] at H
 refine ⟨_,rfl,?_⟩
 refine call_oa H (new_i) fun vx L' wx hq H=>?_
 obtain ⟨bc,rfl,rfl⟩:=hq
 simp only [List.cons_append,List.nil_append] at H
 refine ⟨_,rfl,alc_o H fun b wx H=>?_⟩
 refine ⟨_,⟨b,rfl,rfl⟩,?_⟩
 have H:=star_nil H
 exact zzab (b:=b) (bd:=bd) (bc:=bc) (s:=vi0) (F:=[]) (H.drop (L1:=[row b (vi0.cells bd bc) tVits,bookG ED tBookD bd [],bookG EI tBookI bc [],starI []]) (by repeat (first | exact Cut.nil | (apply Cut.cons; (repeat (first | exact Pick.here | apply Pick.there))))))
theorem goes_t (b:Nat) (s:Vi) (c:Int):Tri P F.zza5 [ptr b,.int .i64 c] [vitsI b s] fun v L'=>v = .tuple [.int .i64 (goesM s.colls c).1,.int .i64 (goesM s.colls c).2].toArray∧L' = [vitsI b s]:=by
 intro w S hS
 refine zzlB ?_
 unfold zza5
 have H:=Own.start hS
 obtain ⟨bd,bc,H⟩:=zzag H .here
 dsimp only [nn]
 repeat (first | refine lIa H ?_ | refine lLa H ?_ | refine lBa H ?_ | refine lPa H ?_ | refine lSa H ?_)
 refine call_pa H (get_i bc s.colls c) fun wx H=>?_
 refine ⟨_,_,rfl,cnd_i (fun h=>?_) fun h=>?_⟩
 · have h:hasK s.colls c = false:=by simpa using h
   exact ⟨_,⟨by unfold goesM; rw [h]; rfl,rfl⟩,zzab H⟩
 · have h:hasK s.colls c = true:=by simpa using h
   exact ⟨_,⟨by unfold goesM; rw [h]; rfl,rfl⟩,zzab H⟩
def rtV (x:RtE):Value:=.agg [.int .i64 x.num,.int .i64 x.coll,.bool x.val].toArray
def routeV (s:Vi) (dev ev:Int):Value:=.tuple [rtV (routeM s dev ev).1,.int .i64 (routeM s dev ev).2.1,.int .i64 (routeM s dev ev).2.2].toArray
theorem dev_get {s:Vi} {dev:Int} (h:hasK s.devs dev = true):getK dv0 (mapv DvI.e s.devs) dev = (s.dev dev).e:=mapv_get s.devs dev h dv0
theorem Route_t (b:Nat) (s:Vi) (dev ev:Int):Tri P F.zzbH [ptr b,.int .i64 dev,.int .i64 ev] [vitsI b s] fun v L'=>v = routeV s dev ev∧L' = [vitsI b s]:=by
 intro w S hS
 refine zzkV ?_
 unfold zzbH
 have H:=Own.start hS
 refine alc_o H fun b4 wx H=>?_
 obtain ⟨bd,bc,H⟩:=zzag H (by repeat (first | exact Pick.here | apply Pick.there))
 dsimp only [nn]
 repeat (first | refine lIa H ?_ | refine lLa H ?_ | refine lBa H ?_ | refine lPa H ?_ | refine lSa H ?_)
 refine call_pa H (get_d bd (mapv DvI.e s.devs) dev) fun wx H=>?_
 rw [mapv_has]
 refine ⟨_,_,_,rfl,alc_o H fun b13 wx H=>?_⟩
 iterate 2 refine sta H fun wx H=>?_
 refine cnd_i (fun h=>?_) fun h=>?_
 · have h:hasK s.devs dev = false:=by simpa using h
   iterate 3 refine sta H fun wx H=>?_
   repeat (first | refine lIa H ?_ | refine lLa H ?_ | refine lBa H ?_ | refine lPa H ?_ | refine lSa H ?_)
   have H:=H.drop (L1:=[row b (s.cells bd bc) tVits,bookG ED tBookD bd (mapv DvI.e s.devs),bookG EI tBookI bc s.colls,starI (s.devs.map evI)]) (by repeat (first | exact Cut.nil | (apply Cut.cons; (repeat (first | exact Pick.here | apply Pick.there)))))
   exact ⟨_,⟨by unfold routeV routeM; rw [h]; rfl,rfl⟩,zzab H⟩
 · have h:hasK s.devs dev = true:=by simpa using h
   rw [dev_get h] at H
   have H:=H.perm (L1:=[row b (s.cells bd bc) tVits,bookG ED tBookD bd (mapv DvI.e s.devs),bookG EI tBookI bc s.colls,starI (s.devs.map evI)]) (by repeat (first | exact Cut.nil | (apply Cut.cons; (repeat (first | exact Pick.here | apply Pick.there)))))
   simp only [List.cons_append,List.nil_append] at H
   have H:=dev_open h H
   repeat (first | refine lIa H ?_ | refine lLa H ?_ | refine lBa H ?_ | refine lPa H ?_ | refine lSa H ?_)
   refine call_p H (get_r (s.dev dev).ptr (s.dev dev).evs ev) (by repeat (first | exact Cut.nil | (apply Cut.cons; (repeat (first | exact Pick.here | apply Pick.there))))) fun wx H=>?_
   have H:=dev_back h H
   refine ⟨_,_,_,_,rfl,alc_o H fun b30 wx H=>?_⟩
   iterate 3 refine sta H fun wx H=>?_
   refine cnd_i (fun h2=>?_) fun h2=>?_
   · have h2:hasK (s.dev dev).evs ev = false:=by simpa using h2
     iterate 3 refine sta H fun wx H=>?_
     repeat (first | refine lIa H ?_ | refine lLa H ?_ | refine lBa H ?_ | refine lPa H ?_ | refine lSa H ?_)
     have H:=H.drop (L1:=[row b (s.cells bd bc) tVits,bookG ED tBookD bd (mapv DvI.e s.devs),bookG EI tBookI bc s.colls,starI (s.devs.map evI)]) (by repeat (first | exact Cut.nil | (apply Cut.cons; (repeat (first | exact Pick.here | apply Pick.there)))))
     exact ⟨_,⟨by unfold routeV routeM; rw [h,h2]; rfl,rfl⟩,zzab H⟩
   · have h2:hasK (s.dev dev).evs ev = true:=by simpa using h2
     have H:=H.perm (L1:=[row b (s.cells bd bc) tVits,bookG ED tBookD bd (mapv DvI.e s.devs),bookG EI tBookI bc s.colls,starI (s.devs.map evI)]) (by repeat (first | exact Cut.nil | (apply Cut.cons; (repeat (first | exact Pick.here | apply Pick.there)))))
     simp only [List.cons_append,List.nil_append] at H
     have H:=zzab H
     repeat (first | refine lIa H ?_ | refine lLa H ?_ | refine lBa H ?_ | refine lPa H ?_ | refine lSa H ?_)
     refine call_pa H (goes_t b s (getK rt0 (s.dev dev).evs ev).coll) fun wx H=>?_
     refine ⟨_,_,rfl,cnd_i (fun h3=>?_) fun h3=>?_⟩
     · have h3':hasK s.colls (getK rt0 (s.dev dev).evs ev).coll = false:=by
        cases hc:hasK s.colls (getK rt0 (s.dev dev).evs ev).coll
        · rfl
        · unfold goesM at h3; rw [hc] at h3; simp at h3
       iterate 3 refine sta H fun wx H=>?_
       repeat (first | refine lIa H ?_ | refine lLa H ?_ | refine lBa H ?_ | refine lPa H ?_ | refine lSa H ?_)
       exact ⟨_,⟨by unfold routeV routeM goesM; rw [h,h2,h3']; rfl,rfl⟩,H.dp⟩
     · have h3':hasK s.colls (getK rt0 (s.dev dev).evs ev).coll = true:=by
        cases hc:hasK s.colls (getK rt0 (s.dev dev).evs ev).coll
        · unfold goesM at h3; rw [hc] at h3; simp at h3
        · rfl
       repeat (first | refine lIa H ?_ | refine lLa H ?_ | refine lBa H ?_ | refine lPa H ?_ | refine lSa H ?_)
       iterate 3 refine sta H fun wx H=>?_
       repeat (first | refine lIa H ?_ | refine lLa H ?_ | refine lBa H ?_ | refine lPa H ?_ | refine lSa H ?_)
       exact ⟨_,⟨by unfold routeV routeM goesM; rw [h,h2,h3']; rfl,rfl⟩,H.dp⟩
def chV (c:Ch):Value:=.agg [.int .i64 c.k,.int .i64 c.d,.int .i64 c.e,.int .i64 c.n,.int .i64 c.f,.int .i64 c.t].toArray
theorem bound_t (b:Nat) (s:Vi) (dev ev:Int):Tri P F.zzbc [ptr b,.int .i64 dev,.int .i64 ev] [vitsI b s] fun v L'=>v = chV (boundM s dev ev)∧L' = [vitsI b s]:=by
 intro w S hS
 refine zzlf ?_
 unfold zzbc
 have H:=Own.start hS
 refine alc_o H fun b4 wx H=>?_
 refine call_pa H (Route_t b s dev ev) fun wx H=>?_
 refine ⟨_,_,_,_,_,rfl,alc_o H fun b13 wx H=>?_⟩
 iterate 3 refine sta H fun wx H=>?_
 refine cnd_i (fun h=>?_) fun h=>?_
 · have h:(routeM s dev ev).2.2≠0:=by simpa using h
   iterate 6 refine sta H fun wx H=>?_
   repeat (first | refine lIa H ?_ | refine lLa H ?_ | refine lBa H ?_ | refine lPa H ?_ | refine lSa H ?_)
   exact ⟨_,⟨by unfold boundM; rw [if_pos h]; rfl,rfl⟩,H.dp⟩
 · have h:(routeM s dev ev).2.2 = 0:=by simpa using h
   repeat (first | refine lIa H ?_ | refine lLa H ?_ | refine lBa H ?_ | refine lPa H ?_ | refine lSa H ?_)
   iterate 6 refine sta H fun wx H=>?_
   repeat (first | refine lIa H ?_ | refine lLa H ?_ | refine lBa H ?_ | refine lPa H ?_ | refine lSa H ?_)
   exact ⟨_,⟨by unfold boundM; rw [if_neg (by rw [h]; simp)]; rfl,rfl⟩,H.dp⟩
def GoodP (len:Nat) (a s off:Int):Prop:=0≤a∧a + s≤len∧len≤131072∧0≤off∧off % 8 = 0∧off + 32≤s
theorem offK_eq {off:Int} (h0:0≤off) (h1:off≤131072) {k:Nat} (hk:k < 4):offK off k = off + 8 * (k:Int):=by
 unfold offK
 rw [W_id (n:=8 * (k:Int)) (by omega) (by omega),W_id (by omega) (by omega)]
theorem GoodP.holds {len:Nat} {a s off:Int} (h:GoodP len a s off):holdsB len a s = true:=by
 obtain ⟨h1,h2,h3,h4,h5,h6⟩:=h
 rw [holdsB_iff]; omega
theorem GoodP.err {len:Nat} {a s off:Int} (h:GoodP len a s off) {k:Nat} (hk:k < 4):errE len a s (offK off k) 8 = 0:=by
 have hh:=h.holds
 obtain ⟨h1,h2,h3,h4,h5,h6⟩:=h
 rw [offK_eq h4 (by omega) hk]
 unfold errE
 rw [if_pos hh]
 unfold mayE
 rw [if_neg (by omega),if_neg,if_neg]
 · rw [W_id (by omega) (by omega)]; omega
 · rw [Classical.not_not,Int.tmod_eq_emod_of_nonneg (by omega)]; omega
theorem GoodP.may {len:Nat} {a s off:Int} (h:GoodP len a s off):¬ (mayE s off 8≠0∨off > IntKind.i64.wrap (s - 32)∨holdsB len a s = false):=by
 have hh:=h.holds
 have he:=h.err (k:=0) (by omega)
 obtain ⟨h1,h2,h3,h4,h5,h6⟩:=h
 rw [offK_eq h4 (by omega) (by omega)] at he
 unfold errE at he
 rw [if_pos hh] at he
 have e:off + 8 * ((0:Nat):Int) = off:=by omega
 rw [e] at he
 rw [W_id (by omega) (by omega),hh,he]
 simp
 omega
theorem storeE_good {len:Nat} {a s off:Int} (h:GoodP len a s off) (c:Cm):storeE len a s off c = if (encM c).isSome then 0 else 160:=by
 unfold storeE
 cases encM c with
 | none=>rfl
 | some ws=>dsimp only; rw [if_neg h.may]; rfl
theorem storeM_none {bs:List Int} {a s off:Int} {c:Cm} (h:encM c = none):storeM bs a s off c = bs:=by unfold storeM; rw [h]
theorem storeM_some {bs:List Int} {a s off:Int} {c:Cm} {ws:List Int} (h:encM c = some ws) (hg:GoodP bs.length a s off):storeM bs a s off c = stW bs a s off ws 4:=by
 unfold storeM
 rw [h]
 dsimp only
 rw [if_neg hg.may]
theorem storeM_length (bs:List Int) (a s off:Int) (c:Cm):(storeM bs a s off c).length = bs.length:=by
 unfold storeM
 cases encM c with
 | none=>rfl
 | some ws =>
  dsimp only
  split
  · rfl
  · exact stW_length _ _ _ _ _ _
theorem cut_wr_ne {bs:List Int} {k k' n n':Nat} (v:Int) (h:k' + n'≤k∨k + n≤k'):cut (wr bs k v n) k' n' = cut bs k' n':=by
 apply List.ext_getElem?
 intro j
 simp only [cut,List.getElem?_take,List.getElem?_drop,wr_get]
 by_cases hj:j < n'
 · rw [if_pos hj,if_neg (by omega),if_pos hj]
 · rw [if_neg hj,if_neg hj]
theorem stW_next {bs:List Int} {a s off:Int} (hg:GoodP bs.length a s off) (ws:List Int) {k:Nat} (hk:k < 4):stW bs a s off ws (k + 1) = wr (stW bs a s off ws k) (a + (off + 8 * (k:Int))).toNat (ws.getD k 0) 8:=by
 rw [stW,writeM,stW_length,if_pos (hg.err hk),offK_eq hg.2.2.2.1 (by obtain ⟨h1,h2,h3,h4,h5,h6⟩:=hg; omega) hk]
 rfl
open Go Go.RowKit X
def NC:Nat:=2199023255552
theorem app_els {E:El P} {w w0:World} {S0:Nat→Prop} {L F F2:List It} {p:Option Addr} {c b m c2:Nat} {xs ys:List E.α} {t ty:TypeId} (H:X.Own w0 S0 L w) (hp:Pick L (els E p c xs) F) (hq:Pick L (row b (E.flat ys) t) F2) (hm:m = ys.length)
 (hl:(xs.length + ys.length) * E.bytes≤140737488355328) (hl2:xs.length + ys.length≤NB) {K:Option Addr→Nat→Nat→World→Prop}
 (k:∀ p' c' w',X.Own w0 S0 (els E p' c' (xs ++ ys) :: F) w'→K p' (xs ++ ys).length c' w') :
 runS P (Builtin.append_ #[E.ta,E.ta] ty [.slice p xs.length c,.slice (some ⟨b,0,none⟩) m c2].toArray) w K:=by
 subst hm
 unfold NB at hl2
 refine app_o E.hT E.hz H hp (row_slZ (k:=0) H hq) (El.flat_len ys) (El.flat_one ys) (by unfold maxLen; omega) hl fun p' c' w' H=>?_
 have:=k p' c' w' (by unfold els; rw [List.length_append,El.flat_app]; exact H)
 rw [List.length_append] at this
 exact this
theorem app_ch {w w0:World} {S0:Nat→Prop} {L F F2:List It} {p:Option Addr} {c b:Nat} {xs:List Ch} {x:Ch} {t ty:TypeId} {c2:Nat} (H:X.Own w0 S0 L w) (hp:Pick L (chs p c xs) F) (hq:Pick L (row b x.cells t) F2) (hl:xs.length < NC) {K:Option Addr→Nat→Nat→World→Prop}
 (k:∀ p' c' w',X.Own w0 S0 (chs p' c' (xs ++ [x]) :: F) w'→K p' (xs ++ [x]).length c' w') :
 runS P (Builtin.append_ #[tChanges,tChanges] ty [.slice p xs.length c,.slice (some ⟨b,0,none⟩) 1 c2].toArray) w K:=by
 unfold NC at hl
 refine app_els (E:=EC) (ys:=[x]) H hp (F2:=F2) (b:=b) (t:=t) ?_ rfl ?_ ?_ k
 · show Pick L (row b (x.cells ++ []) t) F2
   rw [List.append_nil]; exact hq
 · show (xs.length + 1) * 48≤_; omega
 · show xs.length + 1≤NB; unfold NB; omega
theorem chs_nil {w w0:World} {S0:Nat→Prop} {L:List It} (H:X.Own w0 S0 L w):X.Own w0 S0 (chs none 0 [] :: L) w:=own_nil H
theorem ev_has {s:Vi} {dev:Int} {l:List (Int×RtE)} (h:hasK s.devs dev = true):hasK (s.evs dev l).devs dev = true:=by
 unfold hasK at *
 show decide ((ks (setK s.devs dev _))[at' (setK s.devs dev _) dev]? = some dev) = true
 unfold at' at *
 rw [setK_ks h]; exact h
theorem forget_t (b:Nat) (s:Vi) (dev ev:Int) (h:hasK s.devs dev = true):Tri P F.zzbo [ptr b,.int .i64 dev,.int .i64 ev] [vitsI b s] fun v L'=>∃ p c,v = .slice p (forgetC s dev ev).length c∧L' = [chs p c (forgetC s dev ev),vitsI b (forgetS s dev ev)]:=by
 intro w S hS
 refine zzkG ?_
 unfold zzbo
 have H:=Own.start hS
 have fin:∀ (p:Option Addr) (c:Nat) (wx:World) (xs:List Ch),xs = (if (routeM s dev ev).2.2 = 0 then [⟨4,0,0,(routeM s dev ev).1.num,(routeM s dev ev).2.1,0⟩] else [])→X.Own w S [chs p c xs,vitsI b s] wx →
  zzfc (some ⟨b,0,none⟩) dev ev (fun v w'=>∃ L',(∃ p c,v = .slice p (forgetC s dev ev).length c∧L' = [chs p c (forgetC s dev ev),vitsI b (forgetS s dev ev)])∧X.Own w S L' w') p xs.length c wx:=by
  intro p c wx xs hxs H
  have hxl:xs.length≤1:=by rw [hxs]; split <;> simp
  unfold zzfc
  obtain ⟨bd,bc,H⟩:=zzag H (by repeat (first | exact Pick.here | apply Pick.there))
  dsimp only [nn]
  repeat (first | refine lIa H ?_ | refine lLa H ?_ | refine lBa H ?_ | refine lPa H ?_ | refine lSa H ?_)
  refine call_pa H (get_d bd (mapv DvI.e s.devs) dev) fun wx H=>?_
  rw [mapv_has,dev_get h]
  refine ⟨_,_,_,rfl,alc_o H fun b18 wx H=>?_⟩
  iterate 2 refine sta H fun wx H=>?_
  repeat (first | refine lIa H ?_ | refine lLa H ?_ | refine lBa H ?_ | refine lPa H ?_ | refine lSa H ?_)
  have H:=H.perm (L1:=[row b (s.cells bd bc) tVits,bookG ED tBookD bd (mapv DvI.e s.devs),bookG EI tBookI bc s.colls,starI (s.devs.map evI)]) (by repeat (first | exact Cut.nil | (apply Cut.cons; (repeat (first | exact Pick.here | apply Pick.there)))))
  simp only [List.cons_append,List.nil_append] at H
  have H:=dev_open h H
  refine call_o H (take_r (s.dev dev).ptr (s.dev dev).evs ev) (by repeat (first | exact Cut.nil | (apply Cut.cons; (repeat (first | exact Pick.here | apply Pick.there))))) fun vx L' wx hq H=>?_
  obtain ⟨rfl,rfl⟩:=hq
  simp only [List.cons_append,List.nil_append] at H
  have H:=H.perm (L1:=[bookG ER tBookR (s.dev dev).ptr (takeK (s.dev dev).evs ev),row b (s.cells bd bc) tVits,bookG ED tBookD bd (mapv DvI.e s.devs),bookG EI tBookI bc s.colls,starI ((s.devs.eraseIdx (at' s.devs dev)).map evI)]) (by repeat (first | exact Cut.nil | (apply Cut.cons; (repeat (first | exact Pick.here | apply Pick.there)))))
  simp only [List.cons_append,List.nil_append] at H
  have H:=zzab (dev_set h H)
  refine ⟨_,_,_,_,rfl,?_⟩
  refine call_p H (bound_t b (forgetS s dev ev) dev ev) (by repeat (first | exact Cut.nil | (apply Cut.cons; (repeat (first | exact Pick.here | apply Pick.there))))) fun wx H=>?_
  refine ⟨_,_,_,_,_,_,rfl,alc_o H fun b37 wx H=>?_⟩
  refine app_ch (x:=boundM (forgetS s dev ev) dev ev) H (xs:=xs) (by repeat (first | exact Pick.here | apply Pick.there)) (by repeat (first | exact Pick.here | apply Pick.there)) (by unfold NC; omega) fun p' c' w' H=>?_
  have e:xs ++ [boundM (forgetS s dev ev) dev ev] = forgetC s dev ev:=by rw [hxs]; rfl
  rw [e] at H ⊢
  exact ⟨_,⟨p',c',rfl,rfl⟩,H.dp⟩
 refine join_o ?_
 refine call_pa H (Route_t b s dev ev) fun wx H=>?_
 refine ⟨_,_,_,_,_,rfl,alc_o H fun b51 wx H=>?_⟩
 iterate 3 refine sta H fun wx H=>?_
 refine cnd_i (fun h2=>?_) fun h2=>?_
 · have h2:(routeM s dev ev).2.2 = 0:=by simpa using h2
   repeat (first | refine lIa H ?_ | refine lLa H ?_ | refine lBa H ?_ | refine lPa H ?_ | refine lSa H ?_)
   refine alc_o H fun b57 wx H=>?_
   have H:=chs_nil H
   refine app_ch (x:=⟨4,0,0,(routeM s dev ev).1.num,(routeM s dev ev).2.1,0⟩) (xs:=[]) H .here (by repeat (first | exact Pick.here | apply Pick.there)) (by unfold NC; simp) fun p' c' w' H=>?_
   exact fin p' c' w' _ (by rw [if_pos h2]; rfl) (H.dp)
 · have h2:¬ (routeM s dev ev).2.2 = 0:=by simpa using h2
   have H:=chs_nil H
   exact fin none 0 _ [] (by rw [if_neg h2]) (H.dp)
def evN (bits:Int):Int:=IntKind.i64.wrap (2 * 2 ^ min (Int.toNat bits) (IntKind.i64.bits))
def maptiM (s:Vi) (c:Cm) (n lpis:Int):List Ch×Vi×Int :=
 if hasK s.devs c.dev = false then ([],s,181)
 else if c.ev≥evN (s.dev c.dev).bits then ([],s,182)
 else if n < 8192∨IntKind.i64.wrap (n - 8192)≥lpis then ([],s,150)
 else if c.coll≥8 then ([],s,183)
 else
  let a:List Ch×Vi:=if hasK (s.dev c.dev).evs c.ev then (forgetC s c.dev c.ev,forgetS s c.dev c.ev) else ([],s)
  let s2:=a.2.evs c.dev (putK (a.2.dev c.dev).evs c.ev ⟨n,c.coll,true⟩)
  (a.1 ++ [boundM s2 c.dev c.ev,⟨7,0,0,n,0,0⟩],s2,0)
def moviM (s:Vi) (c:Cm):List Ch×Vi×Int :=
 if hasK s.devs c.dev = false then ([],s,181)
 else if hasK (s.dev c.dev).evs c.ev = false then ([],s,182)
 else if (goesM s.colls c.coll).2≠0 then ([],s,(goesM s.colls c.coll).2)
 else
  let x:=getK rt0 (s.dev c.dev).evs c.ev
  let s2:=s.evs c.dev (putK (s.dev c.dev).evs c.ev { x with coll:=c.coll })
  ((if (goesM s.colls x.coll).2 = 0 then [⟨5,0,0,x.num,(goesM s.colls x.coll).1,(goesM s.colls c.coll).1⟩] else []) ++ [boundM s2 c.dev c.ev],s2,0)
def eventM (s:Vi) (c:Cm):List Ch×Vi×Int :=
 if hasK s.devs c.dev = false then ([],s,181)
 else if hasK (s.dev c.dev).evs c.ev = false then ([],s,182)
 else
  let x:=getK rt0 (s.dev c.dev).evs c.ev
  if c.op = 15 then (forgetC s c.dev c.ev,forgetS s c.dev c.ev,0)
  else if c.op = 12 then ([⟨7,0,0,x.num,0,0⟩],s,0)
  else if (goesM s.colls x.coll).2≠0 then ([],s,(goesM s.colls x.coll).2)
  else if c.op = 3 then ([⟨3,0,0,x.num,0,(goesM s.colls x.coll).1⟩],s,0)
  else ([⟨4,0,0,x.num,(goesM s.colls x.coll).1,0⟩],s,0)
def ToldAs (b:Nat) (M:List Ch×Vi×Int) (v:Value) (L':List It):Prop:=∃ p c,v = .tuple [.slice p M.1.length c,.int .i64 M.2.2].toArray∧L' = [chs p c M.1,vitsI b M.2.1]
theorem told_err {b:Nat} {s:Vi} {e:Int} {w w0:World} {S0:Nat→Prop} (H:X.Own w0 S0 [vitsI b s] w):∃ L',ToldAs b ([],s,e) (.tuple [.slice none 0 0,.int .i64 e].toArray) L'∧X.Own w0 S0 L' w:=⟨_,⟨none,0,rfl,rfl⟩,chs_nil H⟩
theorem told_one {b b1:Nat} {s:Vi} {x:Ch} {w w0:World} {S0:Nat→Prop} {L F:List It} (H:X.Own w0 S0 L w) (hp:Pick L (row b1 x.cells tChange) [vitsI b s]):∃ L',ToldAs b ([x],s,0) (.tuple [.slice (some ⟨b1,0,none⟩) 1 1,.int .i64 0].toArray) L'∧X.Own w0 S0 L' w:=by
 refine ⟨_,⟨some ⟨b1,0,none⟩,1,rfl,rfl⟩,?_⟩
 have H1:X.Own w0 S0 (row b1 x.cells tChange :: [vitsI b s]) w:=let ⟨S,h1,h2⟩:=H; ⟨S,hp.iff.1 h1,h2⟩
 exact els_shut (E:=EC) (c:=1) (xs:=[x]) H1 rfl rfl (by simp) (by unfold maxLen; omega) rfl
theorem event_t (b:Nat) (s:Vi) (c:Cm):Tri P F.zzcS [ptr b,cmV c] [vitsI b s] (ToldAs b (eventM s c)):=by
 intro w S hS
 refine zzla ?_
 unfold zzcS
 have H:=Own.start hS
 refine alc_o H fun b11 wx H=>join_o ?_
 have fin:∀ (b15 bd bc:Nat) (wx:World),X.Own w S [row b15 [.int .i64 (getK dv0 (mapv DvI.e s.devs) c.dev).bits,.pointer (getK dv0 (mapv DvI.e s.devs) c.dev).ptr] tDevice,row b11 c.cells tCmd,vitsI b s] wx →
  zzfE (some ⟨b,0,none⟩) (fun v w'=>∃ L',ToldAs b (eventM s c) v L'∧X.Own w S L' w') b11 b15 (hasK s.devs c.dev) wx:=by
  intro b15 bd bc wx H
  unfold zzfE
  refine cnd_i (fun h=>?_) fun h=>?_
  · have h:hasK s.devs c.dev = false:=by simpa using h
    have e:eventM s c = ([],s,181):=by unfold eventM; rw [if_pos h]
    rw [e]
    exact told_err (H.dp)
  have h:hasK s.devs c.dev = true:=by simpa using h
  rw [dev_get h] at H
  repeat (first | refine lIa H ?_ | refine lLa H ?_ | refine lBa H ?_ | refine lPa H ?_ | refine lSa H ?_)
  obtain ⟨bd,bc,H⟩:=zzag H (by repeat (first | exact Pick.here | apply Pick.there))
  have H:=dev_open h H
  refine call_p H (get_r (s.dev c.dev).ptr (s.dev c.dev).evs c.ev) (by repeat (first | exact Cut.nil | (apply Cut.cons; (repeat (first | exact Pick.here | apply Pick.there))))) fun wx H=>?_
  have H:=zzab (dev_back h H)
  refine ⟨_,_,_,_,rfl,alc_o H fun b26 wx H=>?_⟩
  iterate 3 refine sta H fun wx H=>?_
  refine cnd_i (fun h2=>?_) fun h2=>?_
  · have h2:hasK (s.dev c.dev).evs c.ev = false:=by simpa using h2
    have e:eventM s c = ([],s,182):=by unfold eventM; rw [if_neg (by rw [h]; simp),if_pos h2]
    rw [e]
    exact told_err (H.dp)
  have h2:hasK (s.dev c.dev).evs c.ev = true:=by simpa using h2
  have e0:eventM s c = (let x:=getK rt0 (s.dev c.dev).evs c.ev
   if c.op = 15 then (forgetC s c.dev c.ev,forgetS s c.dev c.ev,0)
   else if c.op = 12 then ([⟨7,0,0,x.num,0,0⟩],s,0)
   else if (goesM s.colls x.coll).2≠0 then ([],s,(goesM s.colls x.coll).2)
   else if c.op = 3 then ([⟨3,0,0,x.num,0,(goesM s.colls x.coll).1⟩],s,0)
   else ([⟨4,0,0,x.num,(goesM s.colls x.coll).1,0⟩],s,0)):=by unfold eventM; rw [if_neg (by rw [h]; simp),if_neg (by rw [h2]; simp)]
  dsimp only at e0
  rw [e0]
  repeat (first | refine lIa H ?_ | refine lLa H ?_ | refine lBa H ?_ | refine lPa H ?_ | refine lSa H ?_)
  refine call_pa H (goes_t b s (getK rt0 (s.dev c.dev).evs c.ev).coll) fun wx H=>?_
  refine ⟨_,_,rfl,?_⟩
  repeat (first | refine lIa H ?_ | refine lLa H ?_ | refine lBa H ?_ | refine lPa H ?_ | refine lSa H ?_)
  refine cnd_i (fun h3=>?_) fun h3=>?_
  · have h3:c.op = 15:=by simpa using h3
    rw [if_pos h3]
    repeat (first | refine lIa H ?_ | refine lLa H ?_ | refine lBa H ?_ | refine lPa H ?_ | refine lSa H ?_)
    refine call_oa H (forget_t b s c.dev c.ev h) fun vx L' wx hq H=>?_
    obtain ⟨p,cc,rfl,rfl⟩:=hq
    simp only [List.cons_append,List.nil_append] at H
    exact ⟨_,_,_,rfl,_,⟨p,cc,rfl,rfl⟩,H.dp⟩
  have h3:c.op≠15:=by simpa using h3
  rw [if_neg h3]
  repeat (first | refine lIa H ?_ | refine lLa H ?_ | refine lBa H ?_ | refine lPa H ?_ | refine lSa H ?_)
  refine cnd_i (fun h4=>?_) fun h4=>?_
  · have h4:c.op = 12:=by simpa using h4
    rw [if_pos h4]
    repeat (first | refine lIa H ?_ | refine lLa H ?_ | refine lBa H ?_ | refine lPa H ?_ | refine lSa H ?_)
    refine alc_o H fun b46 wx H=>?_
    exact told_one (x:=⟨7,0,0,(getK rt0 (s.dev c.dev).evs c.ev).num,0,0⟩) (F:=[]) (H.drop (L1:=[row b46 _ tChange,vitsI b s]) (by repeat (first | exact Cut.nil | (apply Cut.cons; (repeat (first | exact Pick.here | apply Pick.there)))))) .here
  have h4:c.op≠12:=by simpa using h4
  rw [if_neg h4]
  refine cnd_i (fun h5=>?_) fun h5=>?_
  · rw [if_pos (by simpa using h5)]
    exact told_err (H.dp)
  rw [if_neg (by simpa using h5)]
  repeat (first | refine lIa H ?_ | refine lLa H ?_ | refine lBa H ?_ | refine lPa H ?_ | refine lSa H ?_)
  refine cnd_i (fun h6=>?_) fun h6=>?_
  · have h6:c.op = 3:=by simpa using h6
    rw [if_pos h6]
    repeat (first | refine lIa H ?_ | refine lLa H ?_ | refine lBa H ?_ | refine lPa H ?_ | refine lSa H ?_)
    refine alc_o H fun b46 wx H=>?_
    exact told_one (x:=⟨3,0,0,(getK rt0 (s.dev c.dev).evs c.ev).num,0,(goesM s.colls (getK rt0 (s.dev c.dev).evs c.ev).coll).1⟩) (F:=[]) (H.drop (L1:=[row b46 _ tChange,vitsI b s]) (by repeat (first | exact Cut.nil | (apply Cut.cons; (repeat (first | exact Pick.here | apply Pick.there)))))) .here
  · have h6:c.op≠3:=by simpa using h6
    rw [if_neg h6]
    repeat (first | refine lIa H ?_ | refine lLa H ?_ | refine lBa H ?_ | refine lPa H ?_ | refine lSa H ?_)
    refine alc_o H fun b46 wx H=>?_
    exact told_one (x:=⟨4,0,0,(getK rt0 (s.dev c.dev).evs c.ev).num,(goesM s.colls (getK rt0 (s.dev c.dev).evs c.ev).coll).1,0⟩) (F:=[]) (H.drop (L1:=[row b46 _ tChange,vitsI b s]) (by repeat (first | exact Cut.nil | (apply Cut.cons; (repeat (first | exact Pick.here | apply Pick.there)))))) .here
 obtain ⟨bd,bc,H⟩:=zzag H (by repeat (first | exact Pick.here | apply Pick.there))
 refine drw_o H fun wx H=>?_
 dsimp only [nn]
 repeat (first | refine lIa H ?_ | refine lLa H ?_ | refine lBa H ?_ | refine lPa H ?_ | refine lSa H ?_)
 refine ⟨?_,?_⟩
 · refine call_pa H (get_d bd (mapv DvI.e s.devs) c.dev) fun wx H=>?_
   rw [mapv_has]
   refine ⟨_,_,_,rfl,alc_o H fun b65 wx H=>⟨?_,?_,?_⟩⟩
   · repeat (first | refine lIa H ?_ | refine lLa H ?_ | refine lBa H ?_ | refine lPa H ?_ | refine lSa H ?_)
     rfl
   · repeat (first | refine lIa H ?_ | refine lLa H ?_ | refine lBa H ?_ | refine lPa H ?_ | refine lSa H ?_)
     rfl
   iterate 2 refine sta H fun wx H=>?_
   have H:=zzab (H.perm (L1:=[row b (s.cells bd bc) tVits,bookG ED tBookD bd (mapv DvI.e s.devs),bookG EI tBookI bc s.colls,starI (s.devs.map evI)]) (by repeat (first | exact Cut.nil | (apply Cut.cons; (repeat (first | exact Pick.here | apply Pick.there))))))
   exact fin b65 bd bc _ (H.dp)
 · refine alc_o H fun b71 wx H=>⟨?_,?_,?_⟩
   · repeat (first | refine lIa H ?_ | refine lLa H ?_ | refine lBa H ?_ | refine lPa H ?_ | refine lSa H ?_)
     rfl
   · repeat (first | refine lIa H ?_ | refine lLa H ?_ | refine lBa H ?_ | refine lPa H ?_ | refine lSa H ?_)
     rfl
   refine call_pa H (get_d bd (mapv DvI.e s.devs) c.dev) fun wx H=>?_
   rw [mapv_has]
   refine ⟨_,_,_,rfl,?_⟩
   iterate 2 refine sta H fun wx H=>?_
   have H:=zzab (H.perm (L1:=[row b (s.cells bd bc) tVits,bookG ED tBookD bd (mapv DvI.e s.devs),bookG EI tBookI bc s.colls,starI (s.devs.map evI)]) (by repeat (first | exact Cut.nil | (apply Cut.cons; (repeat (first | exact Pick.here | apply Pick.there))))))
   exact fin b71 bd bc _ (H.dp)
end Go.Proofs.YtidcijbnbdemeaaGreat
