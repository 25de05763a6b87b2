/-
  The walks and the laws beneath the statement: part 6.
-/
import Derived.Test.YtidcijbnbdemeaaGreatSae
set_option maxRecDepth 100000
set_option linter.unusedVariables false
set_option linter.unusedSimpArgs false
set_option maxHeartbeats 4000000
namespace Go.Proofs.YtidcijbnbdemeaaGreat
open Go Go.RowKit X
section
variable {w w0:World} {S0:Nat→Prop}
def starI (L:List It):It where
 h:=fun w S=>Sep L w S
 loc:=fun h hw hz=>h.loc hw hz
 lt:=fun h k hk=>h.lt k hk
theorem star_flat {L F:List It} {S:Nat→Prop}:Sep (starI L :: F) w S↔Sep (L ++ F) w S:=Sep.append.symm
theorem own_iff {L L':List It} (h:∀ S,Sep L w S↔Sep L' w S):X.Own w0 S0 L w↔X.Own w0 S0 L' w :=
 ⟨fun ⟨S,h1,h2⟩=>⟨S,(h S).1 h1,h2⟩,fun ⟨S,h1,h2⟩=>⟨S,(h S).2 h1,h2⟩⟩
theorem sep_cons {i:It} {L L':List It} (h:∀ S,Sep L w S↔Sep L' w S) (S:Nat→Prop):Sep (i :: L) w S↔Sep (i :: L') w S :=
 ⟨fun ⟨S1,S2,h1,h2,h3⟩=>⟨S1,S2,h1,(h S2).1 h2,h3⟩,fun ⟨S1,S2,h1,h2,h3⟩=>⟨S1,S2,h1,(h S2).2 h2,h3⟩⟩
theorem pick_lift {i:It} {L L':List It} (h:Pick L i L') (R:List It):Pick (L ++ R) i (L' ++ R):=by
 induction h with
 | here=>exact .here
 | there h ih=>exact .there ih
theorem star_pick {i:It} {L L' F:List It} (hp:Pick L i L'):X.Own w0 S0 (starI L :: F) w↔X.Own w0 S0 (i :: starI L' :: F) w:=by
 refine own_iff fun S=>?_
 rw [star_flat,(pick_lift hp F).iff]
 exact sep_cons (fun S=>star_flat.symm) S
theorem pick_at {α:Type} {g:α→It} {x:α}:∀ {xs:List α} {i:Nat},xs[i]? = some x→Pick (xs.map g) (g x) ((xs.eraseIdx i).map g)
 | [],i,h=>by cases h
 | y :: r,0,h=>by cases h; exact .here
 | y :: r,i + 1,h=>by
  rw [List.eraseIdx_cons_succ,List.map_cons,List.map_cons]
  exact .there (pick_at (by simpa using h))
theorem star_open {α:Type} {g:α→It} {x:α} {xs:List α} {i:Nat} {F:List It} (h:xs[i]? = some x) (H:X.Own w0 S0 (starI (xs.map g) :: F) w):X.Own w0 S0 (g x :: starI ((xs.eraseIdx i).map g) :: F) w :=
 (star_pick (pick_at h)).1 H
theorem star_shut {α:Type} {g:α→It} {y:α} {xs:List α} {i:Nat} {F:List It} (h:i < xs.length) (H:X.Own w0 S0 (g y :: starI ((xs.eraseIdx i).map g) :: F) w):X.Own w0 S0 (starI ((xs.set i y).map g) :: F) w:=by
 have e:(xs.set i y).eraseIdx i = xs.eraseIdx i:=by
  rw [List.eraseIdx_set_eq]
 have:=pick_at (g:=g) (x:=y) (xs:=xs.set i y) (i:=i) (by simp [h])
 rw [e] at this
 exact (star_pick this).2 H
theorem star_ins {α:Type} {g:α→It} {y:α} {xs:List α} {i:Nat} {F:List It} (h:i≤xs.length) (H:X.Own w0 S0 (g y :: starI (xs.map g) :: F) w):X.Own w0 S0 (starI ((X.ins xs i y).map g) :: F) w:=by
 have hl:(xs.take i).length = i:=by rw [List.length_take]; omega
 have h1:(X.ins xs i y)[i]? = some y:=by
  unfold X.ins
  rw [List.getElem?_append_right (by omega),hl]; simp
 have h2:(X.ins xs i y).eraseIdx i = xs:=by
  unfold X.ins
  rw [List.eraseIdx_append_of_length_le (by omega),hl]; simp
 have:=pick_at (g:=g) h1
 rw [h2] at this
 exact (star_pick this).2 H
theorem star_nil {L:List It} (H:X.Own w0 S0 L w):X.Own w0 S0 (starI [] :: L) w:=(own_iff fun S=>star_flat).2 H
end
def mapv {α β:Type} (f:α→β) (kv:List (Int×α)):List (Int×β):=kv.map fun x=>(x.1,f x.2)
section
variable {α β:Type} {f:α→β}
theorem mapv_ks (kv:List (Int×α)):ks (mapv f kv) = ks kv:=by unfold ks mapv; rw [List.map_map]; rfl
theorem mapv_at (kv:List (Int×α)) (k:Int):at' (mapv f kv) k = at' kv k:=by unfold at'; rw [mapv_ks]
theorem mapv_has (kv:List (Int×α)) (k:Int):hasK (mapv f kv) k = hasK kv k:=by unfold hasK; rw [mapv_ks,mapv_at]
theorem mapv_get {a:α} (kv:List (Int×α)) (k:Int) (h:hasK kv k = true) (b:β):getK b (mapv f kv) k = f (getK a kv k):=by
 have h1:=vs_at (d:=a) h
 have h2:=vs_at (d:=b) (kv:=mapv f kv) (k:=k) (by rw [mapv_has]; exact h)
 have e:vs (mapv f kv) = (vs kv).map f:=by unfold vs mapv; rw [List.map_map,List.map_map]; rfl
 rw [mapv_at,e,List.getElem?_map,h1] at h2
 exact (Option.some.inj h2).symm
theorem mapv_put (kv:List (Int×α)) (k:Int) (v:α):mapv f (putK kv k v) = putK (mapv f kv) k (f v):=by
 unfold putK
 rw [mapv_has,mapv_at]
 split
 · unfold mapv; simp [List.map_set]
 · unfold mapv; simp
theorem mapv_take (kv:List (Int×α)) (k:Int):mapv f (takeK kv k) = takeK (mapv f kv) k:=by
 unfold takeK
 rw [mapv_has,mapv_at]
 split
 · unfold mapv; simp [List.eraseIdx_eq_take_drop_succ]
 · rfl
theorem mapv_len (kv:List (Int×α)):(mapv f kv).length = kv.length:=by simp [mapv]
theorem kv_at {d:α} {kv:List (Int×α)} {k:Int} (h:hasK kv k = true):kv[at' kv k]? = some (k,getK d kv k):=by
 have h1:(ks kv)[at' kv k]? = some k:=of_decide_eq_true h
 have h2:=vs_at (d:=d) h
 have hl:=at_lt h
 unfold ks at h1
 unfold vs at h2
 rw [List.getElem?_map,List.getElem?_eq_getElem hl] at h1 h2
 rw [List.getElem?_eq_getElem hl]
 simp only [Option.map_some,Option.some.injEq] at h1 h2 ⊢
 exact Prod.ext h1 h2
def setK (kv:List (Int×α)) (k:Int) (v:α):List (Int×α):=kv.set (at' kv k) (k,v)
theorem setK_ks {kv:List (Int×α)} {k:Int} {v:α} (h:hasK kv k = true):ks (setK kv k v) = ks kv:=by
 have:=(putK_old (v:=v) h).1
 unfold putK at this
 rw [h,if_pos rfl] at this
 exact this
theorem setK_mapv {kv:List (Int×α)} {k:Int} {v:α} {d:α} (h:hasK kv k = true) (hf:f v = f (getK d kv k)):mapv f (setK kv k v) = mapv f kv:=by
 unfold mapv setK
 rw [List.map_set]
 have hl:=at_lt h
 have h1:=kv_at (d:=d) h
 apply List.ext_getElem?
 intro j
 rw [List.getElem?_set]
 split
 · rename_i e
   subst e
   rw [List.getElem?_map,h1]
   simp [hl,hf]
 · rfl
end
structure DvI where
 bits:Int
 ptr:Nat
 evs:List (Int×RtE)
def DvI.e (d:DvI):DvE:=⟨d.bits,some ⟨d.ptr,0,none⟩⟩
def dvi0:DvI:=⟨0,0,[]⟩
structure Vi where
 on:Bool
 st:Bool
 base:Int
 fit:Bool
 q:Qu
 devs:List (Int×DvI)
 colls:List (Int×Int)
abbrev Vi.cells (s:Vi) (bd bc:Nat):List Value:=[.bool s.on,.bool s.st,.int .u64 s.base,.bool s.fit,.int .i64 s.q.a,.int .i64 s.q.s,.int .i64 s.q.r,.int .i64 s.q.w,bptr bd,bptr bc]
noncomputable def evI (x:Int×DvI):It:=bookG ER tBookR x.2.ptr x.2.evs
noncomputable abbrev vL (b bd bc:Nat) (s:Vi):List It:=[row b (s.cells bd bc) tVits,bookG ED tBookD bd (mapv DvI.e s.devs),bookG EI tBookI bc s.colls,starI (s.devs.map evI)]
noncomputable def vitsI (b:Nat) (s:Vi):It:=exI (fun _:Nat×Nat=>True) fun a=>vL b a.1 a.2 s
section
variable {w w0:World} {S0:Nat→Prop}
theorem zzai {L F:List It} {b:Nat} {s:Vi} (H:X.Own w0 S0 L w) (hp:Pick L (vitsI b s) F):∃ bd bc,X.Own w0 S0 (row b (s.cells bd bc) tVits :: bookG ED tBookD bd (mapv DvI.e s.devs) :: bookG EI tBookI bc s.colls :: starI (s.devs.map evI) :: F) w:=by
 obtain ⟨⟨bd,bc⟩,_,H⟩:=ex_open H hp
 exact ⟨bd,bc,H⟩
theorem zzab {F:List It} {b bd bc:Nat} {s:Vi} (H:X.Own w0 S0 (row b (s.cells bd bc) tVits :: bookG ED tBookD bd (mapv DvI.e s.devs) :: bookG EI tBookI bc s.colls :: starI (s.devs.map evI) :: F) w):X.Own w0 S0 (vitsI b s :: F) w :=
 ex_shut (f:=fun a:Nat×Nat=>vL b a.1 a.2 s) (bd,bc) trivial H
end
structure Ch where
 k:Int
 d:Int
 e:Int
 n:Int
 f:Int
 t:Int
deriving DecidableEq
abbrev Ch.cells (c:Ch):List Value:=[.int .i64 c.k,.int .i64 c.d,.int .i64 c.e,.int .i64 c.n,.int .i64 c.f,.int .i64 c.t]
noncomputable abbrev EC:El P where
 α:=Ch
 enc:=Ch.cells
 z:=6
 ta:=tChanges
 te:=tChange
 bytes:=48
 zs:=[.int .i64 0,.int .i64 0,.int .i64 0,.int .i64 0,.int .i64 0,.int .i64 0]
 hT:=appChs
 hZ:=zeroCh
 hz1:=by simp [Value.oneCell']
 hlen:=fun _=>rfl
 h1:=by intro x u hu; simp only [Ch.cells,List.mem_cons,List.not_mem_nil,or_false] at hu; rcases hu with rfl | rfl | rfl | rfl | rfl | rfl <;> rfl
 hz:=by omega
 hb:=by omega
noncomputable abbrev chs (p:Option Addr) (c:Nat) (xs:List Ch):It:=els EC p c xs
def goesM (cs:List (Int×Int)) (c:Int):Int×Int:=if hasK cs c then (getK 0 cs c,0) else (0,183)
def Vi.dev (s:Vi) (dev:Int):DvI:=getK dvi0 s.devs dev
def routeM (s:Vi) (dev ev:Int):RtE×Int×Int :=
 if hasK s.devs dev then
  if hasK (s.dev dev).evs ev then
   if hasK s.colls (getK rt0 (s.dev dev).evs ev).coll then (getK rt0 (s.dev dev).evs ev,getK 0 s.colls (getK rt0 (s.dev dev).evs ev).coll,0) else (rt0,0,183)
  else (rt0,0,182)
 else (rt0,0,181)
def boundM (s:Vi) (dev ev:Int):Ch :=
 if (routeM s dev ev).2.2≠0 then ⟨2,dev,ev,0,0,0⟩ else ⟨1,dev,ev,(routeM s dev ev).1.num,0,(routeM s dev ev).2.1⟩
def Vi.evs (s:Vi) (dev:Int) (l:List (Int×RtE)):Vi:={ s with devs:=setK s.devs dev { s.dev dev with evs:=l } }
def forgetS (s:Vi) (dev ev:Int):Vi:=s.evs dev (takeK (s.dev dev).evs ev)
def forgetC (s:Vi) (dev ev:Int):List Ch :=
 (if (routeM s dev ev).2.2 = 0 then [⟨4,0,0,(routeM s dev ev).1.num,(routeM s dev ev).2.1,0⟩] else []) ++ [boundM (forgetS s dev ev) dev ev]
section
variable {w w0:World} {S0:Nat→Prop} {F:List It} {b bd bc:Nat} {s:Vi} {dev:Int}
theorem dev_at (h:hasK s.devs dev = true):s.devs[at' s.devs dev]? = some (dev,s.dev dev):=kv_at h
theorem dev_open (h:hasK s.devs dev = true) (H:X.Own w0 S0 (row b (s.cells bd bc) tVits :: bookG ED tBookD bd (mapv DvI.e s.devs) :: bookG EI tBookI bc s.colls :: starI (s.devs.map evI) :: F) w) :
 X.Own w0 S0 (bookG ER tBookR (s.dev dev).ptr (s.dev dev).evs :: row b (s.cells bd bc) tVits :: bookG ED tBookD bd (mapv DvI.e s.devs) :: bookG EI tBookI bc s.colls :: starI ((s.devs.eraseIdx (at' s.devs dev)).map evI) :: F) w:=by
 have H:=H.perm (L1:=[starI (s.devs.map evI)]) (F:=row b (s.cells bd bc) tVits :: bookG ED tBookD bd (mapv DvI.e s.devs) :: bookG EI tBookI bc s.colls :: F) (.cons (.there (.there (.there .here))) .nil)
 have H:=star_open (g:=evI) (dev_at h) H
 exact H.perm (L1:=[evI (dev,s.dev dev),row b (s.cells bd bc) tVits,bookG ED tBookD bd (mapv DvI.e s.devs),bookG EI tBookI bc s.colls,starI ((s.devs.eraseIdx (at' s.devs dev)).map evI)]) (F:=F)
  (.cons .here (.cons (.there .here) (.cons (.there .here) (.cons (.there .here) (.cons .here .nil)))))
theorem dev_back (h:hasK s.devs dev = true) (H:X.Own w0 S0 (bookG ER tBookR (s.dev dev).ptr (s.dev dev).evs :: row b (s.cells bd bc) tVits :: bookG ED tBookD bd (mapv DvI.e s.devs) :: bookG EI tBookI bc s.colls :: starI ((s.devs.eraseIdx (at' s.devs dev)).map evI) :: F) w) :
 X.Own w0 S0 (row b (s.cells bd bc) tVits :: bookG ED tBookD bd (mapv DvI.e s.devs) :: bookG EI tBookI bc s.colls :: starI (s.devs.map evI) :: F) w:=by
 have H:=H.perm (L1:=[evI (dev,s.dev dev),starI ((s.devs.eraseIdx (at' s.devs dev)).map evI)]) (F:=row b (s.cells bd bc) tVits :: bookG ED tBookD bd (mapv DvI.e s.devs) :: bookG EI tBookI bc s.colls :: F)
  (.cons .here (.cons (.there (.there (.there .here))) .nil))
 have H:=(star_pick (pick_at (g:=evI) (dev_at h))).2 H
 exact H.perm (L1:=[row b (s.cells bd bc) tVits,bookG ED tBookD bd (mapv DvI.e s.devs),bookG EI tBookI bc s.colls,starI (s.devs.map evI)]) (F:=F)
  (.cons (.there .here) (.cons (.there .here) (.cons (.there .here) (.cons .here .nil))))
theorem dev_set (h:hasK s.devs dev = true) {l:List (Int×RtE)} (H:X.Own w0 S0 (bookG ER tBookR (s.dev dev).ptr l :: row b (s.cells bd bc) tVits :: bookG ED tBookD bd (mapv DvI.e s.devs) :: bookG EI tBookI bc s.colls :: starI ((s.devs.eraseIdx (at' s.devs dev)).map evI) :: F) w) :
 X.Own w0 S0 (row b ((s.evs dev l).cells bd bc) tVits :: bookG ED tBookD bd (mapv DvI.e (s.evs dev l).devs) :: bookG EI tBookI bc (s.evs dev l).colls :: starI ((s.evs dev l).devs.map evI) :: F) w:=by
 have H:=H.perm (L1:=[evI (dev,{ s.dev dev with evs:=l }),starI ((s.devs.eraseIdx (at' s.devs dev)).map evI)]) (F:=row b (s.cells bd bc) tVits :: bookG ED tBookD bd (mapv DvI.e s.devs) :: bookG EI tBookI bc s.colls :: F)
  (.cons .here (.cons (.there (.there (.there .here))) .nil))
 have H:=star_shut (g:=evI) (at_lt h) H
 have e:mapv DvI.e (s.evs dev l).devs = mapv DvI.e s.devs:=setK_mapv (d:=dvi0) h rfl
 rw [e]
 exact H.perm (L1:=[row b (s.cells bd bc) tVits,bookG ED tBookD bd (mapv DvI.e s.devs),bookG EI tBookI bc s.colls,starI ((s.evs dev l).devs.map evI)]) (F:=F)
  (.cons (.there .here) (.cons (.there .here) (.cons (.there .here) (.cons .here .nil))))
end
def vi0:Vi:=⟨false,false,0,false,⟨0,0,0,0⟩,[],[]⟩
theorem VNew_t:Tri P F.zzgD [] [] fun v L'=>∃ b,v = ptr b∧L' = [vitsI b vi0]:=by
 intro w S hS
 refine zzmf ?_
 unfold zzgD
 have H:=Own.start hS
 refine call_oa H (new_d) fun vx L' wx hq H=>?_
 obtain ⟨bd,rfl,rfl⟩:=hq
 simp only [List.cons_append,List.nil_append] at H
 refine ⟨_,rfl,?_⟩
 refine call_oa H (new_i) fun vx L' wx hq H=>?_
 obtain ⟨bc,rfl,rfl⟩:=hq
 simp only [List.cons_append,List.nil_append] at H
 refine ⟨_,rfl,alc_o H fun b wx H=>?_⟩
 refine ⟨_,⟨b,rfl,rfl⟩,?_⟩
 have H:=star_nil H
 exact zzab (b:=b) (bd:=bd) (bc:=bc) (s:=vi0) (F:=[]) (H.drop (L1:=[row b (vi0.cells bd bc) tVits,bookG ED tBookD bd [],bookG EI tBookI bc [],starI []]) (by repeat (first | exact Cut.nil | (apply Cut.cons; (repeat (first | exact Pick.here | apply Pick.there))))))
theorem goes_t (b:Nat) (s:Vi) (c:Int):Tri P F.zza3 [ptr b,.int .i64 c] [vitsI b s] fun v L'=>v = .tuple [.int .i64 (goesM s.colls c).1,.int .i64 (goesM s.colls c).2].toArray∧L' = [vitsI b s]:=by
 intro w S hS
 refine zzlk ?_
 unfold zza3
 have H:=Own.start hS
 obtain ⟨bd,bc,H⟩:=zzai H .here
 dsimp only [nn]
 repeat (first | refine lIa H ?_ | refine lLa H ?_ | refine lBa H ?_ | refine lPa H ?_ | refine lSa H ?_)
 refine call_pa H (get_i bc s.colls c) fun wx H=>?_
 refine ⟨_,_,rfl,cnd_i (fun h=>?_) fun h=>?_⟩
 · have h:hasK s.colls c = false:=by simpa using h
   exact ⟨_,⟨by unfold goesM; rw [h]; rfl,rfl⟩,zzab H⟩
 · have h:hasK s.colls c = true:=by simpa using h
   exact ⟨_,⟨by unfold goesM; rw [h]; rfl,rfl⟩,zzab H⟩
def rtV (x:RtE):Value:=.agg [.int .i64 x.num,.int .i64 x.coll,.bool x.val].toArray
def routeV (s:Vi) (dev ev:Int):Value:=.tuple [rtV (routeM s dev ev).1,.int .i64 (routeM s dev ev).2.1,.int .i64 (routeM s dev ev).2.2].toArray
theorem dev_get {s:Vi} {dev:Int} (h:hasK s.devs dev = true):getK dv0 (mapv DvI.e s.devs) dev = (s.dev dev).e:=mapv_get s.devs dev h dv0
theorem Route_t (b:Nat) (s:Vi) (dev ev:Int):Tri P F.zzbZ [ptr b,.int .i64 dev,.int .i64 ev] [vitsI b s] fun v L'=>v = routeV s dev ev∧L' = [vitsI b s]:=by
 intro w S hS
 refine zzkH ?_
 unfold zzbZ
 have H:=Own.start hS
 refine alc_o H fun b4 wx H=>?_
 obtain ⟨bd,bc,H⟩:=zzai H (by repeat (first | exact Pick.here | apply Pick.there))
 dsimp only [nn]
 repeat (first | refine lIa H ?_ | refine lLa H ?_ | refine lBa H ?_ | refine lPa H ?_ | refine lSa H ?_)
 refine call_pa H (get_d bd (mapv DvI.e s.devs) dev) fun wx H=>?_
 rw [mapv_has]
 refine ⟨_,_,_,rfl,alc_o H fun b13 wx H=>?_⟩
 iterate 2 refine sta H fun wx H=>?_
 refine cnd_i (fun h=>?_) fun h=>?_
 · have h:hasK s.devs dev = false:=by simpa using h
   iterate 3 refine sta H fun wx H=>?_
   repeat (first | refine lIa H ?_ | refine lLa H ?_ | refine lBa H ?_ | refine lPa H ?_ | refine lSa H ?_)
   have H:=H.drop (L1:=[row b (s.cells bd bc) tVits,bookG ED tBookD bd (mapv DvI.e s.devs),bookG EI tBookI bc s.colls,starI (s.devs.map evI)]) (by repeat (first | exact Cut.nil | (apply Cut.cons; (repeat (first | exact Pick.here | apply Pick.there)))))
   exact ⟨_,⟨by unfold routeV routeM; rw [h]; rfl,rfl⟩,zzab H⟩
 · have h:hasK s.devs dev = true:=by simpa using h
   rw [dev_get h] at H
   have H:=H.perm (L1:=[row b (s.cells bd bc) tVits,bookG ED tBookD bd (mapv DvI.e s.devs),bookG EI tBookI bc s.colls,starI (s.devs.map evI)]) (by repeat (first | exact Cut.nil | (apply Cut.cons; (repeat (first | exact Pick.here | apply Pick.there)))))
   simp only [List.cons_append,List.nil_append] at H
   have H:=dev_open h H
   repeat (first | refine lIa H ?_ | refine lLa H ?_ | refine lBa H ?_ | refine lPa H ?_ | refine lSa H ?_)
   refine call_p H (get_r (s.dev dev).ptr (s.dev dev).evs ev) (by repeat (first | exact Cut.nil | (apply Cut.cons; (repeat (first | exact Pick.here | apply Pick.there))))) fun wx H=>?_
   have H:=dev_back h H
   refine ⟨_,_,_,_,rfl,alc_o H fun b30 wx H=>?_⟩
   iterate 3 refine sta H fun wx H=>?_
   refine cnd_i (fun h2=>?_) fun h2=>?_
   · have h2:hasK (s.dev dev).evs ev = false:=by simpa using h2
     iterate 3 refine sta H fun wx H=>?_
     repeat (first | refine lIa H ?_ | refine lLa H ?_ | refine lBa H ?_ | refine lPa H ?_ | refine lSa H ?_)
     have H:=H.drop (L1:=[row b (s.cells bd bc) tVits,bookG ED tBookD bd (mapv DvI.e s.devs),bookG EI tBookI bc s.colls,starI (s.devs.map evI)]) (by repeat (first | exact Cut.nil | (apply Cut.cons; (repeat (first | exact Pick.here | apply Pick.there)))))
     exact ⟨_,⟨by unfold routeV routeM; rw [h,h2]; rfl,rfl⟩,zzab H⟩
   · have h2:hasK (s.dev dev).evs ev = true:=by simpa using h2
     have H:=H.perm (L1:=[row b (s.cells bd bc) tVits,bookG ED tBookD bd (mapv DvI.e s.devs),bookG EI tBookI bc s.colls,starI (s.devs.map evI)]) (by repeat (first | exact Cut.nil | (apply Cut.cons; (repeat (first | exact Pick.here | apply Pick.there)))))
     simp only [List.cons_append,List.nil_append] at H
     have H:=zzab H
     repeat (first | refine lIa H ?_ | refine lLa H ?_ | refine lBa H ?_ | refine lPa H ?_ | refine lSa H ?_)
     refine call_pa H (goes_t b s (getK rt0 (s.dev dev).evs ev).coll) fun wx H=>?_
     refine ⟨_,_,rfl,cnd_i (fun h3=>?_) fun h3=>?_⟩
     · have h3':hasK s.colls (getK rt0 (s.dev dev).evs ev).coll = false:=by
        cases hc:hasK s.colls (getK rt0 (s.dev dev).evs ev).coll
        · rfl
        · unfold goesM at h3; rw [hc] at h3; simp at h3
       iterate 3 refine sta H fun wx H=>?_
       repeat (first | refine lIa H ?_ | refine lLa H ?_ | refine lBa H ?_ | refine lPa H ?_ | refine lSa H ?_)
       exact ⟨_,⟨by unfold routeV routeM goesM; rw [h,h2,h3']; rfl,rfl⟩,H.dp⟩
     · have h3':hasK s.colls (getK rt0 (s.dev dev).evs ev).coll = true:=by
        cases hc:hasK s.colls (getK rt0 (s.dev dev).evs ev).coll
        · unfold goesM at h3; rw [hc] at h3; simp at h3
        · rfl
       repeat (first | refine lIa H ?_ | refine lLa H ?_ | refine lBa H ?_ | refine lPa H ?_ | refine lSa H ?_)
       iterate 3 refine sta H fun wx H=>?_
       repeat (first | refine lIa H ?_ | refine lLa H ?_ | refine lBa H ?_ | refine lPa H ?_ | refine lSa H ?_)
       exact ⟨_,⟨by unfold routeV routeM goesM; rw [h,h2,h3']; rfl,rfl⟩,H.dp⟩
def chV (c:Ch):Value:=.agg [.int .i64 c.k,.int .i64 c.d,.int .i64 c.e,.int .i64 c.n,.int .i64 c.f,.int .i64 c.t].toArray
theorem bound_t (b:Nat) (s:Vi) (dev ev:Int):Tri P F.zzba [ptr b,.int .i64 dev,.int .i64 ev] [vitsI b s] fun v L'=>v = chV (boundM s dev ev)∧L' = [vitsI b s]:=by
 intro w S hS
 refine zzkZ ?_
 unfold zzba
 have H:=Own.start hS
 refine alc_o H fun b4 wx H=>?_
 refine call_pa H (Route_t b s dev ev) fun wx H=>?_
 refine ⟨_,_,_,_,_,rfl,alc_o H fun b13 wx H=>?_⟩
 iterate 3 refine sta H fun wx H=>?_
 refine cnd_i (fun h=>?_) fun h=>?_
 · have h:(routeM s dev ev).2.2≠0:=by simpa using h
   iterate 6 refine sta H fun wx H=>?_
   repeat (first | refine lIa H ?_ | refine lLa H ?_ | refine lBa H ?_ | refine lPa H ?_ | refine lSa H ?_)
   exact ⟨_,⟨by unfold boundM; rw [if_pos h]; rfl,rfl⟩,H.dp⟩
 · have h:(routeM s dev ev).2.2 = 0:=by simpa using h
   repeat (first | refine lIa H ?_ | refine lLa H ?_ | refine lBa H ?_ | refine lPa H ?_ | refine lSa H ?_)
   iterate 6 refine sta H fun wx H=>?_
   repeat (first | refine lIa H ?_ | refine lLa H ?_ | refine lBa H ?_ | refine lPa H ?_ | refine lSa H ?_)
   exact ⟨_,⟨by unfold boundM; rw [if_neg (by rw [h]; simp)]; rfl,rfl⟩,H.dp⟩
def NC:Nat:=2199023255552
theorem app_els {E:El P} {w w0:World} {S0:Nat→Prop} {L F F2:List It} {p:Option Addr} {c b m c2:Nat} {xs ys:List E.α} {t ty:TypeId} (H:X.Own w0 S0 L w) (hp:Pick L (els E p c xs) F) (hq:Pick L (row b (E.flat ys) t) F2) (hm:m = ys.length)
 (hl:(xs.length + ys.length) * E.bytes≤140737488355328) (hl2:xs.length + ys.length≤NB) {K:Option Addr→Nat→Nat→World→Prop}
 (k:∀ p' c' w',X.Own w0 S0 (els E p' c' (xs ++ ys) :: F) w'→K p' (xs ++ ys).length c' w') :
 runS P (Builtin.append_ #[E.ta,E.ta] ty [.slice p xs.length c,.slice (some ⟨b,0,none⟩) m c2].toArray) w K:=by
 subst hm
 unfold NB at hl2
 refine app_o E.hT E.hz H hp (row_slZ (k:=0) H hq) (El.flat_len ys) (El.flat_one ys) (by unfold maxLen; omega) hl fun p' c' w' H=>?_
 have:=k p' c' w' (by unfold els; rw [List.length_append,El.flat_app]; exact H)
 rw [List.length_append] at this
 exact this
theorem app_ch {w w0:World} {S0:Nat→Prop} {L F F2:List It} {p:Option Addr} {c b:Nat} {xs:List Ch} {x:Ch} {t ty:TypeId} {c2:Nat} (H:X.Own w0 S0 L w) (hp:Pick L (chs p c xs) F) (hq:Pick L (row b x.cells t) F2) (hl:xs.length < NC) {K:Option Addr→Nat→Nat→World→Prop}
 (k:∀ p' c' w',X.Own w0 S0 (chs p' c' (xs ++ [x]) :: F) w'→K p' (xs ++ [x]).length c' w') :
 runS P (Builtin.append_ #[tChanges,tChanges] ty [.slice p xs.length c,.slice (some ⟨b,0,none⟩) 1 c2].toArray) w K:=by
 unfold NC at hl
 refine app_els (E:=EC) (ys:=[x]) H hp (F2:=F2) (b:=b) (t:=t) ?_ rfl ?_ ?_ k
 · show Pick L (row b (x.cells ++ []) t) F2
   rw [List.append_nil]; exact hq
 · show (xs.length + 1) * 48≤_; omega
 · show xs.length + 1≤NB; unfold NB; omega
theorem chs_nil {w w0:World} {S0:Nat→Prop} {L:List It} (H:X.Own w0 S0 L w):X.Own w0 S0 (chs none 0 [] :: L) w:=own_nil H
theorem ev_has {s:Vi} {dev:Int} {l:List (Int×RtE)} (h:hasK s.devs dev = true):hasK (s.evs dev l).devs dev = true:=by
 unfold hasK at *
 show decide ((ks (setK s.devs dev _))[at' (setK s.devs dev _) dev]? = some dev) = true
 unfold at' at *
 rw [setK_ks h]; exact h
theorem forget_t (b:Nat) (s:Vi) (dev ev:Int) (h:hasK s.devs dev = true):Tri P F.zzbm [ptr b,.int .i64 dev,.int .i64 ev] [vitsI b s] fun v L'=>∃ p c,v = .slice p (forgetC s dev ev).length c∧L' = [chs p c (forgetC s dev ev),vitsI b (forgetS s dev ev)]:=by
 intro w S hS
 refine zzks ?_
 unfold zzbm
 have H:=Own.start hS
 have fin:∀ (p:Option Addr) (c:Nat) (wx:World) (xs:List Ch),xs = (if (routeM s dev ev).2.2 = 0 then [⟨4,0,0,(routeM s dev ev).1.num,(routeM s dev ev).2.1,0⟩] else [])→X.Own w S [chs p c xs,vitsI b s] wx →
  zze7 (some ⟨b,0,none⟩) dev ev (fun v w'=>∃ L',(∃ p c,v = .slice p (forgetC s dev ev).length c∧L' = [chs p c (forgetC s dev ev),vitsI b (forgetS s dev ev)])∧X.Own w S L' w') p xs.length c wx:=by
  intro p c wx xs hxs H
  have hxl:xs.length≤1:=by rw [hxs]; split <;> simp
  unfold zze7
  obtain ⟨bd,bc,H⟩:=zzai H (by repeat (first | exact Pick.here | apply Pick.there))
  dsimp only [nn]
  repeat (first | refine lIa H ?_ | refine lLa H ?_ | refine lBa H ?_ | refine lPa H ?_ | refine lSa H ?_)
  refine call_pa H (get_d bd (mapv DvI.e s.devs) dev) fun wx H=>?_
  rw [mapv_has,dev_get h]
  refine ⟨_,_,_,rfl,alc_o H fun b18 wx H=>?_⟩
  iterate 2 refine sta H fun wx H=>?_
  repeat (first | refine lIa H ?_ | refine lLa H ?_ | refine lBa H ?_ | refine lPa H ?_ | refine lSa H ?_)
  have H:=H.perm (L1:=[row b (s.cells bd bc) tVits,bookG ED tBookD bd (mapv DvI.e s.devs),bookG EI tBookI bc s.colls,starI (s.devs.map evI)]) (by repeat (first | exact Cut.nil | (apply Cut.cons; (repeat (first | exact Pick.here | apply Pick.there)))))
  simp only [List.cons_append,List.nil_append] at H
  have H:=dev_open h H
  refine call_o H (take_r (s.dev dev).ptr (s.dev dev).evs ev) (by repeat (first | exact Cut.nil | (apply Cut.cons; (repeat (first | exact Pick.here | apply Pick.there))))) fun vx L' wx hq H=>?_
  obtain ⟨rfl,rfl⟩:=hq
  simp only [List.cons_append,List.nil_append] at H
  have H:=H.perm (L1:=[bookG ER tBookR (s.dev dev).ptr (takeK (s.dev dev).evs ev),row b (s.cells bd bc) tVits,bookG ED tBookD bd (mapv DvI.e s.devs),bookG EI tBookI bc s.colls,starI ((s.devs.eraseIdx (at' s.devs dev)).map evI)]) (by repeat (first | exact Cut.nil | (apply Cut.cons; (repeat (first | exact Pick.here | apply Pick.there)))))
  simp only [List.cons_append,List.nil_append] at H
  have H:=zzab (dev_set h H)
  refine ⟨_,_,_,_,rfl,?_⟩
  refine call_p H (bound_t b (forgetS s dev ev) dev ev) (by repeat (first | exact Cut.nil | (apply Cut.cons; (repeat (first | exact Pick.here | apply Pick.there))))) fun wx H=>?_
  refine ⟨_,_,_,_,_,_,rfl,alc_o H fun b37 wx H=>?_⟩
  refine app_ch (x:=boundM (forgetS s dev ev) dev ev) H (xs:=xs) (by repeat (first | exact Pick.here | apply Pick.there)) (by repeat (first | exact Pick.here | apply Pick.there)) (by unfold NC; omega) fun p' c' w' H=>?_
  have e:xs ++ [boundM (forgetS s dev ev) dev ev] = forgetC s dev ev:=by rw [hxs]; rfl
  rw [e] at H ⊢
  exact ⟨_,⟨p',c',rfl,rfl⟩,H.dp⟩
 refine join_o ?_
 refine call_pa H (Route_t b s dev ev) fun wx H=>?_
 refine ⟨_,_,_,_,_,rfl,alc_o H fun b51 wx H=>?_⟩
 iterate 3 refine sta H fun wx H=>?_
 refine cnd_i (fun h2=>?_) fun h2=>?_
 · have h2:(routeM s dev ev).2.2 = 0:=by simpa using h2
   repeat (first | refine lIa H ?_ | refine lLa H ?_ | refine lBa H ?_ | refine lPa H ?_ | refine lSa H ?_)
   refine alc_o H fun b57 wx H=>?_
   have H:=chs_nil H
   refine app_ch (x:=⟨4,0,0,(routeM s dev ev).1.num,(routeM s dev ev).2.1,0⟩) (xs:=[]) H .here (by repeat (first | exact Pick.here | apply Pick.there)) (by unfold NC; simp) fun p' c' w' H=>?_
   exact fin p' c' w' _ (by rw [if_pos h2]; rfl) (H.dp)
 · have h2:¬ (routeM s dev ev).2.2 = 0:=by simpa using h2
   have H:=chs_nil H
   exact fin none 0 _ [] (by rw [if_neg h2]) (H.dp)
def evN (bits:Int):Int:=IntKind.i64.wrap (2 * 2 ^ min (Int.toNat bits) (IntKind.i64.bits))
def maptiM (s:Vi) (c:Cm) (n lpis:Int):List Ch×Vi×Int :=
 if hasK s.devs c.dev = false then ([],s,181)
 else if c.ev≥evN (s.dev c.dev).bits then ([],s,182)
 else if n < 8192∨IntKind.i64.wrap (n - 8192)≥lpis then ([],s,150)
 else if c.coll≥8 then ([],s,183)
 else
  let a:List Ch×Vi:=if hasK (s.dev c.dev).evs c.ev then (forgetC s c.dev c.ev,forgetS s c.dev c.ev) else ([],s)
  let s2:=a.2.evs c.dev (putK (a.2.dev c.dev).evs c.ev ⟨n,c.coll,true⟩)
  (a.1 ++ [boundM s2 c.dev c.ev,⟨7,0,0,n,0,0⟩],s2,0)
def moviM (s:Vi) (c:Cm):List Ch×Vi×Int :=
 if hasK s.devs c.dev = false then ([],s,181)
 else if hasK (s.dev c.dev).evs c.ev = false then ([],s,182)
 else if (goesM s.colls c.coll).2≠0 then ([],s,(goesM s.colls c.coll).2)
 else
  let x:=getK rt0 (s.dev c.dev).evs c.ev
  let s2:=s.evs c.dev (putK (s.dev c.dev).evs c.ev { x with coll:=c.coll })
  ((if (goesM s.colls x.coll).2 = 0 then [⟨5,0,0,x.num,(goesM s.colls x.coll).1,(goesM s.colls c.coll).1⟩] else []) ++ [boundM s2 c.dev c.ev],s2,0)
def eventM (s:Vi) (c:Cm):List Ch×Vi×Int :=
 if hasK s.devs c.dev = false then ([],s,181)
 else if hasK (s.dev c.dev).evs c.ev = false then ([],s,182)
 else
  let x:=getK rt0 (s.dev c.dev).evs c.ev
  if c.op = 15 then (forgetC s c.dev c.ev,forgetS s c.dev c.ev,0)
  else if c.op = 12 then ([⟨7,0,0,x.num,0,0⟩],s,0)
  else if (goesM s.colls x.coll).2≠0 then ([],s,(goesM s.colls x.coll).2)
  else if c.op = 3 then ([⟨3,0,0,x.num,0,(goesM s.colls x.coll).1⟩],s,0)
  else ([⟨4,0,0,x.num,(goesM s.colls x.coll).1,0⟩],s,0)
def ToldAs (b:Nat) (M:List Ch×Vi×Int) (v:Value) (L':List It):Prop:=∃ p c,v = .tuple [.slice p M.1.length c,.int .i64 M.2.2].toArray∧L' = [chs p c M.1,vitsI b M.2.1]
theorem told_err {b:Nat} {s:Vi} {e:Int} {w w0:World} {S0:Nat→Prop} (H:X.Own w0 S0 [vitsI b s] w):∃ L',ToldAs b ([],s,e) (.tuple [.slice none 0 0,.int .i64 e].toArray) L'∧X.Own w0 S0 L' w:=⟨_,⟨none,0,rfl,rfl⟩,chs_nil H⟩
theorem told_one {b b1:Nat} {s:Vi} {x:Ch} {w w0:World} {S0:Nat→Prop} {L F:List It} (H:X.Own w0 S0 L w) (hp:Pick L (row b1 x.cells tChange) [vitsI b s]):∃ L',ToldAs b ([x],s,0) (.tuple [.slice (some ⟨b1,0,none⟩) 1 1,.int .i64 0].toArray) L'∧X.Own w0 S0 L' w:=by
 refine ⟨_,⟨some ⟨b1,0,none⟩,1,rfl,rfl⟩,?_⟩
 have H1:X.Own w0 S0 (row b1 x.cells tChange :: [vitsI b s]) w:=let ⟨S,h1,h2⟩:=H; ⟨S,hp.iff.1 h1,h2⟩
 exact els_shut (E:=EC) (c:=1) (xs:=[x]) H1 rfl rfl (by simp) (by unfold maxLen; omega) rfl
theorem event_t (b:Nat) (s:Vi) (c:Cm):Tri P F.zzcQ [ptr b,cmV c] [vitsI b s] (ToldAs b (eventM s c)):=by
 intro w S hS
 refine zzkU ?_
 unfold zzcQ
 have H:=Own.start hS
 refine alc_o H fun b11 wx H=>join_o ?_
 have fin:∀ (b15 bd bc:Nat) (wx:World),X.Own w S [row b15 [.int .i64 (getK dv0 (mapv DvI.e s.devs) c.dev).bits,.pointer (getK dv0 (mapv DvI.e s.devs) c.dev).ptr] tDevice,row b11 c.cells tCmd,vitsI b s] wx →
  zzfC (some ⟨b,0,none⟩) (fun v w'=>∃ L',ToldAs b (eventM s c) v L'∧X.Own w S L' w') b11 b15 (hasK s.devs c.dev) wx:=by
  intro b15 bd bc wx H
  unfold zzfC
  refine cnd_i (fun h=>?_) fun h=>?_
  · have h:hasK s.devs c.dev = false:=by simpa using h
    have e:eventM s c = ([],s,181):=by unfold eventM; rw [if_pos h]
    rw [e]
    exact told_err (H.dp)
  have h:hasK s.devs c.dev = true:=by simpa using h
  rw [dev_get h] at H
  repeat (first | refine lIa H ?_ | refine lLa H ?_ | refine lBa H ?_ | refine lPa H ?_ | refine lSa H ?_)
  obtain ⟨bd,bc,H⟩:=zzai H (by repeat (first | exact Pick.here | apply Pick.there))
  have H:=dev_open h H
  refine call_p H (get_r (s.dev c.dev).ptr (s.dev c.dev).evs c.ev) (by repeat (first | exact Cut.nil | (apply Cut.cons; (repeat (first | exact Pick.here | apply Pick.there))))) fun wx H=>?_
  have H:=zzab (dev_back h H)
  refine ⟨_,_,_,_,rfl,alc_o H fun b26 wx H=>?_⟩
  iterate 3 refine sta H fun wx H=>?_
  refine cnd_i (fun h2=>?_) fun h2=>?_
  · have h2:hasK (s.dev c.dev).evs c.ev = false:=by simpa using h2
    have e:eventM s c = ([],s,182):=by unfold eventM; rw [if_neg (by rw [h]; simp),if_pos h2]
    rw [e]
    exact told_err (H.dp)
  have h2:hasK (s.dev c.dev).evs c.ev = true:=by simpa using h2
  have e0:eventM s c = (let x:=getK rt0 (s.dev c.dev).evs c.ev
   if c.op = 15 then (forgetC s c.dev c.ev,forgetS s c.dev c.ev,0)
   else if c.op = 12 then ([⟨7,0,0,x.num,0,0⟩],s,0)
   else if (goesM s.colls x.coll).2≠0 then ([],s,(goesM s.colls x.coll).2)
   else if c.op = 3 then ([⟨3,0,0,x.num,0,(goesM s.colls x.coll).1⟩],s,0)
   else ([⟨4,0,0,x.num,(goesM s.colls x.coll).1,0⟩],s,0)):=by unfold eventM; rw [if_neg (by rw [h]; simp),if_neg (by rw [h2]; simp)]
  dsimp only at e0
  rw [e0]
  repeat (first | refine lIa H ?_ | refine lLa H ?_ | refine lBa H ?_ | refine lPa H ?_ | refine lSa H ?_)
  refine call_pa H (goes_t b s (getK rt0 (s.dev c.dev).evs c.ev).coll) fun wx H=>?_
  refine ⟨_,_,rfl,?_⟩
  repeat (first | refine lIa H ?_ | refine lLa H ?_ | refine lBa H ?_ | refine lPa H ?_ | refine lSa H ?_)
  refine cnd_i (fun h3=>?_) fun h3=>?_
  · have h3:c.op = 15:=by simpa using h3
    rw [if_pos h3]
    repeat (first | refine lIa H ?_ | refine lLa H ?_ | refine lBa H ?_ | refine lPa H ?_ | refine lSa H ?_)
    refine call_oa H (forget_t b s c.dev c.ev h) fun vx L' wx hq H=>?_
    obtain ⟨p,cc,rfl,rfl⟩:=hq
    simp only [List.cons_append,List.nil_append] at H
    exact ⟨_,_,_,rfl,_,⟨p,cc,rfl,rfl⟩,H.dp⟩
  have h3:c.op≠15:=by simpa using h3
  rw [if_neg h3]
  repeat (first | refine lIa H ?_ | refine lLa H ?_ | refine lBa H ?_ | refine lPa H ?_ | refine lSa H ?_)
  refine cnd_i (fun h4=>?_) fun h4=>?_
  · have h4:c.op = 12:=by simpa using h4
    rw [if_pos h4]
    repeat (first | refine lIa H ?_ | refine lLa H ?_ | refine lBa H ?_ | refine lPa H ?_ | refine lSa H ?_)
    refine alc_o H fun b46 wx H=>?_
    exact told_one (x:=⟨7,0,0,(getK rt0 (s.dev c.dev).evs c.ev).num,0,0⟩) (F:=[]) (H.drop (L1:=[row b46 _ tChange,vitsI b s]) (by repeat (first | exact Cut.nil | (apply Cut.cons; (repeat (first | exact Pick.here | apply Pick.there)))))) .here
  have h4:c.op≠12:=by simpa using h4
  rw [if_neg h4]
  refine cnd_i (fun h5=>?_) fun h5=>?_
  · rw [if_pos (by simpa using h5)]
    exact told_err (H.dp)
  rw [if_neg (by simpa using h5)]
  repeat (first | refine lIa H ?_ | refine lLa H ?_ | refine lBa H ?_ | refine lPa H ?_ | refine lSa H ?_)
  refine cnd_i (fun h6=>?_) fun h6=>?_
  · have h6:c.op = 3:=by simpa using h6
    rw [if_pos h6]
    repeat (first | refine lIa H ?_ | refine lLa H ?_ | refine lBa H ?_ | refine lPa H ?_ | refine lSa H ?_)
    refine alc_o H fun b46 wx H=>?_
    exact told_one (x:=⟨3,0,0,(getK rt0 (s.dev c.dev).evs c.ev).num,0,(goesM s.colls (getK rt0 (s.dev c.dev).evs c.ev).coll).1⟩) (F:=[]) (H.drop (L1:=[row b46 _ tChange,vitsI b s]) (by repeat (first | exact Cut.nil | (apply Cut.cons; (repeat (first | exact Pick.here | apply Pick.there)))))) .here
  · have h6:c.op≠3:=by simpa using h6
    rw [if_neg h6]
    repeat (first | refine lIa H ?_ | refine lLa H ?_ | refine lBa H ?_ | refine lPa H ?_ | refine lSa H ?_)
    refine alc_o H fun b46 wx H=>?_
    exact told_one (x:=⟨4,0,0,(getK rt0 (s.dev c.dev).evs c.ev).num,(goesM s.colls (getK rt0 (s.dev c.dev).evs c.ev).coll).1,0⟩) (F:=[]) (H.drop (L1:=[row b46 _ tChange,vitsI b s]) (by repeat (first | exact Cut.nil | (apply Cut.cons; (repeat (first | exact Pick.here | apply Pick.there)))))) .here
 obtain ⟨bd,bc,H⟩:=zzai H (by repeat (first | exact Pick.here | apply Pick.there))
 refine drw_o H fun wx H=>?_
 dsimp only [nn]
 repeat (first | refine lIa H ?_ | refine lLa H ?_ | refine lBa H ?_ | refine lPa H ?_ | refine lSa H ?_)
 refine ⟨?_,?_⟩
 · refine call_pa H (get_d bd (mapv DvI.e s.devs) c.dev) fun wx H=>?_
   rw [mapv_has]
   refine ⟨_,_,_,rfl,alc_o H fun b65 wx H=>⟨?_,?_,?_⟩⟩
   · repeat (first | refine lIa H ?_ | refine lLa H ?_ | refine lBa H ?_ | refine lPa H ?_ | refine lSa H ?_)
     rfl
   · repeat (first | refine lIa H ?_ | refine lLa H ?_ | refine lBa H ?_ | refine lPa H ?_ | refine lSa H ?_)
     rfl
   iterate 2 refine sta H fun wx H=>?_
   have H:=zzab (H.perm (L1:=[row b (s.cells bd bc) tVits,bookG ED tBookD bd (mapv DvI.e s.devs),bookG EI tBookI bc s.colls,starI (s.devs.map evI)]) (by repeat (first | exact Cut.nil | (apply Cut.cons; (repeat (first | exact Pick.here | apply Pick.there))))))
   exact fin b65 bd bc _ (H.dp)
 · refine alc_o H fun b71 wx H=>⟨?_,?_,?_⟩
   · repeat (first | refine lIa H ?_ | refine lLa H ?_ | refine lBa H ?_ | refine lPa H ?_ | refine lSa H ?_)
     rfl
   · repeat (first | refine lIa H ?_ | refine lLa H ?_ | refine lBa H ?_ | refine lPa H ?_ | refine lSa H ?_)
     rfl
   refine call_pa H (get_d bd (mapv DvI.e s.devs) c.dev) fun wx H=>?_
   rw [mapv_has]
   refine ⟨_,_,_,rfl,?_⟩
   iterate 2 refine sta H fun wx H=>?_
   have H:=zzab (H.perm (L1:=[row b (s.cells bd bc) tVits,bookG ED tBookD bd (mapv DvI.e s.devs),bookG EI tBookI bc s.colls,starI (s.devs.map evI)]) (by repeat (first | exact Cut.nil | (apply Cut.cons; (repeat (first | exact Pick.here | apply Pick.there))))))
   exact fin b71 bd bc _ (H.dp)
theorem movi_t (b:Nat) (s:Vi) (c:Cm) (hsz:(s.dev c.dev).evs.length + 1 < NB):Tri P F.zzdv [ptr b,cmV c] [vitsI b s] (ToldAs b (moviM s c)):=by
 intro w S hS
 refine zzln ?_
 unfold zzdv
 have H:=Own.start hS
 refine alc_o H fun b11 wx H=>join_o ?_
 have fin:∀ (b15:Nat) (wx:World),X.Own w S [row b15 [.int .i64 (getK dv0 (mapv DvI.e s.devs) c.dev).bits,.pointer (getK dv0 (mapv DvI.e s.devs) c.dev).ptr] tDevice,row b11 c.cells tCmd,vitsI b s] wx →
  zzgk (some ⟨b,0,none⟩) (fun v w'=>∃ L',ToldAs b (moviM s c) v L'∧X.Own w S L' w') b11 b15 (hasK s.devs c.dev) wx:=by
  intro b15 wx H
  unfold zzgk
  refine cnd_i (fun h=>?_) fun h=>?_
  · have h:hasK s.devs c.dev = false:=by simpa using h
    have e:moviM s c = ([],s,181):=by unfold moviM; rw [if_pos h]
    rw [e]
    exact told_err (H.dp)
  have h:hasK s.devs c.dev = true:=by simpa using h
  rw [dev_get h] at H
  repeat (first | refine lIa H ?_ | refine lLa H ?_ | refine lBa H ?_ | refine lPa H ?_ | refine lSa H ?_)
  obtain ⟨bd,bc,H⟩:=zzai H (by repeat (first | exact Pick.here | apply Pick.there))
  have H:=dev_open h H
  refine call_p H (get_r (s.dev c.dev).ptr (s.dev c.dev).evs c.ev) (by repeat (first | exact Cut.nil | (apply Cut.cons; (repeat (first | exact Pick.here | apply Pick.there))))) fun wx H=>?_
  have H:=zzab (dev_back h H)
  refine ⟨_,_,_,_,rfl,alc_o H fun b26 wx H=>?_⟩
  iterate 3 refine sta H fun wx H=>?_
  refine cnd_i (fun h2=>?_) fun h2=>?_
  · have h2:hasK (s.dev c.dev).evs c.ev = false:=by simpa using h2
    have e:moviM s c = ([],s,182):=by unfold moviM; rw [if_neg (by rw [h]; simp),if_pos h2]
    rw [e]
    exact told_err (H.dp)
  have h2:hasK (s.dev c.dev).evs c.ev = true:=by simpa using h2
  repeat (first | refine lIa H ?_ | refine lLa H ?_ | refine lBa H ?_ | refine lPa H ?_ | refine lSa H ?_)
  refine call_pa H (goes_t b s c.coll) fun wx H=>?_
  refine ⟨_,_,rfl,cnd_i (fun h3=>?_) fun h3=>?_⟩
  · have h3:(goesM s.colls c.coll).2≠0:=by simpa using h3
    have e:moviM s c = ([],s,(goesM s.colls c.coll).2):=by unfold moviM; rw [if_neg (by rw [h]; simp),if_neg (by rw [h2]; simp),if_pos h3]
    rw [e]
    exact told_err (H.dp)
  have h3:(goesM s.colls c.coll).2 = 0:=by simpa using h3
  have e0:moviM s c = ((if (goesM s.colls (getK rt0 (s.dev c.dev).evs c.ev).coll).2 = 0 then [⟨5,0,0,(getK rt0 (s.dev c.dev).evs c.ev).num,(goesM s.colls (getK rt0 (s.dev c.dev).evs c.ev).coll).1,(goesM s.colls c.coll).1⟩] else []) ++ [boundM (s.evs c.dev (putK (s.dev c.dev).evs c.ev { getK rt0 (s.dev c.dev).evs c.ev with coll:=c.coll })) c.dev c.ev],s.evs c.dev (putK (s.dev c.dev).evs c.ev { getK rt0 (s.dev c.dev).evs c.ev with coll:=c.coll }),0):=by
   unfold moviM; rw [if_neg (by rw [h]; simp),if_neg (by rw [h2]; simp),if_neg (by rw [h3]; simp)]
  rw [e0]
  generalize hx:getK rt0 (s.dev c.dev).evs c.ev = x at *
  have fin2:∀ (p:Option Addr) (cc:Nat) (wx:World) (xs:List Ch),xs = (if (goesM s.colls x.coll).2 = 0 then [⟨5,0,0,x.num,(goesM s.colls x.coll).1,(goesM s.colls c.coll).1⟩] else []) →
   X.Own w S [chs p cc xs,row b26 [.int .i64 x.num,.int .i64 x.coll,.bool x.val] tRoute,row b15 [.int .i64 (s.dev c.dev).bits,.pointer (some ⟨(s.dev c.dev).ptr,0,none⟩)] tDevice,row b11 c.cells tCmd,vitsI b s] wx →
   zzgj (some ⟨b,0,none⟩) (fun v w'=>∃ L',ToldAs b (xs ++ [boundM (s.evs c.dev (putK (s.dev c.dev).evs c.ev { x with coll:=c.coll })) c.dev c.ev],s.evs c.dev (putK (s.dev c.dev).evs c.ev { x with coll:=c.coll }),0) v L'∧X.Own w S L' w') b11 b15 b26 p xs.length cc wx:=by
   intro p cc wx xs hxs H
   have hxl:xs.length≤1:=by rw [hxs]; split <;> simp
   unfold zzgj
   repeat (first | refine lIa H ?_ | refine lLa H ?_ | refine lBa H ?_ | refine lPa H ?_ | refine lSa H ?_)
   refine sta H fun wx H=>?_
   repeat (first | refine lIa H ?_ | refine lLa H ?_ | refine lBa H ?_ | refine lPa H ?_ | refine lSa H ?_)
   obtain ⟨bd,bc,H⟩:=zzai H (by repeat (first | exact Pick.here | apply Pick.there))
   have H:=dev_open h H
   refine call_o H (put_r (s.dev c.dev).ptr (s.dev c.dev).evs c.ev { x with coll:=c.coll } hsz) (by repeat (first | exact Cut.nil | (apply Cut.cons; (repeat (first | exact Pick.here | apply Pick.there))))) fun vx L' wx hq H=>?_
   obtain ⟨rfl,rfl⟩:=hq
   simp only [List.cons_append,List.nil_append] at H
   have H:=zzab (dev_set h H)
   refine ⟨_,rfl,?_⟩
   repeat (first | refine lIa H ?_ | refine lLa H ?_ | refine lBa H ?_ | refine lPa H ?_ | refine lSa H ?_)
   refine call_p H (bound_t b (s.evs c.dev (putK (s.dev c.dev).evs c.ev { x with coll:=c.coll })) c.dev c.ev) (by repeat (first | exact Cut.nil | (apply Cut.cons; (repeat (first | exact Pick.here | apply Pick.there))))) fun wx H=>?_
   refine ⟨_,_,_,_,_,_,rfl,alc_o H fun b63 wx H=>?_⟩
   refine app_ch (x:=boundM (s.evs c.dev (putK (s.dev c.dev).evs c.ev { x with coll:=c.coll })) c.dev c.ev) H (xs:=xs) (by repeat (first | exact Pick.here | apply Pick.there)) (by repeat (first | exact Pick.here | apply Pick.there)) (by unfold NC; omega) fun p' c' w' H=>?_
   exact ⟨_,⟨p',c',rfl,rfl⟩,H.dp⟩
  refine join_o ?_
  repeat (first | refine lIa H ?_ | refine lLa H ?_ | refine lBa H ?_ | refine lPa H ?_ | refine lSa H ?_)
  refine call_pa H (goes_t b s x.coll) fun wx H=>?_
  refine ⟨_,_,rfl,cnd_i (fun h4=>?_) fun h4=>?_⟩
  · have h4:(goesM s.colls x.coll).2 = 0:=by simpa using h4
    repeat (first | refine lIa H ?_ | refine lLa H ?_ | refine lBa H ?_ | refine lPa H ?_ | refine lSa H ?_)
    refine alc_o H fun b76 wx H=>?_
    have H:=chs_nil H
    refine app_ch (x:=⟨5,0,0,x.num,(goesM s.colls x.coll).1,(goesM s.colls c.coll).1⟩) (xs:=[]) H .here (by repeat (first | exact Pick.here | apply Pick.there)) (by unfold NC; simp) fun p' c' w' H=>?_
    have:=fin2 p' c' w' _ (by rw [if_pos h4]) (H.dp)
    rw [if_pos h4]
    exact this
  · have h4:¬ (goesM s.colls x.coll).2 = 0:=by simpa using h4
    have H:=chs_nil H
    have:=fin2 none 0 _ [] (by rw [if_neg h4]) (H.dp)
    rw [if_neg h4]
    exact this
 obtain ⟨bd,bc,H⟩:=zzai H (by repeat (first | exact Pick.here | apply Pick.there))
 refine drw_o H fun wx H=>?_
 dsimp only [nn]
 repeat (first | refine lIa H ?_ | refine lLa H ?_ | refine lBa H ?_ | refine lPa H ?_ | refine lSa H ?_)
 refine ⟨?_,?_⟩
 · refine call_pa H (get_d bd (mapv DvI.e s.devs) c.dev) fun wx H=>?_
   rw [mapv_has]
   refine ⟨_,_,_,rfl,alc_o H fun b65 wx H=>⟨?_,?_,?_⟩⟩
   · repeat (first | refine lIa H ?_ | refine lLa H ?_ | refine lBa H ?_ | refine lPa H ?_ | refine lSa H ?_)
     rfl
   · repeat (first | refine lIa H ?_ | refine lLa H ?_ | refine lBa H ?_ | refine lPa H ?_ | refine lSa H ?_)
     rfl
   iterate 2 refine sta H fun wx H=>?_
   have H:=zzab (H.perm (L1:=[row b (s.cells bd bc) tVits,bookG ED tBookD bd (mapv DvI.e s.devs),bookG EI tBookI bc s.colls,starI (s.devs.map evI)]) (by repeat (first | exact Cut.nil | (apply Cut.cons; (repeat (first | exact Pick.here | apply Pick.there))))))
   exact fin b65 _ (H.dp)
 · refine alc_o H fun b71 wx H=>⟨?_,?_,?_⟩
   · repeat (first | refine lIa H ?_ | refine lLa H ?_ | refine lBa H ?_ | refine lPa H ?_ | refine lSa H ?_)
     rfl
   · repeat (first | refine lIa H ?_ | refine lLa H ?_ | refine lBa H ?_ | refine lPa H ?_ | refine lSa H ?_)
     rfl
   refine call_pa H (get_d bd (mapv DvI.e s.devs) c.dev) fun wx H=>?_
   rw [mapv_has]
   refine ⟨_,_,_,rfl,?_⟩
   iterate 2 refine sta H fun wx H=>?_
   have H:=zzab (H.perm (L1:=[row b (s.cells bd bc) tVits,bookG ED tBookD bd (mapv DvI.e s.devs),bookG EI tBookI bc s.colls,starI (s.devs.map evI)]) (by repeat (first | exact Cut.nil | (apply Cut.cons; (repeat (first | exact Pick.here | apply Pick.there))))))
   exact fin b71 _ (H.dp)
structure Ru where
 a:Int
 s:Int
 vcpus:Int
 lpis:Int
def ruV (r:Ru) (p:Option Addr) (n c:Nat):Value:=.agg [.int .i64 r.a,.int .i64 r.s,.int .i64 r.vcpus,.int .i64 r.lpis,.slice p n c].toArray
theorem evs_dev {s:Vi} {dev:Int} {l:List (Int×RtE)} (h:hasK s.devs dev = true):(s.evs dev l).dev dev = { s.dev dev with evs:=l }:=by
 have h2:=ev_has (l:=l) h
 have h3:=kv_at (d:=dvi0) h2
 have e:at' (s.evs dev l).devs dev = at' s.devs dev:=by
  show at' (setK s.devs dev _) dev = _
  unfold at'; rw [setK_ks h]
 rw [e] at h3
 have h4:(s.evs dev l).devs[at' s.devs dev]? = some (dev,{ s.dev dev with evs:=l }):=by
  show (setK s.devs dev _)[at' s.devs dev]? = _
  unfold setK
  rw [List.getElem?_set,if_pos rfl,if_pos (at_lt h)]
 rw [h4] at h3
 exact (Prod.ext_iff.1 (Option.some.inj h3)).2.symm
theorem mapti_t (b:Nat) (s:Vi) (c:Cm) (n:Int) (r:Ru) {po:Option Addr} {no co:Nat} (hb:0≤(s.dev c.dev).bits) (hsz:(s.dev c.dev).evs.length + 1 < NB):Tri P F.zzb1 [ptr b,cmV c,.int .i64 n,ruV r po no co] [vitsI b s] (ToldAs b (maptiM s c n r.lpis)):=by
 intro w S hS
 refine zzkS ?_
 unfold zzb1
 have H:=Own.start hS
 refine alc_o H fun b19 wx H=>alc_o H fun b21 wx H=>join_o ?_
 have fin:∀ (b25:Nat) (wx:World),X.Own w S [row b25 [.int .i64 (getK dv0 (mapv DvI.e s.devs) c.dev).bits,.pointer (getK dv0 (mapv DvI.e s.devs) c.dev).ptr] tDevice,row b21 [.int .i64 r.a,.int .i64 r.s,.int .i64 r.vcpus,.int .i64 r.lpis,.slice po no co] tRules,row b19 c.cells tCmd,vitsI b s] wx →
  zzfA (some ⟨b,0,none⟩) n (fun v w'=>∃ L',ToldAs b (maptiM s c n r.lpis) v L'∧X.Own w S L' w') b19 b21 b25 (hasK s.devs c.dev) wx:=by
  intro b25 wx H
  unfold zzfA
  refine cnd_i (fun h=>?_) fun h=>?_
  · have h:hasK s.devs c.dev = false:=by simpa using h
    have e:maptiM s c n r.lpis = ([],s,181):=by unfold maptiM; rw [if_pos h]
    rw [e]
    exact told_err (H.dp)
  have h:hasK s.devs c.dev = true:=by simpa using h
  rw [dev_get h] at H
  refine drw_o H fun wx H=>?_
  repeat (first | refine lIa H ?_ | refine lLa H ?_ | refine lBa H ?_ | refine lPa H ?_ | refine lSa H ?_)
  refine ⟨hb,cnd_i (fun h2=>?_) fun h2=>join_o ?_⟩
  · have h2:c.ev≥evN (s.dev c.dev).bits:=of_decide_eq_true h2
    have e:maptiM s c n r.lpis = ([],s,182):=by unfold maptiM; rw [if_neg (by rw [h]; simp),if_pos h2]
    rw [e]
    exact told_err (H.dp)
  have h2:¬ c.ev≥evN (s.dev c.dev).bits:=of_decide_eq_false h2
  have fin1:∀ (x:Bool) (wx:World),(x = true↔(n < 8192∨IntKind.i64.wrap (n - 8192)≥r.lpis))→X.Own w S [row b25 [.int .i64 (s.dev c.dev).bits,.pointer (some ⟨(s.dev c.dev).ptr,0,none⟩)] tDevice,row b21 [.int .i64 r.a,.int .i64 r.s,.int .i64 r.vcpus,.int .i64 r.lpis,.slice po no co] tRules,row b19 c.cells tCmd,vitsI b s] wx →
   zzfz (some ⟨b,0,none⟩) n (fun v w'=>∃ L',ToldAs b (maptiM s c n r.lpis) v L'∧X.Own w S L' w') b19 b25 x wx:=by
   intro x wx hx H
   unfold zzfz
   refine cnd_i (fun h3=>?_) fun h3=>?_
   · have e:maptiM s c n r.lpis = ([],s,150):=by unfold maptiM; rw [if_neg (by rw [h]; simp),if_neg h2,if_pos (hx.1 h3)]
     rw [e]
     exact told_err (H.dp)
   have h3:¬ (n < 8192∨IntKind.i64.wrap (n - 8192)≥r.lpis):=fun hh=>by rw [hx.2 hh] at h3; cases h3
   repeat (first | refine lIa H ?_ | refine lLa H ?_ | refine lBa H ?_ | refine lPa H ?_ | refine lSa H ?_)
   refine cnd_i (fun h4=>?_) fun h4=>join_o ?_
   · have h4:c.coll≥8:=of_decide_eq_true h4
     have e:maptiM s c n r.lpis = ([],s,183):=by unfold maptiM; rw [if_neg (by rw [h]; simp),if_neg h2,if_neg h3,if_pos h4]
     rw [e]
     exact told_err (H.dp)
   have h4:¬ c.coll≥8:=of_decide_eq_false h4
   have e0:maptiM s c n r.lpis = (let a:List Ch×Vi:=if hasK (s.dev c.dev).evs c.ev then (forgetC s c.dev c.ev,forgetS s c.dev c.ev) else ([],s)
    let s2:=a.2.evs c.dev (putK (a.2.dev c.dev).evs c.ev ⟨n,c.coll,true⟩)
    (a.1 ++ [boundM s2 c.dev c.ev,⟨7,0,0,n,0,0⟩],s2,0)):=by unfold maptiM; rw [if_neg (by rw [h]; simp),if_neg h2,if_neg h3,if_neg h4]
   dsimp only at e0
   rw [e0]
   have fin2:∀ (p:Option Addr) (cc:Nat) (wx:World) (xs:List Ch) (s1:Vi),hasK s1.devs c.dev = true→(s1.dev c.dev).evs.length + 1 < NB→(s1.dev c.dev).ptr = (s.dev c.dev).ptr→xs.length≤2 →
    X.Own w S [chs p cc xs,row b25 [.int .i64 (s.dev c.dev).bits,.pointer (some ⟨(s.dev c.dev).ptr,0,none⟩)] tDevice,row b19 c.cells tCmd,vitsI b s1] wx →
    zzfy (some ⟨b,0,none⟩) n (fun v w'=>∃ L',ToldAs b (xs ++ [boundM (s1.evs c.dev (putK (s1.dev c.dev).evs c.ev ⟨n,c.coll,true⟩)) c.dev c.ev,⟨7,0,0,n,0,0⟩],s1.evs c.dev (putK (s1.dev c.dev).evs c.ev ⟨n,c.coll,true⟩),0) v L'∧X.Own w S L' w') b19 b25 p xs.length cc wx:=by
    intro p cc wx xs s1 g1 g2 g3 g4 H
    unfold zzfy
    repeat (first | refine lIa H ?_ | refine lLa H ?_ | refine lBa H ?_ | refine lPa H ?_ | refine lSa H ?_)
    obtain ⟨bd,bc,H⟩:=zzai H (by repeat (first | exact Pick.here | apply Pick.there))
    have H:=dev_open g1 H
    rw [← g3]
    refine call_o H (put_r (s1.dev c.dev).ptr (s1.dev c.dev).evs c.ev ⟨n,c.coll,true⟩ g2) (by repeat (first | exact Cut.nil | (apply Cut.cons; (repeat (first | exact Pick.here | apply Pick.there))))) fun vx L' wx hq H=>?_
    obtain ⟨rfl,rfl⟩:=hq
    simp only [List.cons_append,List.nil_append] at H
    have H:=zzab (dev_set g1 H)
    refine ⟨_,rfl,?_⟩
    repeat (first | refine lIa H ?_ | refine lLa H ?_ | refine lBa H ?_ | refine lPa H ?_ | refine lSa H ?_)
    refine call_p H (bound_t b (s1.evs c.dev (putK (s1.dev c.dev).evs c.ev ⟨n,c.coll,true⟩)) c.dev c.ev) (by repeat (first | exact Cut.nil | (apply Cut.cons; (repeat (first | exact Pick.here | apply Pick.there))))) fun wx H=>?_
    refine ⟨_,_,_,_,_,_,rfl,alc_o H fun b58 wx H=>?_⟩
    refine app_els (E:=EC) (ys:=[boundM (s1.evs c.dev (putK (s1.dev c.dev).evs c.ev ⟨n,c.coll,true⟩)) c.dev c.ev,⟨7,0,0,n,0,0⟩]) H (xs:=xs) (b:=b58) (t:=tChange) (by repeat (first | exact Pick.here | apply Pick.there)) .here rfl (by show (xs.length + 2) * 48≤_; omega) (by show xs.length + 2≤NB; unfold NB; omega) fun p' c' w' H=>?_
    exact ⟨_,⟨p',c',rfl,rfl⟩,H.dp⟩
   obtain ⟨bd,bc,H⟩:=zzai H (by repeat (first | exact Pick.here | apply Pick.there))
   have H:=dev_open h H
   repeat (first | refine lIa H ?_ | refine lLa H ?_ | refine lBa H ?_ | refine lPa H ?_ | refine lSa H ?_)
   refine call_p H (has_r (s.dev c.dev).ptr (s.dev c.dev).evs c.ev) (by repeat (first | exact Cut.nil | (apply Cut.cons; (repeat (first | exact Pick.here | apply Pick.there))))) fun wx H=>?_
   have H:=zzab (dev_back h H)
   refine ⟨_,rfl,cnd_i (fun h5=>?_) fun h5=>?_⟩
   · have h5:hasK (s.dev c.dev).evs c.ev = true:=h5
     repeat (first | refine lIa H ?_ | refine lLa H ?_ | refine lBa H ?_ | refine lPa H ?_ | refine lSa H ?_)
     refine call_oa H (forget_t b s c.dev c.ev h) fun vx L' wx hq H=>?_
     obtain ⟨p,cc,rfl,rfl⟩:=hq
     simp only [List.cons_append,List.nil_append] at H
     refine ⟨_,_,_,rfl,?_⟩
     rw [if_pos h5]
     have hfl:(forgetC s c.dev c.ev).length≤2:=by unfold forgetC; split <;> simp
     refine fin2 p cc _ (forgetC s c.dev c.ev) (forgetS s c.dev c.ev) (ev_has h) ?_ ?_ hfl (H.dp)
     · show (((s.evs c.dev (takeK (s.dev c.dev).evs c.ev)).dev c.dev).evs).length + 1 < NB
       rw [evs_dev h]
       have:=takeK_len (s.dev c.dev).evs c.ev
       show (takeK (s.dev c.dev).evs c.ev).length + 1 < NB
       omega
     · show ((s.evs c.dev (takeK (s.dev c.dev).evs c.ev)).dev c.dev).ptr = _
       rw [evs_dev h]
   · have h5:¬ hasK (s.dev c.dev).evs c.ev = true:=by rw [h5]; simp
     rw [if_neg h5]
     have H:=chs_nil H
     exact fin2 none 0 _ [] s h hsz rfl (by simp) (H.dp)
  refine cnd_i (fun h3=>?_) fun h3=>?_
  · exact fin1 true _ (by simp [of_decide_eq_true h3]) (H.dp)
  · have h3:=of_decide_eq_false h3
    repeat (first | refine lIa H ?_ | refine lLa H ?_ | refine lBa H ?_ | refine lPa H ?_ | refine lSa H ?_)
    exact fin1 _ _ (by simp [h3]) (H.dp)
 obtain ⟨bd,bc,H⟩:=zzai H (by repeat (first | exact Pick.here | apply Pick.there))
 refine drw_o H fun wx H=>?_
 dsimp only [nn]
 repeat (first | refine lIa H ?_ | refine lLa H ?_ | refine lBa H ?_ | refine lPa H ?_ | refine lSa H ?_)
 refine ⟨?_,?_⟩
 · refine call_pa H (get_d bd (mapv DvI.e s.devs) c.dev) fun wx H=>?_
   rw [mapv_has]
   refine ⟨_,_,_,rfl,alc_o H fun b65 wx H=>⟨?_,?_,?_⟩⟩
   · repeat (first | refine lIa H ?_ | refine lLa H ?_ | refine lBa H ?_ | refine lPa H ?_ | refine lSa H ?_)
     rfl
   · repeat (first | refine lIa H ?_ | refine lLa H ?_ | refine lBa H ?_ | refine lPa H ?_ | refine lSa H ?_)
     rfl
   iterate 2 refine sta H fun wx H=>?_
   have H:=zzab (H.perm (L1:=[row b (s.cells bd bc) tVits,bookG ED tBookD bd (mapv DvI.e s.devs),bookG EI tBookI bc s.colls,starI (s.devs.map evI)]) (by repeat (first | exact Cut.nil | (apply Cut.cons; (repeat (first | exact Pick.here | apply Pick.there))))))
   exact fin b65 _ (H.dp)
 · refine alc_o H fun b71 wx H=>⟨?_,?_,?_⟩
   · repeat (first | refine lIa H ?_ | refine lLa H ?_ | refine lBa H ?_ | refine lPa H ?_ | refine lSa H ?_)
     rfl
   · repeat (first | refine lIa H ?_ | refine lLa H ?_ | refine lBa H ?_ | refine lPa H ?_ | refine lSa H ?_)
     rfl
   refine call_pa H (get_d bd (mapv DvI.e s.devs) c.dev) fun wx H=>?_
   rw [mapv_has]
   refine ⟨_,_,_,rfl,?_⟩
   iterate 2 refine sta H fun wx H=>?_
   have H:=zzab (H.perm (L1:=[row b (s.cells bd bc) tVits,bookG ED tBookD bd (mapv DvI.e s.devs),bookG EI tBookI bc s.colls,starI (s.devs.map evI)]) (by repeat (first | exact Cut.nil | (apply Cut.cons; (repeat (first | exact Pick.here | apply Pick.there))))))
   exact fin b71 _ (H.dp)
section
variable {α:Type}
abbrev Up (kv:List (Int×α)):Prop:=(ks kv).Pairwise (· < ·)
theorem hasK_iff {kv:List (Int×α)} {k:Int} (hs:Up kv):hasK kv k = true↔k∈ks kv:=by
 unfold hasK
 rw [decide_eq_true_eq]
 constructor
 · exact List.mem_of_getElem?
 · intro h
   obtain ⟨t,ht⟩:=List.mem_iff_getElem?.1 h
   by_cases hn:(ks kv)[lb (ks kv) k]? = some k
   · exact hn
   · exfalso
     by_cases hlt:t < lb (ks kv) k
     · have:=lb_lt hlt ht; omega
     · have:=lb_gt (x:=k) hs hn (List.mem_iff_getElem?.2 ⟨t - lb (ks kv) k,by rw [List.getElem?_drop,show lb (ks kv) k + (t - lb (ks kv) k) = t by omega]; exact ht⟩)
       omega
def lk (kv:List (Int×α)) (k:Int):Option α:=if hasK kv k then (vs kv)[at' kv k]? else none
theorem vs_some {kv:List (Int×α)} {k:Int} (h:hasK kv k = true):∃ v,(vs kv)[at' kv k]? = some v :=
 ⟨_,List.getElem?_eq_getElem (by rw [vs_len]; exact at_lt h)⟩
theorem hasK_lk (kv:List (Int×α)) (k:Int):hasK kv k = (lk kv k).isSome:=by
 unfold lk
 cases h:hasK kv k
 · rfl
 · obtain ⟨v,hv⟩:=vs_some h
   rw [if_pos rfl,hv]; rfl
theorem getK_lk (d:α) (kv:List (Int×α)) (k:Int):getK d kv k = (lk kv k).getD d:=by
 unfold lk getK
 cases h:hasK kv k
 · simp
 · rw [if_pos rfl,if_pos rfl,List.getD_eq_getElem?_getD]
theorem up_inj {kv:List (Int×α)} (hs:Up kv) {i j:Nat} {k:Int} (hi:(ks kv)[i]? = some k) (hj:(ks kv)[j]? = some k):i = j:=by
 obtain ⟨h1,e1⟩:=List.getElem?_eq_some_iff.1 hi
 obtain ⟨h2,e2⟩:=List.getElem?_eq_some_iff.1 hj
 rcases Nat.lt_trichotomy i j with h | h | h
 · have:=List.pairwise_iff_getElem.1 hs i j h1 h2 h; omega
 · exact h
 · have:=List.pairwise_iff_getElem.1 hs j i h2 h1 h; omega
theorem kv_split {kv:List (Int×α)} {i:Nat} {k:Int} {v:α} (h:kv[i]? = some (k,v)):(ks kv)[i]? = some k∧(vs kv)[i]? = some v:=by simp [ks,vs,h]
theorem kv_join {kv:List (Int×α)} {i:Nat} {k:Int} {v:α} (h1:(ks kv)[i]? = some k) (h2:(vs kv)[i]? = some v):kv[i]? = some (k,v):=by
 unfold ks at h1
 unfold vs at h2
 rw [List.getElem?_map] at h1 h2
 cases h:kv[i]? with
 | none=>rw [h] at h1; cases h1
 | some x =>
  rw [h] at h1 h2
  simp only [Option.map_some,Option.some.injEq] at h1 h2 ⊢
  exact Prod.ext h1 h2
theorem lk_iff {kv:List (Int×α)} (hs:Up kv) {k:Int} {v:α}:lk kv k = some v↔(k,v)∈kv:=by
 constructor
 · intro h
   unfold lk at h
   by_cases hh:hasK kv k = true
   · rw [if_pos hh] at h
     exact List.mem_of_getElem? (kv_join (of_decide_eq_true hh) h)
   · rw [if_neg hh] at h; cases h
 · intro h
   obtain ⟨i,hi⟩:=List.mem_iff_getElem?.1 h
   obtain ⟨h1,h2⟩:=kv_split hi
   have hh:=(hasK_iff hs).2 (List.mem_of_getElem? h1)
   have:=up_inj hs h1 (of_decide_eq_true hh)
   subst this
   unfold lk
   rw [hh,if_pos rfl,h2]
theorem zzl4 {l:List α} {i:Nat} {x y:α} (hy:l[i]? = some y):x∈l↔x∈l.take i∨x = y∨x∈l.drop (i + 1):=by
 obtain ⟨hl,he⟩:=List.getElem?_eq_some_iff.1 hy
 have:l = l.take i ++ y :: l.drop (i + 1):=by
  rw [← he,← List.drop_eq_getElem_cons hl,List.take_append_drop]
 conv=>lhs; rw [this]
 simp [List.mem_append,List.mem_cons]
theorem putK_up {kv:List (Int×α)} {k:Int} {v:α} (hs:Up kv):Up (putK kv k v):=by
 cases h:hasK kv k
 · unfold Up; rw [(putK_new h).1]; exact ins_up hs (of_decide_eq_false h)
 · unfold Up; rw [(putK_old h).1]; exact hs
theorem takeK_up {kv:List (Int×α)} {k:Int} (hs:Up kv):Up (takeK kv k):=by
 cases h:hasK kv k
 · unfold takeK; rw [h]; exact hs
 · unfold Up; rw [(takeK_old h).1]; exact hs.sublist (List.eraseIdx_sublist _ _)
theorem putK_mem {kv:List (Int×α)} {k:Int} {v:α} (h:hasK kv k = false) {x:Int×α}:x∈putK kv k v↔x = (k,v)∨x∈kv:=by
 unfold putK
 rw [h]
 simp only [Bool.false_eq_true,if_false,List.mem_append,List.mem_cons]
 conv=>rhs; rhs; rw [← List.take_append_drop (at' kv k) kv,List.mem_append]
 constructor
 · rintro (h | h | h)
   · exact .inr (.inl h)
   · exact .inl h
   · exact .inr (.inr h)
 · rintro (h | h | h)
   · exact .inr (.inl h)
   · exact .inl h
   · exact .inr (.inr h)
theorem at_le (kv:List (Int×α)) (k:Int):at' kv k≤kv.length:=by have:=lb_le (k:=k) (ks kv); rw [ks_len] at this; exact this
theorem set_lk {kv:List (Int×α)} {k:Int} {v:α} (hs:Up kv) (h:hasK kv k = true) (k':Int):lk (kv.set (at' kv k) (k,v)) k' = if k' = k then some v else lk kv k':=by
 have hk:ks (kv.set (at' kv k) (k,v)) = ks kv:=by
  have:=(putK_old (v:=v) h).1
  unfold putK at this
  rw [h,if_pos rfl] at this
  exact this
 have hu:Up (kv.set (at' kv k) (k,v)):=by unfold Up; rw [hk]; exact hs
 have hl:=at_lt h
 refine Option.ext fun z=>?_
 show lk _ _ = some z↔_ = some z
 rw [lk_iff hu]
 have h1:(ks kv)[at' kv k]? = some k:=of_decide_eq_true h
 constructor
 · intro hm
   obtain ⟨i,hi⟩:=List.mem_iff_getElem?.1 hm
   rw [List.getElem?_set] at hi
   split at hi
   · cases hi
     rw [if_pos rfl]
   · rename_i hne
     have e:=kv_split hi
     rw [if_neg (fun e'=>hne (up_inj hs (by rw [e'] at e; exact h1) (by rw [e'] at e; exact e.1)))]
     exact (lk_iff hs).2 (List.mem_of_getElem? hi)
 · intro hh
   split at hh
   · rename_i e
     subst e
     cases hh
     exact List.mem_of_getElem? (i:=at' kv k') (by rw [List.getElem?_set,if_pos rfl,if_pos hl])
   · rename_i e
     obtain ⟨i,hi⟩:=List.mem_iff_getElem?.1 ((lk_iff hs).1 hh)
     refine List.mem_of_getElem? (i:=i) ?_
     rw [List.getElem?_set,if_neg,hi]
     rintro rfl
     have:=(kv_split hi).1
     rw [h1] at this
     exact e (Option.some.inj this).symm
theorem lk_put {kv:List (Int×α)} {k:Int} {v:α} (hs:Up kv) (k':Int):lk (putK kv k v) k' = if k' = k then some v else lk kv k':=by
 cases h:hasK kv k
 · refine Option.ext fun z=>?_
   show lk _ _ = some z↔_ = some z
   rw [lk_iff (putK_up hs),putK_mem h]
   by_cases e:k' = k
   · subst e
     rw [if_pos rfl]
     constructor
     · rintro (h1 | h1)
       · cases h1; rfl
       · have:=(lk_iff hs).2 h1
         rw [lk,h] at this; cases this
     · intro h1; cases h1; exact .inl rfl
   · rw [if_neg e,lk_iff hs]
     constructor
     · rintro (h1 | h1)
       · cases h1; exact absurd rfl e
       · exact h1
     · exact .inr
 · have:putK kv k v = kv.set (at' kv k) (k,v):=by unfold putK; rw [h,if_pos rfl]
   rw [this]
   exact set_lk hs h k'
theorem lk_take {kv:List (Int×α)} {k:Int} (hs:Up kv) (k':Int):lk (takeK kv k) k' = if k' = k then none else lk kv k':=by
 cases h:hasK kv k
 · unfold takeK
   rw [h]
   by_cases e:k' = k
   · subst e; rw [if_pos rfl]; simp only [Bool.false_eq_true,if_false]; unfold lk; rw [h]; rfl
   · rw [if_neg e]; rfl
 · have h1:(ks kv)[at' kv k]? = some k:=of_decide_eq_true h
   have hl:=at_lt h
   have hk:kv[at' kv k].1 = k:=by
    have:=(List.getElem?_eq_some_iff.1 h1).2
    simpa [ks] using this
   refine Option.ext fun z=>?_
   show lk _ _ = some z↔_ = some z
   rw [lk_iff (takeK_up hs)]
   have hm:(k',z)∈kv↔_:=zzl4 (i:=at' kv k) (List.getElem?_eq_getElem hl)
   have hm2:(k',z)∈takeK kv k↔(k',z)∈kv.take (at' kv k)∨(k',z)∈kv.drop (at' kv k + 1):=by
    unfold takeK; rw [h,if_pos rfl,List.eraseIdx_eq_take_drop_succ,List.mem_append]
   rw [hm2]
   have hne:(k',z)∈kv.take (at' kv k)∨(k',z)∈kv.drop (at' kv k + 1)→k'≠k:=by
    rintro (h2 | h2) rfl
    · obtain ⟨t,ht⟩:=List.mem_iff_getElem?.1 h2
      rw [List.getElem?_take] at ht
      split at ht
      · have:=(kv_split ht).1
        have:=up_inj hs this h1
        omega
      · cases ht
    · obtain ⟨t,ht⟩:=List.mem_iff_getElem?.1 h2
      rw [List.getElem?_drop] at ht
      have:=(kv_split ht).1
      have:=up_inj hs this h1
      omega
   by_cases e:k' = k
   · rw [if_pos e]
     exact ⟨fun h2=>absurd e (hne h2),fun h2=>by cases h2⟩
   · rw [if_neg e,lk_iff hs,hm]
     constructor
     · rintro (h2 | h2)
       · exact .inl h2
       · exact .inr (.inr h2)
     · rintro (h2 | h2 | h2)
       · exact .inl h2
       · have:k' = kv[at' kv k].1:=congrArg Prod.fst h2
         exact absurd (this.trans hk) e
       · exact .inr h2
theorem take_has {kv:List (Int×α)} {k:Int} (hs:Up kv):hasK (takeK kv k) k = false:=by
 rw [hasK_lk,lk_take hs,if_pos rfl]; rfl
end
def fgtF (dev:Int) (a:List Ch×Vi) (e:Int):List Ch×Vi:=(a.1 ++ forgetC a.2 dev e,forgetS a.2 dev e)
def fgt (s:Vi) (dev:Int) (evs:List Int):List Ch×Vi:=evs.foldl (fgtF dev) ([],s)
theorem fgt_next (s:Vi) (dev:Int) (evs:List Int) (e:Int):fgt s dev (evs ++ [e]) = fgtF dev (fgt s dev evs) e:=by simp [fgt]
theorem fgt_has {s:Vi} {dev:Int} (h:hasK s.devs dev = true) (evs:List Int):hasK (fgt s dev evs).2.devs dev = true:=by
 suffices ∀ (a:List Ch×Vi),hasK a.2.devs dev = true→hasK (evs.foldl (fgtF dev) a).2.devs dev = true from this ([],s) h
 induction evs with
 | nil=>intro a h; exact h
 | cons e r ih=>intro a h; exact ih _ (ev_has h)
theorem fgt_ks {s:Vi} {dev:Int} (h:hasK s.devs dev = true) (evs:List Int):ks (fgt s dev evs).2.devs = ks s.devs:=by
 suffices ∀ (a:List Ch×Vi),hasK a.2.devs dev = true→ks (evs.foldl (fgtF dev) a).2.devs = ks a.2.devs from this ([],s) h
 induction evs with
 | nil=>intro a h; rfl
 | cons e r ih=>intro a h; exact (ih _ (ev_has h)).trans (setK_ks h)
theorem fgtC_len (s:Vi) (dev e:Int):(forgetC s dev e).length≤2:=by unfold forgetC; split <;> simp
theorem fgt_len (s:Vi) (dev:Int) (evs:List Int):(fgt s dev evs).1.length≤2 * evs.length:=by
 suffices ∀ (a:List Ch×Vi),(evs.foldl (fgtF dev) a).1.length≤a.1.length + 2 * evs.length from by simpa [fgt] using this ([],s)
 induction evs with
 | nil=>intro a; simp
 | cons e r ih =>
  intro a
  refine Nat.le_trans (ih _) ?_
  have:=fgtC_len a.2 dev e
  simp only [fgtF,List.length_append,List.length_cons]
  omega
def dropS (s:Vi) (dev:Int):Vi:={ s with devs:=takeK s.devs dev }
def goneM (s:Vi) (dev:Int):List Ch×Vi :=
 if hasK s.devs dev then ((fgt s dev (ks (s.dev dev).evs)).1,dropS (fgt s dev (ks (s.dev dev).evs)).2 dev) else ([],s)
def mapdE (c:Cm) (size:Int):Int :=
 if evN c.bits > 16 then 181 else if c.val = true∧(c.addr > size∨IntKind.i64.wrap (8 * evN c.bits) > IntKind.i64.wrap (size - c.addr)) then 241 else 0
def mapdM (s:Vi) (c:Cm) (size:Int) (p:Nat):List Ch×Vi×Int :=
 if mapdE c size≠0 then ([],s,mapdE c size)
 else ((goneM s c.dev).1,(if c.val then { (goneM s c.dev).2 with devs:=putK (goneM s c.dev).2.devs c.dev ⟨c.bits,p,[]⟩ } else (goneM s c.dev).2),0)
theorem app_els2 {E:El P} {w w0:World} {S0:Nat→Prop} {L F F2:List It} {p q:Option Addr} {c m c2:Nat} {xs ys:List E.α} {ty:TypeId} (H:X.Own w0 S0 L w) (hp:Pick L (els E p c xs) F) (hq:Pick L (els E q c2 ys) F2) (hm:m = ys.length)
 (hl:(xs.length + ys.length) * E.bytes≤140737488355328) (hl2:xs.length + ys.length≤NB) {c3:Nat} {K:Option Addr→Nat→Nat→World→Prop}
 (k:∀ p' c' w',X.Own w0 S0 (els E p' c' (xs ++ ys) :: F) w'→K p' (xs ++ ys).length c' w') :
 runS P (Builtin.append_ #[E.ta,E.ta] ty [.slice p xs.length c,.slice q m c3].toArray) w K:=by
 subst hm
 unfold NB at hl2
 refine app_o E.hT E.hz H hp (H.rd hq own_slZ) (El.flat_len ys) (El.flat_one ys) (by unfold maxLen; omega) hl fun p' c' w' H=>?_
 have:=k p' c' w' (by unfold els; rw [List.length_append,El.flat_app]; exact H)
 rw [List.length_append] at this
 exact this
theorem pairsr_at {evs:List (Int×RtE)} {k:Nat} {x:List Value} (h:(pairsr evs)[k]? = some x):∃ u:Int×RtE,evs[k]? = some u∧x = [.int .i64 u.1,rtV u.2]:=by
 unfold pairsr at h
 rw [List.getElem?_map] at h
 cases hu:evs[k]? with
 | none=>rw [hu] at h; cases h
 | some u=>rw [hu] at h; cases h; exact ⟨u,rfl,rfl⟩
theorem ks_take {α:Type} {kv:List (Int×α)} {k:Nat} {u:Int×α} (h:kv[k]? = some u):(ks kv).take (k + 1) = (ks kv).take k ++ [u.1]:=by
 rw [List.take_add_one]
 unfold ks
 rw [List.getElem?_map,h]; rfl
theorem mapd_t (b:Nat) (s:Vi) (c:Cm) (r:Ru) {po:Option Addr} {no co:Nat} (hb:0≤c.bits) (hE:(s.dev c.dev).evs.length < 1099511627776) (hD:s.devs.length + 1 < NB) :
 Tri P F.zzdt [ptr b,cmV c,ruV r po no co] [vitsI b s] fun v L'=>∃ p,ToldAs b (mapdM s c r.s p) v L':=by
 intro w S hS
 refine zzll ?_
 unfold zzdt
 have H:=Own.start hS
 refine alc_o H fun b18 wx H=>alc_o H fun b20 wx H=>alc_o H fun b22 wx H=>?_
 repeat (first | refine lIa H ?_ | refine lLa H ?_ | refine lBa H ?_ | refine lPa H ?_ | refine lSa H ?_)
 have err:∀ (e:Int) (wx:World),e≠0→mapdE c r.s = e→X.Own w S [vitsI b s] wx→∃ L',(∃ p,ToldAs b (mapdM s c r.s p) (.tuple [.slice none 0 0,.int .i64 e].toArray) L')∧X.Own w S L' wx:=by
  intro e wx h1 h2 H
  obtain ⟨L',h3,h4⟩:=told_err (e:=e) H
  refine ⟨L',⟨0,?_⟩,h4⟩
  unfold mapdM
  rw [h2,if_pos h1]
  exact h3
 refine ⟨hb,cnd_i (fun h1=>?_) fun h1=>join_o ?_⟩
 · have h1:evN c.bits > 16:=of_decide_eq_true h1
   exact err 181 _ (by omega) (by unfold mapdE; rw [if_pos h1]) (H.dp)
 have h1:¬ evN c.bits > 16:=of_decide_eq_false h1
 -- behind all: a device is put
 have last:∀ (dl:List Nat) (wx:World) (xs:List Ch) (s1:Vi) (p:Option Addr) (cc:Nat),mapdE c r.s = 0→goneM s c.dev = (xs,s1)→hasK s1.devs c.dev = false→s1.devs.length + 1 < NB →
  ∀ b28:Nat,X.Own w S (row b28 [.slice p xs.length cc] tChanges :: chs p cc xs :: vitsI b s1 :: row b18 [ptr b] T.t30 :: row b20 c.cells tCmd :: dl.map defI) wx →
  zzel (fun v w'=>∃ L',(∃ p,ToldAs b (mapdM s c r.s p) v L')∧X.Own w S L' w') b18 b20 b28 wx (dl.map mkD):=by
  intro dl wx xs s1 p cc g1 g2 g3 g4 b28 H
  unfold zzel
  refine join_o ?_
  have fin:∀ (wx:World) (pn:Nat) (s2:Vi),mapdM s c r.s pn = (xs,s2,0)→X.Own w S (row b28 [.slice p xs.length cc] tChanges :: chs p cc xs :: vitsI b s2 :: row b18 [ptr b] T.t30 :: row b20 c.cells tCmd :: dl.map defI) wx →
   zzgb (fun v w'=>∃ L',(∃ p,ToldAs b (mapdM s c r.s p) v L')∧X.Own w S L' w') b28 (dl.map mkD) wx:=by
   intro wx pn s2 g5 H
   unfold zzgb
   refine ldL_o H .here (by rfl) ?_
   have H:=own_comm (A:=[row b28 [.slice p xs.length cc] tChanges,chs p cc xs,vitsI b s2,row b18 [ptr b] T.t30,row b20 c.cells tCmd]) H
   refine takes_o dl H fun wx H=>?_
   refine ⟨_,⟨pn,?_⟩,H.drop (L1:=[chs p cc xs,vitsI b s2]) (by repeat (first | exact Cut.nil | (apply Cut.cons; (repeat (first | exact Pick.here | apply Pick.there)))))⟩
   rw [g5]
   exact ⟨p,cc,rfl,rfl⟩
  repeat (first | refine lIa H ?_ | refine lLa H ?_ | refine lBa H ?_ | refine lPa H ?_ | refine lSa H ?_)
  refine cnd_i (fun hv=>?_) fun hv=>?_
  · refine drw_o H fun wx H=>?_
    repeat (first | refine lIa H ?_ | refine lLa H ?_ | refine lBa H ?_ | refine lPa H ?_ | refine lSa H ?_)
    obtain ⟨bd,bc,H⟩:=zzai H (by repeat (first | exact Pick.here | apply Pick.there))
    dsimp only [nn]
    repeat (first | refine lIa H ?_ | refine lLa H ?_ | refine lBa H ?_ | refine lPa H ?_ | refine lSa H ?_)
    refine call_oa H (new_r) fun vx L' wx hq H=>?_
    obtain ⟨pn,rfl,rfl⟩:=hq
    simp only [List.cons_append,List.nil_append] at H
    refine ⟨_,rfl,?_,?_,?_,?_,?_⟩
    · repeat (first | refine lIa H ?_ | refine lLa H ?_ | refine lBa H ?_ | refine lPa H ?_ | refine lSa H ?_)
      rfl
    · repeat (first | refine lIa H ?_ | refine lLa H ?_ | refine lBa H ?_ | refine lPa H ?_ | refine lSa H ?_)
      rfl
    · repeat (first | refine lIa H ?_ | refine lLa H ?_ | refine lBa H ?_ | refine lPa H ?_ | refine lSa H ?_)
      rfl
    · repeat (first | refine lIa H ?_ | refine lLa H ?_ | refine lBa H ?_ | refine lPa H ?_ | refine lSa H ?_)
      rfl
    refine call_o H (put_d bd (mapv DvI.e s1.devs) c.dev ⟨c.bits,some ⟨pn,0,none⟩⟩ (by rw [mapv_len]; exact g4)) (by repeat (first | exact Cut.nil | (apply Cut.cons; (repeat (first | exact Pick.here | apply Pick.there))))) fun vx L' wx hq H=>?_
    obtain ⟨rfl,rfl⟩:=hq
    simp only [List.cons_append,List.nil_append] at H
    refine ⟨_,rfl,?_⟩
    have e1:putK (mapv DvI.e s1.devs) c.dev ⟨c.bits,some ⟨pn,0,none⟩⟩ = mapv DvI.e (putK s1.devs c.dev ⟨c.bits,pn,[]⟩):=(mapv_put s1.devs c.dev ⟨c.bits,pn,[]⟩).symm
    rw [e1] at H
    have H:=H.perm (L1:=[evI (c.dev,⟨c.bits,pn,[]⟩),starI (s1.devs.map evI)]) (by repeat (first | exact Cut.nil | (apply Cut.cons; (repeat (first | exact Pick.here | apply Pick.there)))))
    simp only [List.cons_append,List.nil_append] at H
    have H:=star_ins (g:=evI) (at_le s1.devs c.dev) H
    have e2:X.ins s1.devs (at' s1.devs c.dev) (c.dev,⟨c.bits,pn,[]⟩) = putK s1.devs c.dev ⟨c.bits,pn,[]⟩:=by unfold X.ins putK; rw [g3]; rfl
    rw [e2] at H
    have H:=H.perm (L1:=[row b (({ s1 with devs:=putK s1.devs c.dev ⟨c.bits,pn,[]⟩ }:Vi).cells bd bc) tVits,bookG ED tBookD bd (mapv DvI.e (putK s1.devs c.dev ⟨c.bits,pn,[]⟩)),bookG EI tBookI bc s1.colls,starI ((putK s1.devs c.dev ⟨c.bits,pn,[]⟩).map evI)]) (by repeat (first | exact Cut.nil | (apply Cut.cons; (repeat (first | exact Pick.here | apply Pick.there)))))
    simp only [List.cons_append,List.nil_append] at H
    have H:=zzab (s:={ s1 with devs:=putK s1.devs c.dev ⟨c.bits,pn,[]⟩ }) H
    refine fin _ pn { s1 with devs:=putK s1.devs c.dev ⟨c.bits,pn,[]⟩ } ?_ ?_
    · unfold mapdM
      rw [g1,if_neg (by simp),g2,hv]; rfl
    · exact H.perm (L1:=[row b28 [.slice p xs.length cc] tChanges,chs p cc xs,vitsI b { s1 with devs:=putK s1.devs c.dev ⟨c.bits,pn,[]⟩ },row b18 [ptr b] T.t30,row b20 c.cells tCmd]) (by repeat (first | exact Cut.nil | (apply Cut.cons; (repeat (first | exact Pick.here | apply Pick.there)))))
  · refine fin _ 0 s1 ?_ H
    unfold mapdM
    rw [g1,if_neg (by simp),g2,hv]; rfl
 have go:∀ (x:Bool) (wx:World),(x = true↔(c.val = true∧(c.addr > r.s∨IntKind.i64.wrap (8 * evN c.bits) > IntKind.i64.wrap (r.s - c.addr))))→X.Own w S [vitsI b s,row b18 [ptr b] T.t30,row b20 c.cells tCmd] wx →
  zzgd (fun v w'=>∃ L',(∃ p,ToldAs b (mapdM s c r.s p) v L')∧X.Own w S L' w') b18 b20 x wx:=by
  intro x wx hx H
  unfold zzgd
  refine cnd_i (fun h2=>?_) fun h2=>?_
  · exact err 241 _ (by omega) (by unfold mapdE; rw [if_neg h1,if_pos (hx.1 h2)]) (H.dp)
  have h2:¬ (c.val = true∧(c.addr > r.s∨IntKind.i64.wrap (8 * evN c.bits) > IntKind.i64.wrap (r.s - c.addr))):=fun hh=>by rw [hx.2 hh] at h2; cases h2
  have h0:mapdE c r.s = 0:=by unfold mapdE; rw [if_neg h1,if_neg h2]
  refine alc_o H fun b28 wx H=>join_o (join_o ?_)
  have fin:∀ (b60:Nat) (wx:World),X.Own w S [row b60 [.int .i64 (getK dv0 (mapv DvI.e s.devs) c.dev).bits,.pointer (getK dv0 (mapv DvI.e s.devs) c.dev).ptr] tDevice,row b28 [.slice none 0 0] tChanges,vitsI b s,row b18 [ptr b] T.t30,row b20 c.cells tCmd] wx →
   zzgc (fun v w'=>∃ L',(∃ p,ToldAs b (mapdM s c r.s p) v L')∧X.Own w S L' w') b18 b20 b28 (fun s143 w144=>zzel (fun v w'=>∃ L',(∃ p,ToldAs b (mapdM s c r.s p) v L')∧X.Own w S L' w') b18 b20 b28 w144 s143.2) b60 (hasK s.devs c.dev) wx:=by
   intro b60 wx H
   unfold zzgc
   refine cnd_i (fun h=>?_) fun h=>?_
   · rw [dev_get h] at H
     repeat (first | refine lIa H ?_ | refine lLa H ?_ | refine lBa H ?_ | refine lPa H ?_ | refine lSa H ?_)
     obtain ⟨bd,bc,H⟩:=zzai H (by repeat (first | exact Pick.here | apply Pick.there))
     have hup0:=(zzlf H (E:=ED) (tb:=tBookD) (b:=bd) (kv:=mapv DvI.e s.devs) (by repeat (first | exact Pick.here | apply Pick.there))).1
     rw [mapv_ks] at hup0
     have H:=dev_open h H
     refine call_o H (all_r (s.dev c.dev).ptr (s.dev c.dev).evs) (by repeat (first | exact Cut.nil | (apply Cut.cons; (repeat (first | exact Pick.here | apply Pick.there))))) fun vx L' wx hq H=>?_
     obtain ⟨g,hh,p,cc,q,c2,rfl,rfl⟩:=hq
     unfold thrEr at H
     simp only [List.cons_append,List.nil_append] at H
     have H:=H.perm (L1:=[bookG ER tBookR (s.dev c.dev).ptr (s.dev c.dev).evs,row b (s.cells bd bc) tVits,bookG ED tBookD bd (mapv DvI.e s.devs),bookG EI tBookI bc s.colls,starI ((s.devs.eraseIdx (at' s.devs c.dev)).map evI)]) (by repeat (first | exact Cut.nil | (apply Cut.cons; (repeat (first | exact Pick.here | apply Pick.there)))))
     simp only [List.cons_append,List.nil_append] at H
     have H:=zzab (dev_back h H)
     refine ⟨_,rfl,?_⟩
     have H:=chs_nil H
     have H:=H.drop (L1:=[chs none 0 [],row b28 [.slice none 0 0] tChanges,vitsI b s,row b18 [ptr b] T.t30,row b20 c.cells tCmd,row g [.slice p (ks (s.dev c.dev).evs).length cc] tInts,row hh [.slice q (vs (s.dev c.dev).evs).length c2] ER.ta,nums p cc (ks (s.dev c.dev).evs),els ER q c2 (vs (s.dev c.dev).evs)]) (by repeat (first | exact Cut.nil | (apply Cut.cons; (repeat (first | exact Pick.here | apply Pick.there)))))
     generalize hevs:(s.dev c.dev).evs = evs at *
     refine rf_o (L0:=[chs none 0 [],row b28 [.slice none 0 0] tChanges,vitsI b s,row b18 [ptr b] T.t30,row b20 c.cells tCmd]) (E:=thrEr g hh p cc q c2 evs)
      (fun k L=>∃ (p:Option Addr) (cc:Nat),L = [chs p cc (fgt s c.dev ((ks evs).take k)).1,row b28 [.slice p (fgt s c.dev ((ks evs).take k)).1.length cc] tChanges,vitsI b (fgt s c.dev ((ks evs).take k)).2,row b18 [ptr b] T.t30,row b20 c.cells tCmd]) (fun c L=>False)
      thrr_enters (thrr_it g hh p cc q c2 evs (by unfold NB; omega)) (pairsr_len evs) (by unfold thrEr; exact H) ⟨none,0,rfl⟩ ?_ ?_ ?_
     · rintro k x _ F l r2 d wx Q2 hx ⟨p1,c1,rfl⟩ H hgo hdone
       obtain ⟨u,hu,rfl⟩:=pairsr_at hx
       have hkl:k < evs.length:=(List.getElem?_eq_some_iff.1 hu).1
       have hfl:=fgt_len s c.dev ((ks evs).take k)
       have htl:((ks evs).take k).length≤k:=List.length_take_le _ _
       unfold zzid
       dsimp only [X.b2]
       refine ⟨_,rfl,rec_o H .here fun wx H=>?_⟩
       refine drw_o H fun wx H=>?_
       simp only [List.cons_append,List.nil_append] at H
       repeat (first | refine lIa H ?_ | refine lLa H ?_ | refine lBa H ?_ | refine lPa H ?_ | refine lSa H ?_)
       refine call_o H (forget_t b (fgt s c.dev ((ks evs).take k)).2 c.dev u.1 (fgt_has h _)) (by repeat (first | exact Cut.nil | (apply Cut.cons; (repeat (first | exact Pick.here | apply Pick.there))))) fun vx L' wx hq H=>?_
       obtain ⟨p2,c2',rfl,rfl⟩:=hq
       simp only [List.cons_append,List.nil_append] at H
       refine ⟨_,_,_,rfl,?_,?_⟩
       · repeat (first | refine lIa H ?_ | refine lLa H ?_ | refine lBa H ?_ | refine lPa H ?_ | refine lSa H ?_)
         rfl
       have hcl:=fgtC_len (fgt s c.dev ((ks evs).take k)).2 c.dev u.1
       refine app_els2 (E:=EC) (xs:=(fgt s c.dev ((ks evs).take k)).1) (ys:=forgetC (fgt s c.dev ((ks evs).take k)).2 c.dev u.1) H (by repeat (first | exact Pick.here | apply Pick.there)) .here rfl (by show (_ + _) * 48≤_; omega) (by unfold NB; omega) fun p3 c3 wx H=>?_
       refine sta H fun wx H=>?_
       have H:=H.rest (L1:=[chs p2 c2' (forgetC (fgt s c.dev ((ks evs).take k)).2 c.dev u.1)]) (by repeat (first | exact Cut.nil | (apply Cut.cons; (repeat (first | exact Pick.here | apply Pick.there)))))
       have en:fgt s c.dev ((ks evs).take (k + 1)) = ((fgt s c.dev ((ks evs).take k)).1 ++ forgetC (fgt s c.dev ((ks evs).take k)).2 c.dev u.1,forgetS (fgt s c.dev ((ks evs).take k)).2 c.dev u.1):=by
        rw [ks_take hu,fgt_next]; rfl
       have H:=H.perm (L1:=[recI l r2 .busy none,defI d,chs p3 c3 ((fgt s c.dev ((ks evs).take k)).1 ++ forgetC (fgt s c.dev ((ks evs).take k)).2 c.dev u.1),row b28 _ tChanges,vitsI b (forgetS (fgt s c.dev ((ks evs).take k)).2 c.dev u.1),row b18 [ptr b] T.t30,row b20 c.cells tCmd]) (by repeat (first | exact Cut.nil | (apply Cut.cons; (repeat (first | exact Pick.here | apply Pick.there)))))
       simp only [List.cons_append,List.nil_append] at H
       refine rec_o H .here fun wx H=>hgo [chs p3 c3 (fgt s c.dev ((ks evs).take (k + 1))).1,row b28 [.slice p3 (fgt s c.dev ((ks evs).take (k + 1))).1.length c3] tChanges,vitsI b (fgt s c.dev ((ks evs).take (k + 1))).2,row b18 [ptr b] T.t30,row b20 c.cells tCmd] wx ⟨p3,c3,rfl⟩ ?_
       rw [en]
       exact H
     · rintro d _ wx ⟨p1,c1,rfl⟩ H
       have hn:(ks evs).take (pairsr evs).length = ks evs:=List.take_of_length_le (by rw [ks_len]; simp [pairsr])
       rw [hn] at H
       dsimp only [jmpX]
       simp only [List.cons_append,List.nil_append] at H
       refine drw_o H fun wx H=>?_
       have hfk:=fgt_ks h (ks evs)
       have hfh:hasK (fgt s c.dev (ks evs)).2.devs c.dev = true:=fgt_has h _
       generalize hfg:fgt s c.dev (ks evs) = fg at *
       repeat (first | refine lIa H ?_ | refine lLa H ?_ | refine lBa H ?_ | refine lPa H ?_ | refine lSa H ?_)
       obtain ⟨bd,bc,H⟩:=zzai H (by repeat (first | exact Pick.here | apply Pick.there))
       dsimp only [nn]
       repeat (first | refine lIa H ?_ | refine lLa H ?_ | refine lBa H ?_ | refine lPa H ?_ | refine lSa H ?_)
       refine call_o H (take_d bd (mapv DvI.e fg.2.devs) c.dev) (by repeat (first | exact Cut.nil | (apply Cut.cons; (repeat (first | exact Pick.here | apply Pick.there))))) fun vx L' wx hq H=>?_
       obtain ⟨rfl,rfl⟩:=hq
       simp only [List.cons_append,List.nil_append] at H
       rw [mapv_has]
       refine ⟨_,_,_,rfl,?_⟩
       have e1:takeK (mapv DvI.e fg.2.devs) c.dev = mapv DvI.e (dropS fg.2 c.dev).devs:=(mapv_take fg.2.devs c.dev).symm
       have e2:(dropS fg.2 c.dev).devs = fg.2.devs.eraseIdx (at' fg.2.devs c.dev):=by show takeK _ _ = _; unfold takeK; rw [hfh,if_pos rfl]
       have hup:=zzlf H (E:=ED) (tb:=tBookD) (b:=bd) (kv:=takeK (mapv DvI.e fg.2.devs) c.dev) (by repeat (first | exact Pick.here | apply Pick.there))
       rw [e1] at H
       have H:=H.perm (L1:=[starI (fg.2.devs.map evI)]) (by repeat (first | exact Cut.nil | (apply Cut.cons; (repeat (first | exact Pick.here | apply Pick.there)))))
       simp only [List.cons_append,List.nil_append] at H
       have H:=star_open (g:=evI) (dev_at hfh) H
       rw [← e2] at H
       have H:=H.perm (L1:=[row b ((dropS fg.2 c.dev).cells bd bc) tVits,bookG ED tBookD bd (mapv DvI.e (dropS fg.2 c.dev).devs),bookG EI tBookI bc (dropS fg.2 c.dev).colls,starI ((dropS fg.2 c.dev).devs.map evI)]) (by repeat (first | exact Cut.nil | (apply Cut.cons; (repeat (first | exact Pick.here | apply Pick.there)))))
       simp only [List.cons_append,List.nil_append] at H
       have H:=zzab (s:=dropS fg.2 c.dev) H
       refine last [d] wx fg.1 (dropS fg.2 c.dev) p1 c1 h0 ?_ ?_ ?_ b28 (H.drop (L1:=[row b28 [.slice p1 fg.1.length c1] tChanges,chs p1 c1 fg.1,vitsI b (dropS fg.2 c.dev),row b18 [ptr b] T.t30,row b20 c.cells tCmd,defI d]) (by repeat (first | exact Cut.nil | (apply Cut.cons; (repeat (first | exact Pick.here | apply Pick.there))))))
       · unfold goneM
         rw [h,if_pos rfl,hevs,hfg]
       · exact take_has (by unfold Up; rw [hfk]; exact hup0)
       · have:=takeK_len fg.2.devs c.dev
         have hl:=congrArg List.length hfk
         rw [ks_len,ks_len] at hl
         show (takeK fg.2.devs c.dev).length + 1 < NB
         omega
     · intro d c L w h; exact h.elim
   · have H:=chs_nil H
     have hg:goneM s c.dev = ([],s):=by unfold goneM; rw [h]; rfl
     exact last [] _ [] s none 0 h0 hg h hD b28 (H.dp)
  obtain ⟨bd,bc,H⟩:=zzai H (by repeat (first | exact Pick.here | apply Pick.there))
  refine drw_o H fun wx H=>?_
  repeat (first | refine lIa H ?_ | refine lLa H ?_ | refine lBa H ?_ | refine lPa H ?_ | refine lSa H ?_)
  dsimp only [nn]
  repeat (first | refine lIa H ?_ | refine lLa H ?_ | refine lBa H ?_ | refine lPa H ?_ | refine lSa H ?_)
  refine ⟨?_,?_⟩
  · refine call_pa H (get_d bd (mapv DvI.e s.devs) c.dev) fun wx H=>?_
    rw [mapv_has]
    refine ⟨_,_,_,rfl,alc_o H fun b65 wx H=>⟨?_,?_,?_,?_⟩⟩
    · repeat (first | refine lIa H ?_ | refine lLa H ?_ | refine lBa H ?_ | refine lPa H ?_ | refine lSa H ?_)
      rfl
    · repeat (first | refine lIa H ?_ | refine lLa H ?_ | refine lBa H ?_ | refine lPa H ?_ | refine lSa H ?_)
      rfl
    · repeat (first | refine lIa H ?_ | refine lLa H ?_ | refine lBa H ?_ | refine lPa H ?_ | refine lSa H ?_)
      rfl
    iterate 2 refine sta H fun wx H=>?_
    have H:=zzab (H.perm (L1:=[row b (s.cells bd bc) tVits,bookG ED tBookD bd (mapv DvI.e s.devs),bookG EI tBookI bc s.colls,starI (s.devs.map evI)]) (by repeat (first | exact Cut.nil | (apply Cut.cons; (repeat (first | exact Pick.here | apply Pick.there))))))
    exact fin b65 _ (H.dp)
  · refine alc_o H fun b71 wx H=>⟨?_,?_,?_,?_⟩
    · repeat (first | refine lIa H ?_ | refine lLa H ?_ | refine lBa H ?_ | refine lPa H ?_ | refine lSa H ?_)
      rfl
    · repeat (first | refine lIa H ?_ | refine lLa H ?_ | refine lBa H ?_ | refine lPa H ?_ | refine lSa H ?_)
      rfl
    · repeat (first | refine lIa H ?_ | refine lLa H ?_ | refine lBa H ?_ | refine lPa H ?_ | refine lSa H ?_)
      rfl
    refine call_pa H (get_d bd (mapv DvI.e s.devs) c.dev) fun wx H=>?_
    rw [mapv_has]
    refine ⟨_,_,_,rfl,?_⟩
    iterate 2 refine sta H fun wx H=>?_
    have H:=zzab (H.perm (L1:=[row b (s.cells bd bc) tVits,bookG ED tBookD bd (mapv DvI.e s.devs),bookG EI tBookI bc s.colls,starI (s.devs.map evI)]) (by repeat (first | exact Cut.nil | (apply Cut.cons; (repeat (first | exact Pick.here | apply Pick.there))))))
    exact fin b71 _ (H.dp)
 repeat (first | refine lIa H ?_ | refine lLa H ?_ | refine lBa H ?_ | refine lPa H ?_ | refine lSa H ?_)
 refine cnd_i (fun hv=>?_) fun hv=>?_
 · repeat (first | refine lIa H ?_ | refine lLa H ?_ | refine lBa H ?_ | refine lPa H ?_ | refine lSa H ?_)
   refine cnd_i (fun ha=>?_) fun ha=>?_
   · exact go true _ (by simp [hv,of_decide_eq_true ha]) (H.dp)
   · have ha:=of_decide_eq_false ha
     repeat (first | refine lIa H ?_ | refine lLa H ?_ | refine lBa H ?_ | refine lPa H ?_ | refine lSa H ?_)
     exact go _ _ (by rw [hv]; simp [ha]; rfl) (H.dp)
 · exact go false _ (by simp [hv]) (H.dp)
end Go.Proofs.YtidcijbnbdemeaaGreat
namespace Go.Proofs.YtidcijbnbdemeaaGreat.X
open Go Go.RowKit
variable {P:Program} {w w0:World} {S0:Nat→Prop}
theorem rf_s {L0 Fz E:List It} {f:FuncId} {cap:List Value} {xs:List (List Value)} {np:Nat} {B:Nat→Loop→List Value→World→(Value→World→Prop)→Prop} {K:List Deferred→Option Code→World→Prop} {l0:Nat} {r0:Loop} {st0:LoopState} {j0:Option Code} (hl0:Pick (L0 ++ E) (recI l0 r0 st0 j0) Fz)
 (I:Nat→List It→Prop) (D:Code→List It→Prop) (hen:enters P f = true) (hit:Iter P f cap E xs) (hnp:∀ x∈xs,x.length = np) (H:Own w0 S0 (L0 ++ E) w) (h0:I 0 L0)
 (hB:∀ (k:Nat) (x:List Value) (L F:List It) (l:Nat) (r:Loop) (w:World) (Q:Value→World→Prop),xs[k]? = some x→I k L→Own w0 S0 (recI l r .ready none :: (L ++ (E ++ F))) w →
  (∀ L' w',I (k + 1) L'→Own w0 S0 (recI l r .ready none :: (L' ++ (E ++ F))) w'→Q (.bool true) w') →
  (∀ c L' w',D c L'→Own w0 S0 (recI l r .done (some c) :: (L' ++ (E ++ F))) w'→Q (.bool false) w')→B l r x w Q)
 (hend:∀ L w,I xs.length L→Own w0 S0 (L ++ E) w→K [] none w)
 (hstop:∀ c L w,D c L→Own w0 S0 (L ++ E) w→K [] (some c) w) :
 RF P (some l0) np (.func (.func f) [].toArray cap.toArray) w B K:=by
 unfold RF inLoop
 simp only
 refine ⟨?_,?_⟩
 · obtain ⟨S,⟨g1,_⟩,_⟩:=H.pick hl0
   exact ⟨_,g1⟩
 intro r l w1 mark hE hYV
 simp only [Entered] at hE
 obtain ⟨rfl,rfl,rfl⟩:=hE
 have H2:Own w0 S0 (recI w.heap.size r .ready none :: (L0 ++ E)) (w.alloc (.loop { r with state:=.ready,pending:=none })) :=
  H.add (i:=recI _ r .ready none) ((Below.refl _ _).alloc (Nat.le_refl _) _) (S:=fun k=>k = w.heap.size) ⟨by unfold recAt; exact World.alloc_heap_new _ _,fun _=>Iff.rfl⟩ (by rintro k rfl; exact Nat.le_refl _)
 refine enters_cv hen ?_
 refine hit _ w0 S0 (recI w.heap.size r .ready none :: L0) _ _ (fun k L'=>∃ L,I k L∧L' = recI w.heap.size r .ready none :: L)
  (fun L'=>∃ c L,D c L∧L' = recI w.heap.size r .done (some c) :: L) ⟨_,_,_,rfl⟩ H2 ⟨L0,h0,rfl⟩ ?_ ?_ ?_
 · rintro k x _ F w2 hx ⟨L,hI,rfl⟩ H3
   have hrec:recAt w2 w.heap.size r .ready none:=(H3.pick (i:=recI _ _ _ _) .here).choose_spec.1.1
   show YV P _ _ _ _
   refine hYV _ w2 _ (hnp x (List.mem_of_getElem? hx)) hrec (hB k x L F _ r w2 _ hx hI H3 ?_ ?_)
   · intro L' w' hI' H4
     exact ⟨true,rfl,_,by rw [if_pos rfl]; exact ⟨L',hI',rfl⟩,H4⟩
   · intro c L' w' hD H4
     exact ⟨false,rfl,_,by rw [if_neg (by simp)]; exact ⟨c,L',hD,rfl⟩,H4⟩
 · rintro _ w2 ⟨L,hI,rfl⟩ H3
   obtain ⟨h1,h2⟩:=rec_o (K:=fun w3=>K [] none w3) (st':=.exhausted) (j':=none) H3 .here fun w3 H5=>hend L w3 hI (H5.rest (L1:=[recI _ _ _ _]) (.cons .here .nil))
   exact ⟨_,_,h1,by simp,h2⟩
 · rintro _ w2 ⟨c,L,hD,rfl⟩ H3
   obtain ⟨h1,h2⟩:=rec_o (K:=fun w3=>K [] (some c) w3) (st':=.exhausted) (j':=some c) H3 .here fun w3 H5=>hstop c L w3 hD (H5.rest (L1:=[recI _ _ _ _]) (.cons .here .nil))
   exact ⟨_,_,h1,by simp,h2⟩
end Go.Proofs.YtidcijbnbdemeaaGreat.X
namespace Go.Proofs.YtidcijbnbdemeaaGreat
open Go Go.RowKit X
def mapcF (s:Vi) (coll:Int) (dev:Int) (evs:List (Int×RtE)):List Ch:=(evs.filter fun e=>e.2.coll == coll).map fun e=>boundM s dev e.1
def mapcC (s:Vi) (coll:Int) (devs:List (Int×DvI)):List Ch:=devs.flatMap fun u=>mapcF s coll u.1 u.2.evs
def tot (devs:List (Int×DvI)):Nat:=(devs.map fun u=>u.2.evs.length).sum
theorem mapcF_len (s:Vi) (coll dev:Int) (evs:List (Int×RtE)):(mapcF s coll dev evs).length≤evs.length:=by
 unfold mapcF; rw [List.length_map]; exact List.length_filter_le _ _
theorem mapcC_len (s:Vi) (coll:Int) (devs:List (Int×DvI)):(mapcC s coll devs).length≤tot devs:=by
 induction devs with
 | nil=>simp [mapcC,tot]
 | cons u r ih =>
  have:=mapcF_len s coll u.1 u.2.evs
  simp only [mapcC,tot,List.flatMap_cons,List.length_append,List.map_cons,List.sum_cons] at *
  omega
theorem tot_take {devs:List (Int×DvI)} {k:Nat} {u:Int×DvI} (h:devs[k]? = some u):tot (devs.take k) + u.2.evs.length≤tot devs:=by
 have e:devs = devs.take k ++ u :: devs.drop (k + 1):=by
  obtain ⟨hl,he⟩:=List.getElem?_eq_some_iff.1 h
  rw [← he,← List.drop_eq_getElem_cons hl,List.take_append_drop]
 have:tot devs = tot (devs.take k) + (u.2.evs.length + tot (devs.drop (k + 1))):=by
  conv=>lhs; rw [e]
  simp [tot]
 omega
def mapcM (s:Vi) (c:Cm) (vcpus:Int):List Ch×Vi×Int :=
 if c.coll≥8 then ([],s,183)
 else if c.val = true∧c.tgt≥vcpus then ([],s,271)
 else
  let s2:Vi:={ s with colls:=if c.val then putK s.colls c.coll c.tgt else takeK s.colls c.coll }
  (mapcC s2 c.coll s2.devs,s2,0)
theorem pairsd_at {kv:List (Int×DvI)} {k:Nat} {x:List Value} (h:(pairsd (mapv DvI.e kv))[k]? = some x):∃ u:Int×DvI,kv[k]? = some u∧x = [.int .i64 u.1,.agg [.int .i64 u.2.bits,.pointer (some ⟨u.2.ptr,0,none⟩)].toArray]:=by
 unfold pairsd mapv at h
 rw [List.getElem?_map,List.getElem?_map] at h
 cases hu:kv[k]? with
 | none=>rw [hu] at h; cases h
 | some u=>rw [hu] at h; cases h; exact ⟨u,rfl,rfl⟩
theorem mapcF_next {s:Vi} {coll dev:Int} {evs:List (Int×RtE)} {j:Nat} {u:Int×RtE} (h:evs[j]? = some u):mapcF s coll dev (evs.take (j + 1)) = mapcF s coll dev (evs.take j) ++ if u.2.coll == coll then [boundM s dev u.1] else []:=by
 unfold mapcF
 rw [List.take_add_one,h,List.filter_append,List.map_append]
 congr 1
 cases hc:(u.2.coll == coll) <;> simp [hc]
theorem mapcC_next {s:Vi} {coll:Int} {devs:List (Int×DvI)} {k:Nat} {u:Int×DvI} (h:devs[k]? = some u):mapcC s coll (devs.take (k + 1)) = mapcC s coll (devs.take k) ++ mapcF s coll u.1 u.2.evs:=by
 unfold mapcC
 rw [List.take_add_one,h,List.flatMap_append]
 simp
theorem mapc_t (b:Nat) (s:Vi) (c:Cm) (r:Ru) {po:Option Addr} {no co:Nat} (hC:s.colls.length + 1 < NB) (hT:tot s.devs < NC) :
 Tri P F.zzdu [ptr b,cmV c,ruV r po no co] [vitsI b s] (ToldAs b (mapcM s c r.vcpus)):=by
 intro w S hS
 refine zzlm ?_
 unfold zzdu
 have H:=Own.start hS
 refine alc_o H fun b18 wx H=>alc_o H fun b20 wx H=>alc_o H fun b22 wx H=>?_
 repeat (first | refine lIa H ?_ | refine lLa H ?_ | refine lBa H ?_ | refine lPa H ?_ | refine lSa H ?_)
 refine cnd_i (fun h1=>?_) fun h1=>join_o ?_
 · have h1:c.coll≥8:=of_decide_eq_true h1
   have e:mapcM s c r.vcpus = ([],s,183):=by unfold mapcM; rw [if_pos h1]
   rw [e]
   exact told_err (H.dp)
 have h1:¬ c.coll≥8:=of_decide_eq_false h1
 have go:∀ (x:Bool) (wx:World),(x = true↔(c.val = true∧c.tgt≥r.vcpus))→X.Own w S [vitsI b s,row b18 [ptr b] T.t30,row b20 c.cells tCmd] wx →
  zzgh (fun v w'=>∃ L',ToldAs b (mapcM s c r.vcpus) v L'∧X.Own w S L' w') b18 b20 x wx:=by
  intro x wx hx H
  unfold zzgh
  refine cnd_i (fun h2=>?_) fun h2=>join_o ?_
  · have e:mapcM s c r.vcpus = ([],s,271):=by unfold mapcM; rw [if_neg h1,if_pos (hx.1 h2)]
    rw [e]
    exact told_err (H.dp)
  have h2:¬ (c.val = true∧c.tgt≥r.vcpus):=fun hh=>by rw [hx.2 hh] at h2; cases h2
  have e0:mapcM s c r.vcpus = (let s2:Vi:={ s with colls:=if c.val then putK s.colls c.coll c.tgt else takeK s.colls c.coll }
   (mapcC s2 c.coll s2.devs,s2,0)):=by unfold mapcM; rw [if_neg h1,if_neg h2]
  dsimp only at e0
  rw [e0]
  generalize hs2:({ s with colls:=if c.val then putK s.colls c.coll c.tgt else takeK s.colls c.coll }:Vi) = s2
  have hdv:s2.devs = s.devs:=by rw [← hs2]
  have hT2:tot s2.devs < NC:=by rw [hdv]; exact hT
  rw [← hdv]
  have fin:∀ wx,X.Own w S [vitsI b s2,row b18 [ptr b] T.t30,row b20 c.cells tCmd] wx→zzgg (fun v w'=>∃ L',ToldAs b (mapcC s2 c.coll s2.devs,s2,0) v L'∧X.Own w S L' w') b18 b20 wx:=by
   intro wx H
   unfold zzgg
   refine alc_o H fun b29 wx H=>?_
   repeat (first | refine lIa H ?_ | refine lLa H ?_ | refine lBa H ?_ | refine lPa H ?_ | refine lSa H ?_)
   obtain ⟨bd,bc,H⟩:=zzai H (by repeat (first | exact Pick.here | apply Pick.there))
   dsimp only [nn]
   repeat (first | refine lIa H ?_ | refine lLa H ?_ | refine lBa H ?_ | refine lPa H ?_ | refine lSa H ?_)
   have hlen:=(zzlf H (E:=ED) (tb:=tBookD) (b:=bd) (kv:=mapv DvI.e s2.devs) (by repeat (first | exact Pick.here | apply Pick.there))).2
   refine call_o H (all_d bd (mapv DvI.e s2.devs)) (by repeat (first | exact Cut.nil | (apply Cut.cons; (repeat (first | exact Pick.here | apply Pick.there))))) fun vx L' wx hq H=>?_
   obtain ⟨g,hh,p,cc,q,c2,rfl,rfl⟩:=hq
   unfold thrEd at H
   simp only [List.cons_append,List.nil_append] at H
   have H:=H.perm (L1:=[row b (s2.cells bd bc) tVits,bookG ED tBookD bd (mapv DvI.e s2.devs),bookG EI tBookI bc s2.colls,starI (s2.devs.map evI)]) (by repeat (first | exact Cut.nil | (apply Cut.cons; (repeat (first | exact Pick.here | apply Pick.there)))))
   simp only [List.cons_append,List.nil_append] at H
   have H:=zzab H
   refine ⟨_,rfl,?_⟩
   have H:=chs_nil H
   have H:=H.drop (L1:=[chs none 0 [],row b29 [.slice none 0 0] tChanges,vitsI b s2,row b18 [ptr b] T.t30,row b20 c.cells tCmd,row g [.slice p (ks (mapv DvI.e s2.devs)).length cc] tInts,row hh [.slice q (vs (mapv DvI.e s2.devs)).length c2] ED.ta,nums p cc (ks (mapv DvI.e s2.devs)),els ED q c2 (vs (mapv DvI.e s2.devs))]) (by repeat (first | exact Cut.nil | (apply Cut.cons; (repeat (first | exact Pick.here | apply Pick.there)))))
   refine rf_o (L0:=[chs none 0 [],row b29 [.slice none 0 0] tChanges,vitsI b s2,row b18 [ptr b] T.t30,row b20 c.cells tCmd]) (E:=thrEd g hh p cc q c2 (mapv DvI.e s2.devs))
    (fun k L=>∃ (p:Option Addr) (cc:Nat),L = [chs p cc (mapcC s2 c.coll (s2.devs.take k)),row b29 [.slice p (mapcC s2 c.coll (s2.devs.take k)).length cc] tChanges,vitsI b s2,row b18 [ptr b] T.t30,row b20 c.cells tCmd]) (fun c L=>False)
    thrd_enters (thrd_it g hh p cc q c2 (mapv DvI.e s2.devs) hlen) (pairsd_len _) (by unfold thrEd; exact H) ⟨none,0,by simp [mapcC]⟩ ?_ ?_ ?_
   · rintro k x _ F l r2 d wx Q2 hx ⟨p1,c1,rfl⟩ H hgo hdone
     obtain ⟨u,hu,rfl⟩:=pairsd_at hx
     have htk:=tot_take hu
     have hml:=mapcC_len s2 c.coll (s2.devs.take k)
     unfold zzif
     dsimp only [X.b2]
     simp only [List.cons_append,List.nil_append] at H
     refine ⟨_,rfl,_,_,rfl,alc_o H fun b47 wx H=>?_⟩
     refine sta H fun wx H=>?_
     refine alc_o H fun b50 wx H=>?_
     iterate 2 refine sta H fun wx H=>?_
     refine rec_o H (by repeat (first | exact Rep.here | apply Rep.there)) fun wx H=>?_
     repeat (first | refine lIa H ?_ | refine lLa H ?_ | refine lBa H ?_ | refine lPa H ?_ | refine lSa H ?_)
     obtain ⟨bd,bc,H⟩:=zzai H (by repeat (first | exact Pick.here | apply Pick.there))
     have H:=H.perm (L1:=[starI (s2.devs.map evI)]) (by repeat (first | exact Cut.nil | (apply Cut.cons; (repeat (first | exact Pick.here | apply Pick.there)))))
     simp only [List.cons_append,List.nil_append] at H
     have H:=star_open (g:=evI) hu H
     have H:X.Own w S (bookG ER tBookR u.2.ptr u.2.evs :: _) wx:=H
     refine call_o H (all_r u.2.ptr u.2.evs) (by repeat (first | exact Cut.nil | (apply Cut.cons; (repeat (first | exact Pick.here | apply Pick.there))))) fun vx L' wx hq H=>?_
     obtain ⟨g',hh',p',cc',q',c2',rfl,rfl⟩:=hq
     unfold thrEr at H
     simp only [List.cons_append,List.nil_append] at H
     have hel:=(zzlf H (E:=ER) (tb:=tBookR) (b:=u.2.ptr) (kv:=u.2.evs) (by repeat (first | exact Pick.here | apply Pick.there))).2
     have H:=H.perm (L1:=[evI u,starI ((s2.devs.eraseIdx k).map evI)]) (by repeat (first | exact Cut.nil | (apply Cut.cons; (repeat (first | exact Pick.here | apply Pick.there)))))
     simp only [List.cons_append,List.nil_append] at H
     have H:=(star_pick (pick_at (g:=evI) hu)).2 H
     have H:=H.perm (L1:=[row b (s2.cells bd bc) tVits,bookG ED tBookD bd (mapv DvI.e s2.devs),bookG EI tBookI bc s2.colls,starI (s2.devs.map evI)]) (by repeat (first | exact Cut.nil | (apply Cut.cons; (repeat (first | exact Pick.here | apply Pick.there)))))
     simp only [List.cons_append,List.nil_append] at H
     have H:=zzab H
     refine ⟨_,rfl,?_⟩
     generalize hevs:u.2.evs = evs at *
     have H:=H.perm (L1:=[chs p1 c1 (mapcC s2 c.coll (s2.devs.take k)),row b29 [.slice p1 (mapcC s2 c.coll (s2.devs.take k)).length c1] tChanges,vitsI b s2,row b18 [ptr b] T.t30,row b20 c.cells tCmd,row b47 [.int .i64 u.1] tInt,recI l r2 .busy none,defI d,row g' [.slice p' (ks evs).length cc'] tInts,row hh' [.slice q' (vs evs).length c2'] ER.ta,nums p' cc' (ks evs),els ER q' c2' (vs evs)]) (by repeat (first | exact Cut.nil | (apply Cut.cons; (repeat (first | exact Pick.here | apply Pick.there)))))
     simp only [List.cons_append,List.nil_append] at H
     have H:=H.rest (L1:=[row b50 [.int .i64 u.2.bits,.pointer (some ⟨u.2.ptr,0,none⟩)] tDevice]) (by repeat (first | exact Cut.nil | (apply Cut.cons; (repeat (first | exact Pick.here | apply Pick.there)))))
     have H:=H.perm (L1:=[row g' [.slice p' (ks evs).length cc'] tInts,row hh' [.slice q' (vs evs).length c2'] ER.ta,nums p' cc' (ks evs),els ER q' c2' (vs evs)]) (by repeat (first | exact Cut.nil | (apply Cut.cons; (repeat (first | exact Pick.here | apply Pick.there)))))
     have H:=own_comm H
     refine rf_s (L0:=chs p1 c1 (mapcC s2 c.coll (s2.devs.take k)) :: row b29 [.slice p1 (mapcC s2 c.coll (s2.devs.take k)).length c1] tChanges :: vitsI b s2 :: row b18 [ptr b] T.t30 :: row b20 c.cells tCmd :: row b47 [.int .i64 u.1] tInt :: recI l r2 .busy none :: defI d :: (thrEd g hh p cc q c2 (mapv DvI.e s2.devs) ++ F)) (E:=thrEr g' hh' p' cc' q' c2' evs)
      (r0:=r2) (st0:=.busy) (j0:=none) (by simp only [List.cons_append]; exact (by repeat (first | exact Pick.here | apply Pick.there)))
      (fun j L=>∃ (p3:Option Addr) (c3:Nat),L = chs p3 c3 (mapcC s2 c.coll (s2.devs.take k) ++ mapcF s2 c.coll u.1 (evs.take j)) :: row b29 [.slice p3 (mapcC s2 c.coll (s2.devs.take k) ++ mapcF s2 c.coll u.1 (evs.take j)).length c3] tChanges :: vitsI b s2 :: row b18 [ptr b] T.t30 :: row b20 c.cells tCmd :: row b47 [.int .i64 u.1] tInt :: recI l r2 .busy none :: defI d :: (thrEd g hh p cc q c2 (mapv DvI.e s2.devs) ++ F)) (fun c L=>False)
      thrr_enters (thrr_it g' hh' p' cc' q' c2' evs hel) (pairsr_len evs) (by unfold thrEr; exact H) ⟨p1,c1,by simp [mapcF]⟩ ?_ ?_ ?_
     · rintro j x _ F2 l2 r3 wx Q3 hx ⟨p3,c3,rfl⟩ H hgo3 hdone3
       obtain ⟨v,hv,rfl⟩:=pairsr_at hx
       have hj:j < evs.length:=(List.getElem?_eq_some_iff.1 hv).1
       have hfl:=mapcF_len s2 c.coll u.1 (evs.take j)
       rw [List.length_take] at hfl
       unfold zzie
       dsimp only [X.b2]
       simp only [List.cons_append,List.nil_append] at H
       refine ⟨_,rfl,_,_,_,rfl,alc_o H fun b70 wx H=>?_⟩
       iterate 3 refine sta H fun wx H=>?_
       refine rec_o H (by repeat (first | exact Rep.here | apply Rep.there)) fun wx H=>join_o ?_
       have fin3:∀ (p4:Option Addr) (c4:Nat) (wx:World),X.Own w S (recI l2 r3 .busy none :: chs p4 c4 (mapcC s2 c.coll (s2.devs.take k) ++ mapcF s2 c.coll u.1 (evs.take (j + 1))) :: row b29 [.slice p4 (mapcC s2 c.coll (s2.devs.take k) ++ mapcF s2 c.coll u.1 (evs.take (j + 1))).length c4] tChanges :: vitsI b s2 :: row b18 [ptr b] T.t30 :: row b20 c.cells tCmd :: row b47 [.int .i64 u.1] tInt :: recI l r2 .busy none :: defI d :: ((thrEd g hh p cc q c2 (mapv DvI.e s2.devs) ++ F) ++ (thrEr g' hh' p' cc' q' c2' evs ++ F2))) wx →
        zzgf l2 r3 Q3 wx:=by
        intro p4 c4 wx H
        unfold zzgf
        refine rec_o H .here fun wx H=>hgo3 _ wx ⟨p4,c4,rfl⟩ ?_
        exact H
       rw [mapcF_next hv,← List.append_assoc] at fin3
       refine ldI_o H .here (by rfl) ?_
       repeat (first | refine lIa H ?_ | refine lLa H ?_ | refine lBa H ?_ | refine lPa H ?_ | refine lSa H ?_)
       refine cnd_i (fun hc=>?_) fun hc=>?_
       · rw [if_pos hc] at fin3
         refine drw_o H fun wx H=>?_
         repeat (first | refine lIa H ?_ | refine lLa H ?_ | refine lBa H ?_ | refine lPa H ?_ | refine lSa H ?_)
         refine call_p H (bound_t b s2 u.1 v.1) (by repeat (first | exact Cut.nil | (apply Cut.cons; (repeat (first | exact Pick.here | apply Pick.there))))) fun wx H=>?_
         refine ⟨_,_,_,_,_,_,rfl,?_,alc_o H fun b98 wx H=>⟨?_,?_⟩⟩
         · repeat (first | refine lIa H ?_ | refine lLa H ?_ | refine lBa H ?_ | refine lPa H ?_ | refine lSa H ?_)
           rfl
         · repeat (first | refine lIa H ?_ | refine lLa H ?_ | refine lBa H ?_ | refine lPa H ?_ | refine lSa H ?_)
           rfl
         refine app_ch (x:=boundM s2 u.1 v.1) H (xs:=mapcC s2 c.coll (s2.devs.take k) ++ mapcF s2 c.coll u.1 (evs.take j)) (by repeat (first | exact Pick.here | apply Pick.there)) (by repeat (first | exact Pick.here | apply Pick.there)) (by rw [List.length_append]; omega) fun p4 c4 wx H=>?_
         refine sta H fun wx H=>?_
         have H:=H.rest (L1:=[row b98 (boundM s2 u.1 v.1).cells tChange]) (by repeat (first | exact Cut.nil | (apply Cut.cons; (repeat (first | exact Pick.here | apply Pick.there)))))
         have H:=H.rest (L1:=[row b70 [.int .i64 v.2.num,.int .i64 v.2.coll,.bool v.2.val] tRoute]) (by repeat (first | exact Cut.nil | (apply Cut.cons; (repeat (first | exact Pick.here | apply Pick.there)))))
         exact fin3 p4 c4 wx (H.perm (L1:=[recI l2 r3 .busy none,chs p4 c4 (mapcC s2 c.coll (s2.devs.take k) ++ mapcF s2 c.coll u.1 (evs.take j) ++ [boundM s2 u.1 v.1])]) (by repeat (first | exact Cut.nil | (apply Cut.cons; (repeat (first | exact Pick.here | apply Pick.there))))))
       · rw [hc] at fin3
         simp only [Bool.false_eq_true,if_false,List.append_nil] at fin3
         exact fin3 p3 c3 wx (H.rest (L1:=[row b70 [.int .i64 v.2.num,.int .i64 v.2.coll,.bool v.2.val] tRoute]) (by repeat (first | exact Cut.nil | (apply Cut.cons; (repeat (first | exact Pick.here | apply Pick.there))))))
     · rintro _ wx ⟨p3,c3,rfl⟩ H
       have hn:evs.take (pairsr evs).length = evs:=List.take_of_length_le (by simp [pairsr])
       rw [hn] at H
       dsimp only [jmpX]
       have H:=own_left H
       refine rec_o H (by repeat (first | exact Rep.here | apply Rep.there)) fun wx H=>hgo [chs p3 c3 (mapcC s2 c.coll (s2.devs.take (k + 1))),row b29 [.slice p3 (mapcC s2 c.coll (s2.devs.take (k + 1))).length c3] tChanges,vitsI b s2,row b18 [ptr b] T.t30,row b20 c.cells tCmd] wx ⟨p3,c3,rfl⟩ ?_
       rw [mapcC_next hu,hevs]
       have H:=H.rest (L1:=[row b47 [.int .i64 u.1] tInt]) (by repeat (first | exact Cut.nil | (apply Cut.cons; (repeat (first | exact Pick.here | apply Pick.there)))))
       exact H.perm (L1:=[recI l r2 .ready none,defI d]) (by repeat (first | exact Cut.nil | (apply Cut.cons; (repeat (first | exact Pick.here | apply Pick.there)))))
     · intro c L w h; exact h.elim
   · rintro d _ wx ⟨p1,c1,rfl⟩ H
     have hn:s2.devs.take (pairsd (mapv DvI.e s2.devs)).length = s2.devs:=List.take_of_length_le (by simp [pairsd,mapv])
     rw [hn] at H
     dsimp only [jmpX]
     simp only [List.cons_append,List.nil_append] at H
     repeat (first | refine lIa H ?_ | refine lLa H ?_ | refine lBa H ?_ | refine lPa H ?_ | refine lSa H ?_)
     refine take_o H .here fun wx H=>?_
     exact ⟨_,⟨p1,c1,rfl,rfl⟩,H.dp⟩
   · intro d c L w h; exact h.elim
  repeat (first | refine lIa H ?_ | refine lLa H ?_ | refine lBa H ?_ | refine lPa H ?_ | refine lSa H ?_)
  refine cnd_i (fun hv=>?_) fun hv=>?_
  · refine drw_o H fun wx H=>?_
    repeat (first | refine lIa H ?_ | refine lLa H ?_ | refine lBa H ?_ | refine lPa H ?_ | refine lSa H ?_)
    obtain ⟨bd,bc,H⟩:=zzai H (by repeat (first | exact Pick.here | apply Pick.there))
    dsimp only [nn]
    repeat (first | refine lIa H ?_ | refine lLa H ?_ | refine lBa H ?_ | refine lPa H ?_ | refine lSa H ?_)
    refine call_o H (put_i bc s.colls c.coll c.tgt hC) (by repeat (first | exact Cut.nil | (apply Cut.cons; (repeat (first | exact Pick.here | apply Pick.there))))) fun vx L' wx hq H=>?_
    obtain ⟨rfl,rfl⟩:=hq
    simp only [List.cons_append,List.nil_append] at H
    refine ⟨_,rfl,fin _ ?_⟩
    have H:=H.perm (L1:=[row b (s2.cells bd bc) tVits,bookG ED tBookD bd (mapv DvI.e s2.devs),bookG EI tBookI bc s2.colls,starI (s2.devs.map evI)]) (by rw [← hs2,hv]; exact (by repeat (first | exact Cut.nil | (apply Cut.cons; (repeat (first | exact Pick.here | apply Pick.there))))))
    exact (zzab H).dp
  · refine drw_o H fun wx H=>?_
    repeat (first | refine lIa H ?_ | refine lLa H ?_ | refine lBa H ?_ | refine lPa H ?_ | refine lSa H ?_)
    obtain ⟨bd,bc,H⟩:=zzai H (by repeat (first | exact Pick.here | apply Pick.there))
    dsimp only [nn]
    repeat (first | refine lIa H ?_ | refine lLa H ?_ | refine lBa H ?_ | refine lPa H ?_ | refine lSa H ?_)
    refine call_o H (take_i bc s.colls c.coll) (by repeat (first | exact Cut.nil | (apply Cut.cons; (repeat (first | exact Pick.here | apply Pick.there))))) fun vx L' wx hq H=>?_
    obtain ⟨rfl,rfl⟩:=hq
    simp only [List.cons_append,List.nil_append] at H
    refine ⟨_,_,rfl,fin _ ?_⟩
    have H:=H.perm (L1:=[row b (s2.cells bd bc) tVits,bookG ED tBookD bd (mapv DvI.e s2.devs),bookG EI tBookI bc s2.colls,starI (s2.devs.map evI)]) (by rw [← hs2,hv]; exact (by repeat (first | exact Cut.nil | (apply Cut.cons; (repeat (first | exact Pick.here | apply Pick.there))))))
    exact (zzab H).dp
 repeat (first | refine lIa H ?_ | refine lLa H ?_ | refine lBa H ?_ | refine lPa H ?_ | refine lSa H ?_)
 refine cnd_i (fun hv=>?_) fun hv=>?_
 · repeat (first | refine lIa H ?_ | refine lLa H ?_ | refine lBa H ?_ | refine lPa H ?_ | refine lSa H ?_)
   exact go _ _ (by rw [hv]; simp) (H.dp)
 · exact go false _ (by simp [hv]) (H.dp)
theorem index_t (i:It) {p:Option Addr} {c:Nat} {xs:List Int} (hi:∀ w S,i.h w S→Sl w p (i64s xs)) (hl:xs.length < 9223372036854775807) (m:Int):Tri P F.zzbf [.slice p xs.length c,.int .i64 m] [i] fun v L'=>(∃ n:Int,v = .int .i64 n∧(0≤n↔m∈xs))∧L' = [i]:=by
 intro w S hS
 refine zziR ?_
 unfold zzbf
 have H:=Own.start hS
 refine loop_o (fun (st:Int) L=>∃ k:Nat,k≤xs.length∧st = k∧m ∉ xs.take k∧L = [i]) (fun (st:Int)=>((xs.length:Int) - st).toNat) H ⟨0,by omega,rfl,by simp,rfl⟩ ?_
 rintro _ _ wx ⟨k,hk,rfl,hno,rfl⟩ H
 unfold zzfF
 refine cnd_i (fun h=>?_) fun h=>?_
 · have h:=of_decide_eq_true h
   have hk':k < xs.length:=by omega
   refine ⟨⟨by omega,h⟩,?_⟩
   rw [Int.toNat_natCast]
   obtain ⟨a,rfl,hcell⟩:=H.rd (i:=i) (by repeat (first | exact Pick.here | apply Pick.there)) hi k _ (i64s_get hk')
   refine ⟨_,by rw [Nat.mul_one]; exact hcell,cnd_i (fun he=>?_) fun he=>?_⟩
   · have he:=eq_of_beq he
     refine ⟨_,⟨⟨_,rfl,?_⟩,rfl⟩,H⟩
     have:m∈xs:=by rw [he]; exact List.getElem_mem _
     exact ⟨fun _=>this,fun _=>by omega⟩
   · have he:m≠xs[k]:=by simpa using he
     rw [W_id (by omega) (by omega)]
     refine ⟨⟨_,⟨k + 1,by omega,by push_cast; rfl,?_,rfl⟩,H⟩,by omega⟩
     rw [List.take_succ_eq_append_getElem hk']
     simp only [List.mem_append,List.mem_singleton,not_or]
     exact ⟨hno,he⟩
 · have h:=of_decide_eq_false h
   rw [List.take_of_length_le (by omega)] at hno
   refine ⟨_,⟨⟨_,rfl,?_⟩,rfl⟩,H⟩
   exact ⟨fun h=>by omega,fun h=>absurd h hno⟩
theorem contains_t (i:It) {p:Option Addr} {c:Nat} {xs:List Int} (hi:∀ w S,i.h w S→Sl w p (i64s xs)) (hl:xs.length < 9223372036854775807) (m:Int):Tri P F.zzaK [.slice p xs.length c,.int .i64 m] [i] fun v L'=>v = .bool (decide (m∈xs))∧L' = [i]:=by
 intro w S hS
 refine zzhN ?_
 unfold zzaK
 have H:=Own.start hS
 refine call_oa H (index_t i hi hl m) fun vx L' wx hq H=>?_
 obtain ⟨⟨n,rfl,hn⟩,rfl⟩:=hq
 refine ⟨_,rfl,_,⟨?_,rfl⟩,H⟩
 rw [decide_eq_decide.2 hn]
def namesB (op:Int):Bool:=decide (op≠9∧op≠13∧op≠14∧op≠5)
def vdoM (s:Vi) (c:Cm) (r:Ru) (owned:List Int) (p:Nat):List Ch×Vi×Int :=
 if encM c = none then ([],s,160)
 else if namesB c.op = true∧c.dev ∉ owned then ([],s,240)
 else if c.op = 8 then mapdM s c r.s p
 else if c.op = 9 then mapcM s c r.vcpus
 else if c.op = 10 then maptiM s c c.num r.lpis
 else if c.op = 11 then maptiM s c (IntKind.i64.wrap (8192 + c.ev)) r.lpis
 else if c.op = 1 then moviM s c
 else if c.op = 13 then (if (goesM s.colls c.coll).2≠0 then ([],s,(goesM s.colls c.coll).2) else ([⟨8,0,0,0,0,0⟩],s,0))
 else if c.op = 14∨c.op = 5 then (if c.tgt≥r.vcpus∨c.num≥r.vcpus then ([],s,271) else if c.op = 5 then ([],s,0) else ([⟨6,0,0,0,c.tgt,c.num⟩],s,0))
 else eventM s c
structure Fits (s:Vi) (N:Nat):Prop where
 size:s.devs.length + tot s.devs + s.colls.length≤N
 bits:∀ u∈s.devs,0≤u.2.bits
theorem tot_mem {devs:List (Int×DvI)} {u:Int×DvI} (h:u∈devs):u.2.evs.length≤tot devs:=by
 obtain ⟨k,hk⟩:=List.mem_iff_getElem?.1 h
 have:=tot_take hk
 omega
theorem dev_none {s:Vi} {dev:Int} (h:hasK s.devs dev = false):s.dev dev = dvi0:=by unfold Vi.dev getK; rw [h]; rfl
theorem Fits.evs {s:Vi} {N:Nat} (h:Fits s N) (dev:Int):(s.dev dev).evs.length≤N:=by
 cases hk:hasK s.devs dev
 · rw [dev_none hk]; exact Nat.zero_le _
 · have h1:=tot_mem (List.mem_of_getElem? (dev_at hk))
   have h2:=h.size
   dsimp only at h1
   omega
theorem Fits.bit {s:Vi} {N:Nat} (h:Fits s N) (dev:Int):0≤(s.dev dev).bits:=by
 cases hk:hasK s.devs dev
 · rw [dev_none hk]; exact Int.le_refl _
 · exact h.bits _ (List.mem_of_getElem? (dev_at hk))
theorem told_i {b:Nat} {M:List Ch×Vi×Int} {v:Value} {L' F:List It} {w w0:World} {S0:Nat→Prop} {i:It} (h:ToldAs b M v L') (H:X.Own w0 S0 (L' ++ F) w) (hp:∃ F',Cut F [i] F'):∃ p c,v = .tuple [.slice p M.1.length c,.int .i64 M.2.2].toArray∧X.Own w0 S0 [chs p c M.1,vitsI b M.2.1,i] w:=by
 obtain ⟨p,c,rfl,rfl⟩:=h
 obtain ⟨F',hF⟩:=hp
 refine ⟨p,c,rfl,?_⟩
 have:Cut ([chs p c M.1,vitsI b M.2.1] ++ F) [chs p c M.1,vitsI b M.2.1,i] F':=.cons .here (.cons .here hF)
 exact H.drop this
theorem VDo_t (b:Nat) (s:Vi) (c:Cm) (r:Ru) (i:It) {po:Option Addr} {co:Nat} {owned:List Int} {N:Nat} (hi:∀ w S,i.h w S→Sl w po (i64s owned)) (hl:owned.length < 9223372036854775807) (hF:Fits s N) (hN:N < 1099511627776) :
 Tri P F.zzaD [ptr b,cmV c,ruV r po owned.length co] [vitsI b s,i] fun v L'=>∃ p q cc,v = .tuple [.slice q (vdoM s c r owned p).1.length cc,.int .i64 (vdoM s c r owned p).2.2].toArray∧L' = [chs q cc (vdoM s c r owned p).1,vitsI b (vdoM s c r owned p).2.1,i]:=by
 intro w S hS
 refine zzlL ?_
 unfold zzaD
 have H:=Own.start hS
 have hsz:=hF.size
 have done:∀ (wx:World) (p:Nat) (M:List Ch×Vi×Int) (v:Value),vdoM s c r owned p = M→(∃ q cc,v = .tuple [.slice q M.1.length cc,.int .i64 M.2.2].toArray∧X.Own w S [chs q cc M.1,vitsI b M.2.1,i] wx) →
  ∃ L',(∃ p q cc,v = .tuple [.slice q (vdoM s c r owned p).1.length cc,.int .i64 (vdoM s c r owned p).2.2].toArray∧L' = [chs q cc (vdoM s c r owned p).1,vitsI b (vdoM s c r owned p).2.1,i])∧X.Own w S L' wx:=by
  rintro wx p M v h ⟨q,cc,rfl,H⟩
  refine ⟨_,⟨p,q,cc,?_,rfl⟩,?_⟩
  · rw [h]
  · rw [h]; exact H
 have err:∀ (wx:World) (e:Int),vdoM s c r owned 0 = ([],s,e)→X.Own w S [vitsI b s,i] wx→∃ L',(∃ p q cc,(.tuple [.slice none 0 0,.int .i64 e].toArray:Value) = .tuple [.slice q (vdoM s c r owned p).1.length cc,.int .i64 (vdoM s c r owned p).2.2].toArray∧L' = [chs q cc (vdoM s c r owned p).1,vitsI b (vdoM s c r owned p).2.1,i])∧X.Own w S L' wx :=
  fun wx e h H=>done wx 0 _ _ h ⟨none,0,rfl,chs_nil H⟩
 have one:∀ (wx:World) (b1:Nat) (x:Ch) (F:List It),vdoM s c r owned 0 = ([x],s,0)→X.Own w S (row b1 x.cells tChange :: [vitsI b s,i]) wx→∃ L',(∃ p q cc,(.tuple [.slice (some ⟨b1,0,none⟩) 1 1,.int .i64 0].toArray:Value) = .tuple [.slice q (vdoM s c r owned p).1.length cc,.int .i64 (vdoM s c r owned p).2.2].toArray∧L' = [chs q cc (vdoM s c r owned p).1,vitsI b (vdoM s c r owned p).2.1,i])∧X.Own w S L' wx :=
  fun wx b1 x F h H=>done wx 0 _ _ h ⟨some ⟨b1,0,none⟩,1,rfl,els_shut (E:=EC) (c:=1) (xs:=[x]) H rfl rfl (by simp) (by unfold maxLen; omega) rfl⟩
 refine alc_o H fun b18 wx H=>alc_o H fun b20 wx H=>?_
 repeat (first | refine lIa H ?_ | refine lLa H ?_ | refine lBa H ?_ | refine lPa H ?_ | refine lSa H ?_)
 refine call_pa H (Encode_t c) fun wx H=>?_
 cases he:encM c with
 | none =>
  have e:encV c = .tuple [.agg [.int .u64 0,.int .u64 0,.int .u64 0,.int .u64 0].toArray,.int .i64 160].toArray:=by unfold encV; rw [he]; rfl
  rw [e]
  refine ⟨_,_,_,_,_,rfl,alc_o H fun b38 wx H=>?_⟩
  iterate 4 refine sta H fun wx H=>?_
  exact cnd_i (fun _=>err _ 160 (by unfold vdoM; rw [if_pos he]) (H.dp)) (fun h=>by cases h)
 | some ws =>
  have hne:¬ encM c = none:=by rw [he]; simp
  obtain ⟨hkn,hfl,-,-,-⟩:=encM_some he
  obtain ⟨x0,x1,x2,x3,rfl⟩:=four (enc_range he).1
  have e:encV c = .tuple [.agg [.int .u64 x0,.int .u64 x1,.int .u64 x2,.int .u64 x3].toArray,.int .i64 0].toArray:=by unfold encV; rw [he]; rfl
  rw [e]
  refine ⟨_,_,_,_,_,rfl,alc_o H fun b38 wx H=>?_⟩
  iterate 4 refine sta H fun wx H=>?_
  refine cnd_i (fun h=>by cases h) fun _=>join_o ?_
  have hbits:0≤c.bits:=(hfl 5 (by omega)).1
  have go:∀ (x:Bool) (wx:World),x = namesB c.op→X.Own w S [row b20 [.int .i64 r.a,.int .i64 r.s,.int .i64 r.vcpus,.int .i64 r.lpis,.slice po owned.length co] tRules,row b18 c.cells tCmd,vitsI b s,i] wx →
   zzha (some ⟨b,0,none⟩) (fun v w'=>∃ L',(∃ p q cc,v = .tuple [.slice q (vdoM s c r owned p).1.length cc,.int .i64 (vdoM s c r owned p).2.2].toArray∧L' = [chs q cc (vdoM s c r owned p).1,vitsI b (vdoM s c r owned p).2.1,i])∧X.Own w S L' w') b18 b20 x wx:=by
   rintro x wx rfl H
   unfold zzha
   refine join_o ?_
   have go2:∀ (x:Bool) (wx:World),(x = true↔namesB c.op = true∧c.dev ∉ owned)→X.Own w S [row b20 [.int .i64 r.a,.int .i64 r.s,.int .i64 r.vcpus,.int .i64 r.lpis,.slice po owned.length co] tRules,row b18 c.cells tCmd,vitsI b s,i] wx →
    zzg9 (some ⟨b,0,none⟩) (fun v w'=>∃ L',(∃ p q cc,v = .tuple [.slice q (vdoM s c r owned p).1.length cc,.int .i64 (vdoM s c r owned p).2.2].toArray∧L' = [chs q cc (vdoM s c r owned p).1,vitsI b (vdoM s c r owned p).2.1,i])∧X.Own w S L' w') b18 b20 x wx:=by
    intro x wx hx H
    unfold zzg9
    refine cnd_i (fun h1=>?_) fun h1=>?_
    · exact err _ 240 (by unfold vdoM; rw [if_neg hne,if_pos (hx.1 h1)]) (H.dp)
    have h1:¬ (namesB c.op = true∧c.dev ∉ owned):=fun hh=>by rw [hx.2 hh] at h1; cases h1
    have pre:∀ (p:Nat) (M:List Ch×Vi×Int),(if c.op = 8 then mapdM s c r.s p
     else if c.op = 9 then mapcM s c r.vcpus
     else if c.op = 10 then maptiM s c c.num r.lpis
     else if c.op = 11 then maptiM s c (IntKind.i64.wrap (8192 + c.ev)) r.lpis
     else if c.op = 1 then moviM s c
     else if c.op = 13 then (if (goesM s.colls c.coll).2≠0 then ([],s,(goesM s.colls c.coll).2) else ([⟨8,0,0,0,0,0⟩],s,0))
     else if c.op = 14∨c.op = 5 then (if c.tgt≥r.vcpus∨c.num≥r.vcpus then ([],s,271) else if c.op = 5 then ([],s,0) else ([⟨6,0,0,0,c.tgt,c.num⟩],s,0))
     else eventM s c) = M→vdoM s c r owned p = M:=by
     intro p M hM; unfold vdoM; rw [if_neg hne,if_neg h1]; exact hM
    repeat (first | refine lIa H ?_ | refine lLa H ?_ | refine lBa H ?_ | refine lPa H ?_ | refine lSa H ?_)
    refine cnd_i (fun h2=>?_) fun h2=>?_
    · have h2:c.op = 8:=by simpa using h2
      repeat (first | refine lIa H ?_ | refine lLa H ?_ | refine lBa H ?_ | refine lPa H ?_ | refine lSa H ?_)
      refine call_o H (mapd_t b s c r hbits (by have:=hF.evs c.dev; omega) (by unfold NB; omega)) (by repeat (first | exact Cut.nil | (apply Cut.cons; (repeat (first | exact Pick.here | apply Pick.there))))) fun vx L' wx hq H=>?_
      obtain ⟨p,hq⟩:=hq
      obtain ⟨q,cc,rfl,H⟩:=told_i hq H (i:=i) ⟨_,(by repeat (first | exact Cut.nil | (apply Cut.cons; (repeat (first | exact Pick.here | apply Pick.there)))))⟩
      exact ⟨_,_,_,_,rfl,done wx p _ _ (pre p _ (by rw [if_pos h2])) ⟨q,cc,rfl,H⟩⟩
    have h2:c.op≠8:=by simpa using h2
    refine cnd_i (fun h3=>?_) fun h3=>?_
    · have h3:c.op = 9:=by simpa using h3
      repeat (first | refine lIa H ?_ | refine lLa H ?_ | refine lBa H ?_ | refine lPa H ?_ | refine lSa H ?_)
      refine call_o H (mapc_t b s c r (by unfold NB; omega) (by unfold NC; omega)) (by repeat (first | exact Cut.nil | (apply Cut.cons; (repeat (first | exact Pick.here | apply Pick.there))))) fun vx L' wx hq H=>?_
      obtain ⟨q,cc,rfl,H⟩:=told_i hq H (i:=i) ⟨_,(by repeat (first | exact Cut.nil | (apply Cut.cons; (repeat (first | exact Pick.here | apply Pick.there)))))⟩
      exact ⟨_,_,_,_,rfl,done wx 0 _ _ (pre 0 _ (by rw [if_neg h2,if_pos h3])) ⟨q,cc,rfl,H⟩⟩
    have h3:c.op≠9:=by simpa using h3
    refine cnd_i (fun h4=>?_) fun h4=>?_
    · have h4:c.op = 10:=by simpa using h4
      repeat (first | refine lIa H ?_ | refine lLa H ?_ | refine lBa H ?_ | refine lPa H ?_ | refine lSa H ?_)
      refine call_o H (mapti_t b s c c.num r (hF.bit _) (by have:=hF.evs c.dev; unfold NB; omega)) (by repeat (first | exact Cut.nil | (apply Cut.cons; (repeat (first | exact Pick.here | apply Pick.there))))) fun vx L' wx hq H=>?_
      obtain ⟨q,cc,rfl,H⟩:=told_i hq H (i:=i) ⟨_,(by repeat (first | exact Cut.nil | (apply Cut.cons; (repeat (first | exact Pick.here | apply Pick.there)))))⟩
      exact ⟨_,_,_,_,rfl,done wx 0 _ _ (pre 0 _ (by rw [if_neg h2,if_neg h3,if_pos h4])) ⟨q,cc,rfl,H⟩⟩
    have h4:c.op≠10:=by simpa using h4
    refine cnd_i (fun h5=>?_) fun h5=>?_
    · have h5:c.op = 11:=by simpa using h5
      repeat (first | refine lIa H ?_ | refine lLa H ?_ | refine lBa H ?_ | refine lPa H ?_ | refine lSa H ?_)
      refine call_o H (mapti_t b s c (IntKind.i64.wrap (8192 + c.ev)) r (hF.bit _) (by have:=hF.evs c.dev; unfold NB; omega)) (by repeat (first | exact Cut.nil | (apply Cut.cons; (repeat (first | exact Pick.here | apply Pick.there))))) fun vx L' wx hq H=>?_
      obtain ⟨q,cc,rfl,H⟩:=told_i hq H (i:=i) ⟨_,(by repeat (first | exact Cut.nil | (apply Cut.cons; (repeat (first | exact Pick.here | apply Pick.there)))))⟩
      exact ⟨_,_,_,_,rfl,done wx 0 _ _ (pre 0 _ (by rw [if_neg h2,if_neg h3,if_neg h4,if_pos h5])) ⟨q,cc,rfl,H⟩⟩
    have h5:c.op≠11:=by simpa using h5
    refine cnd_i (fun h6=>?_) fun h6=>?_
    · have h6:c.op = 1:=by simpa using h6
      repeat (first | refine lIa H ?_ | refine lLa H ?_ | refine lBa H ?_ | refine lPa H ?_ | refine lSa H ?_)
      refine call_o H (movi_t b s c (by have:=hF.evs c.dev; unfold NB; omega)) (by repeat (first | exact Cut.nil | (apply Cut.cons; (repeat (first | exact Pick.here | apply Pick.there))))) fun vx L' wx hq H=>?_
      obtain ⟨q,cc,rfl,H⟩:=told_i hq H (i:=i) ⟨_,(by repeat (first | exact Cut.nil | (apply Cut.cons; (repeat (first | exact Pick.here | apply Pick.there)))))⟩
      exact ⟨_,_,_,_,rfl,done wx 0 _ _ (pre 0 _ (by rw [if_neg h2,if_neg h3,if_neg h4,if_neg h5,if_pos h6])) ⟨q,cc,rfl,H⟩⟩
    have h6:c.op≠1:=by simpa using h6
    refine cnd_i (fun h7=>?_) fun h7=>?_
    · have h7:c.op = 13:=by simpa using h7
      repeat (first | refine lIa H ?_ | refine lLa H ?_ | refine lBa H ?_ | refine lPa H ?_ | refine lSa H ?_)
      refine call_pa H (goes_t b s c.coll) fun wx H=>?_
      refine ⟨_,_,rfl,cnd_i (fun h8=>?_) fun h8=>?_⟩
      · have h8:(goesM s.colls c.coll).2≠0:=by simpa using h8
        exact err _ _ (pre 0 _ (by rw [if_neg h2,if_neg h3,if_neg h4,if_neg h5,if_neg h6,if_pos h7,if_pos h8])) (H.dp)
      · have h8:¬ (goesM s.colls c.coll).2≠0:=by simpa using h8
        refine alc_o H fun b161 wx H=>?_
        exact one _ b161 ⟨8,0,0,0,0,0⟩ [] (pre 0 _ (by rw [if_neg h2,if_neg h3,if_neg h4,if_neg h5,if_neg h6,if_pos h7,if_neg h8])) (H.dp)
    have h7:c.op≠13:=by simpa using h7
    refine join_o ?_
    have go3:∀ (x:Bool),(x = true↔(c.op = 14∨c.op = 5))→zzg8 (some ⟨b,0,none⟩) (fun v w'=>∃ L',(∃ p q cc,v = .tuple [.slice q (vdoM s c r owned p).1.length cc,.int .i64 (vdoM s c r owned p).2.2].toArray∧L' = [chs q cc (vdoM s c r owned p).1,vitsI b (vdoM s c r owned p).2.1,i])∧X.Own w S L' w') b18 b20 x wx:=by
     intro x hx
     unfold zzg8
     refine cnd_i (fun h8=>join_o ?_) fun h8=>?_
     · have h8:=hx.1 h8
       have go4:∀ (y:Bool),(y = true↔(c.tgt≥r.vcpus∨c.num≥r.vcpus))→zzg7 (fun v w'=>∃ L',(∃ p q cc,v = .tuple [.slice q (vdoM s c r owned p).1.length cc,.int .i64 (vdoM s c r owned p).2.2].toArray∧L' = [chs q cc (vdoM s c r owned p).1,vitsI b (vdoM s c r owned p).2.1,i])∧X.Own w S L' w') b18 y wx:=by
        intro y hy
        unfold zzg7
        refine cnd_i (fun h9=>?_) fun h9=>?_
        · exact err _ 271 (pre 0 _ (by rw [if_neg h2,if_neg h3,if_neg h4,if_neg h5,if_neg h6,if_neg h7,if_pos h8,if_pos (hy.1 h9)])) (H.dp)
        have h9:¬ (c.tgt≥r.vcpus∨c.num≥r.vcpus):=fun hh=>by rw [hy.2 hh] at h9; cases h9
        repeat (first | refine lIa H ?_ | refine lLa H ?_ | refine lBa H ?_ | refine lPa H ?_ | refine lSa H ?_)
        refine cnd_i (fun h10=>?_) fun h10=>?_
        · have h10:c.op = 5:=by simpa using h10
          exact err _ 0 (pre 0 _ (by rw [if_neg h2,if_neg h3,if_neg h4,if_neg h5,if_neg h6,if_neg h7,if_pos h8,if_neg h9,if_pos h10])) (H.dp)
        · have h10:c.op≠5:=by simpa using h10
          repeat (first | refine lIa H ?_ | refine lLa H ?_ | refine lBa H ?_ | refine lPa H ?_ | refine lSa H ?_)
          refine alc_o H fun b172 wx H=>?_
          exact one _ b172 ⟨6,0,0,0,c.tgt,c.num⟩ [] (pre 0 _ (by rw [if_neg h2,if_neg h3,if_neg h4,if_neg h5,if_neg h6,if_neg h7,if_pos h8,if_neg h9,if_neg h10])) (H.dp)
       repeat (first | refine lIa H ?_ | refine lLa H ?_ | refine lBa H ?_ | refine lPa H ?_ | refine lSa H ?_)
       refine cnd_i (fun h9=>?_) fun h9=>?_
       · exact go4 true (by simp [of_decide_eq_true h9])
       · have h9:=of_decide_eq_false h9
         repeat (first | refine lIa H ?_ | refine lLa H ?_ | refine lBa H ?_ | refine lPa H ?_ | refine lSa H ?_)
         exact go4 _ (by simp [h9])
     · have h8:¬ (c.op = 14∨c.op = 5):=fun hh=>by rw [hx.2 hh] at h8; cases h8
       repeat (first | refine lIa H ?_ | refine lLa H ?_ | refine lBa H ?_ | refine lPa H ?_ | refine lSa H ?_)
       refine call_o H (event_t b s c) (by repeat (first | exact Cut.nil | (apply Cut.cons; (repeat (first | exact Pick.here | apply Pick.there))))) fun vx L' wx hq H=>?_
       obtain ⟨q,cc,rfl,H⟩:=told_i hq H (i:=i) ⟨_,(by repeat (first | exact Cut.nil | (apply Cut.cons; (repeat (first | exact Pick.here | apply Pick.there)))))⟩
       exact ⟨_,_,_,_,rfl,done wx 0 _ _ (pre 0 _ (by rw [if_neg h2,if_neg h3,if_neg h4,if_neg h5,if_neg h6,if_neg h7,if_neg h8])) ⟨q,cc,rfl,H⟩⟩
    refine cnd_i (fun h8=>?_) fun h8=>?_
    · exact go3 _ (by
                      have:c.op = 14:=by simpa using h8
                      simp [this])
    · have h8:c.op≠14:=by simpa using h8
      exact go3 _ (by simp [h8])
   refine cnd_i (fun h1=>?_) fun h1=>?_
   · repeat (first | refine lIa H ?_ | refine lLa H ?_ | refine lBa H ?_ | refine lPa H ?_ | refine lSa H ?_)
     refine call_p H (contains_t i hi hl c.dev) (by repeat (first | exact Cut.nil | (apply Cut.cons; (repeat (first | exact Pick.here | apply Pick.there))))) fun wx H=>?_
     exact ⟨_,rfl,go2 _ _ (by rw [h1]; simp) (H.dp)⟩
   · exact go2 _ _ (by rw [h1]; simp) (H.dp)
  have hn:∀ x:Bool,(x = true↔(c.op≠9∧c.op≠13∧c.op≠14∧c.op≠5))→x = namesB c.op:=by
   intro x hx
   unfold namesB
   cases x
   · symm
     rw [decide_eq_false_iff_not]
     exact fun h=>by have:=hx.2 h; cases this
   · symm
     rw [decide_eq_true_eq]
     exact hx.1 rfl
  repeat (first | refine lIa H ?_ | refine lLa H ?_ | refine lBa H ?_ | refine lPa H ?_ | refine lSa H ?_)
  refine cnd_i (fun h1=>?_) fun h1=>?_
  · have h1:c.op≠9:=by simpa using h1
    repeat (first | refine lIa H ?_ | refine lLa H ?_ | refine lBa H ?_ | refine lPa H ?_ | refine lSa H ?_)
    refine cnd_i (fun h2=>?_) fun h2=>?_
    · have h2:c.op≠13:=by simpa using h2
      repeat (first | refine lIa H ?_ | refine lLa H ?_ | refine lBa H ?_ | refine lPa H ?_ | refine lSa H ?_)
      refine cnd_i (fun h3=>?_) fun h3=>?_
      · have h3:c.op≠14:=by simpa using h3
        repeat (first | refine lIa H ?_ | refine lLa H ?_ | refine lBa H ?_ | refine lPa H ?_ | refine lSa H ?_)
        exact go _ _ (hn _ (by simp [h1,h2,h3])) (H.dp)
      · have h3:c.op = 14:=by simpa using h3
        exact go _ _ (hn _ (by simp [h3])) (H.dp)
    · have h2:c.op = 13:=by simpa using h2
      exact go _ _ (hn _ (by simp [h2])) (H.dp)
  · have h1:c.op = 9:=by simpa using h1
    exact go _ _ (hn _ (by simp [h1])) (H.dp)
open Go X
abbrev tRow:TypeId:=T.t210
abbrev tRows:TypeId:=T.t167
theorem appRows:appB P tRows tRow 7 56 = true:=by kernel_rfl
theorem zeroRow:zeroC P tRow = some [.int .i64 0,.int .i64 0,.int .i64 0,.int .i64 0,.int .i64 0,.int .i64 0,.int .i64 0]:=by kernel_rfl
abbrev tPlace:TypeId:=T.t100
open Go Go.RowKit X
structure Rw where
 lo:Int
 hi:Int
 wd:Int
 reg:Int
 first:Int
 num:Int
 den:Int
abbrev Rw.cells (r:Rw):List Value:=[.int .i64 r.lo,.int .i64 r.hi,.int .i64 r.wd,.int .i64 r.reg,.int .i64 r.first,.int .i64 r.num,.int .i64 r.den]
noncomputable abbrev EW:El P where
 α:=Rw
 enc:=Rw.cells
 z:=7
 ta:=tRows
 te:=tRow
 bytes:=56
 zs:=[.int .i64 0,.int .i64 0,.int .i64 0,.int .i64 0,.int .i64 0,.int .i64 0,.int .i64 0]
 hT:=appRows
 hZ:=zeroRow
 hz1:=by simp [Value.oneCell']
 hlen:=fun _=>rfl
 h1:=by intro x u hu; simp only [Rw.cells,List.mem_cons,List.not_mem_nil,or_false] at hu; rcases hu with rfl | rfl | rfl | rfl | rfl | rfl | rfl <;> rfl
 hz:=by omega
 hb:=by omega
def wi (n:Int):Int:=IntKind.i64.wrap n
def Rw.meets (r:Rw) (off width:Int):Bool:=!(decide (wi (off + width)≤r.lo) || decide (off≥r.hi))
def plV (x:Int×Int×Int):Value:=.agg [.int .i64 x.1,.int .i64 x.2.1,.int .i64 x.2.2].toArray
def hitM (r:Rw) (off width:Int):(Int×Int×Int)×Int :=
 if width≠r.wd then ((0,0,0),40) else ((r.reg,wi (r.first + wi (Int.tdiv (wi (wi (off - r.lo) * r.num)) r.den)),wi (Int.tdiv (wi (width * r.num)) r.den)),0)
def seekM (off width:Int):List Rw→(Int×Int×Int)×Int
 | []=>((0,0,0),0)
 | r :: l=>if r.meets off width then hitM r off width else seekM off width l
def findM (rows:List Rw) (size off width:Int):(Int×Int×Int)×Int :=
 if width≠4∧width≠8 then ((0,0,0),40) else if Int.tmod off width≠0 then ((0,0,0),41) else if off < 0∨off > wi (size - width) then ((0,0,0),42) else seekM off width rows
theorem seek_drop {off width:Int} {rows:List Rw} {k:Nat} {r:Rw} (h:rows[k]? = some r):seekM off width (rows.drop k) = if r.meets off width then hitM r off width else seekM off width (rows.drop (k + 1)):=by
 obtain ⟨hl,he⟩:=List.getElem?_eq_some_iff.1 h
 rw [List.drop_eq_getElem_cons hl,he]; rfl
theorem els_atF {w w0:World} {S0:Nat→Prop} {E:El P} {L F:List It} {q:Option Addr} {c j:Nat} {xs:List E.α} {x:E.α} (H:X.Own w0 S0 L w) (hp:Pick L (els E q c xs) F) (hx:xs[j]? = some x):∃ d,q = some ⟨d,0,none⟩∧∀ i v,(E.enc x)[i]? = some v→w.cell? ⟨d,j * E.z + i,none⟩ = some v:=by
 have hne:xs≠[]:=by intro e; rw [e] at hx; cases hx
 obtain ⟨d,rest,rfl,hlen,hle,hmx,H2⟩:=els_open H hp hne
 refine ⟨d,rfl,fun i v hv=>?_⟩
 have h1:=El.flat_get hx hv
 rw [(H2.row .here).cell,List.getElem?_append_left (List.getElem?_eq_some_iff.1 h1).1]; exact h1
theorem find_t {p:Option Addr} {cp:Nat} {rows:List Rw} (hr:∀ r∈rows,r.den≠0) (hl:rows.length < 1000000) (size off width:Int) :
 Tri P F.zzgT [.slice p rows.length cp,.int .i64 size,.int .i64 off,.int .i64 width] [els EW p cp rows] fun v L'=>v = .tuple [plV (findM rows size off width).1,.int .i64 (findM rows size off width).2].toArray∧L' = [els EW p cp rows]:=by
 intro w S hS
 refine zzma ?_
 unfold zzgT
 have H:=Own.start hS
 refine alc_o H fun b7 wx H=>join_o ?_
 have err:∀ (e:Int) (wx:World) (M:(Int×Int×Int)×Int),M = ((0,0,0),e)→X.Own w S [els EW p cp rows] wx→∃ L',(((.tuple [.agg [.int .i64 0,.int .i64 0,.int .i64 0].toArray,.int .i64 e].toArray:Value) = .tuple [plV M.1,.int .i64 M.2].toArray)∧L' = [els EW p cp rows])∧X.Own w S L' wx:=by
  rintro e wx M rfl H
  exact ⟨_,⟨rfl,rfl⟩,H⟩
 have go:∀ x:Bool,(x = true↔(width≠4∧width≠8))→zziV p rows.length size off width (fun v w'=>∃ L',(v = .tuple [plV (findM rows size off width).1,.int .i64 (findM rows size off width).2].toArray∧L' = [els EW p cp rows])∧X.Own w S L' w') b7 x wx:=by
  intro x hx
  unfold zziV
  refine cnd_i (fun h=>?_) fun h=>?_
  · iterate 3 refine sta H fun wx H=>?_
    repeat (first | refine lIa H ?_ | refine lLa H ?_ | refine lBa H ?_ | refine lPa H ?_ | refine lSa H ?_)
    exact err 40 _ _ (by unfold findM; rw [if_pos (hx.1 h)]) (H.dp)
  have h:¬ (width≠4∧width≠8):=fun hh=>by rw [hx.2 hh] at h; cases h
  refine ⟨by omega,cnd_i (fun h2=>?_) fun h2=>join_o ?_⟩
  · iterate 3 refine sta H fun wx H=>?_
    repeat (first | refine lIa H ?_ | refine lLa H ?_ | refine lBa H ?_ | refine lPa H ?_ | refine lSa H ?_)
    exact err 41 _ _ (by unfold findM; rw [if_neg h,if_pos (by simpa using h2)]) (H.dp)
  have h2:¬ Int.tmod off width≠0:=by simpa using h2
  have go2:∀ x:Bool,(x = true↔(off < 0∨off > wi (size - width)))→zziU p rows.length off width (fun v w'=>∃ L',(v = .tuple [plV (findM rows size off width).1,.int .i64 (findM rows size off width).2].toArray∧L' = [els EW p cp rows])∧X.Own w S L' w') b7 x wx:=by
   intro x hx
   unfold zziU
   refine cnd_i (fun h3=>?_) fun h3=>?_
   · iterate 3 refine sta H fun wx H=>?_
     repeat (first | refine lIa H ?_ | refine lLa H ?_ | refine lBa H ?_ | refine lPa H ?_ | refine lSa H ?_)
     exact err 42 _ _ (by unfold findM; rw [if_neg h,if_neg h2,if_pos (hx.1 h3)]) (H.dp)
   have h3:¬ (off < 0∨off > wi (size - width)):=fun hh=>by rw [hx.2 hh] at h3; cases h3
   have e0:findM rows size off width = seekM off width rows:=by unfold findM; rw [if_neg h,if_neg h2,if_neg h3]
   rw [e0]
   refine loop_o (fun (st:Int) L=>∃ k:Nat,k≤rows.length∧st = k∧seekM off width rows = seekM off width (rows.drop k)∧L = [row b7 [.int .i64 0,.int .i64 0,.int .i64 0] tPlace,els EW p cp rows]) (fun (st:Int)=>((rows.length:Int) - st).toNat) H ⟨0,by omega,rfl,rfl,rfl⟩ ?_
   rintro _ _ wx ⟨k,hk,rfl,hse,rfl⟩ H
   unfold zzk2
   refine cnd_i (fun hc=>?_) fun hc=>?_
   · have hc:=of_decide_eq_true hc
     have hkl:k < rows.length:=by omega
     have hx:rows[k]? = some rows[k]:=List.getElem?_eq_getElem hkl
     have hden:=hr rows[k] (List.getElem_mem _)
     generalize hre:rows[k] = r at *
     obtain ⟨d,rfl,hcell⟩:=els_atF (E:=EW) (q:=p) (c:=cp) H (by repeat (first | exact Pick.here | apply Pick.there)) hx
     refine ⟨⟨by omega,by omega⟩,?_⟩
     rw [Int.toNat_natCast]
     dsimp only [nn]
     have hce:∀ i v,r.cells[i]? = some v→wx.cell? (((⟨d,0,none⟩:Addr).add (k * 7)).add i) = some v:=by
      intro i v hv
      rw [add_lit,add_lit,Nat.zero_add]; exact hcell i v hv
     refine ⟨_,by rw [add_lit,Nat.zero_add]; exact hcell 0 _ rfl,_,hce 1 _ rfl,_,hce 2 _ rfl,_,hce 3 _ rfl,_,hce 4 _ rfl,_,hce 5 _ rfl,_,hce 6 _ rfl,alc_o H fun b46 wx H=>?_⟩
     iterate 7 refine sta H fun wx H=>?_
     refine join_o ?_
     have fin:∀ y:Bool,y = !r.meets off width→zziT off width (fun v w'=>∃ L',(v = .tuple [plV (seekM off width rows).1,.int .i64 (seekM off width rows).2].toArray∧L' = [els EW (some ⟨d,0,none⟩) cp rows])∧X.Own w S L' w') b7 (k:Int)
      (fun (s':Int) w'=>(∃ L',(∃ k:Nat,k≤rows.length∧s' = (k:Int)∧seekM off width rows = seekM off width (rows.drop k)∧L' = [row b7 [.int .i64 0,.int .i64 0,.int .i64 0] tPlace,els EW (some ⟨d,0,none⟩) cp rows])∧X.Own w S L' w')∧((rows.length:Int) - s').toNat < ((rows.length:Int) - (k:Int)).toNat) b46 y wx:=by
      rintro y hy
      unfold zziT
      refine cnd_i (fun h4=>?_) fun h4=>?_
      · have hm:r.meets off width = false:=by
         cases hmm:r.meets off width
         · rfl
         · rw [hmm,h4] at hy; cases hy
        rw [W_id (by omega) (by omega)]
        refine ⟨⟨_,⟨k + 1,by omega,by push_cast; rfl,?_,rfl⟩,H.dp⟩,by omega⟩
        rw [hse,seek_drop hx,hm]; rfl
      have hm:r.meets off width = true:=by
       cases hmm:r.meets off width
       · rw [hmm,h4] at hy; cases hy
       · rfl
      rw [hse,seek_drop hx,hm,if_pos rfl]
      repeat (first | refine lIa H ?_ | refine lLa H ?_ | refine lBa H ?_ | refine lPa H ?_ | refine lSa H ?_)
      refine cnd_i (fun h5=>?_) fun h5=>?_
      · iterate 3 refine sta H fun wx H=>?_
        repeat (first | refine lIa H ?_ | refine lLa H ?_ | refine lBa H ?_ | refine lPa H ?_ | refine lSa H ?_)
        exact err 40 _ _ (by unfold hitM; rw [if_pos (by simpa using h5)]) (H.dp)
      have h5:¬ width≠r.wd:=by simpa using h5
      refine drw_o H fun wx H=>?_
      repeat (first | refine lIa H ?_ | refine lLa H ?_ | refine lBa H ?_ | refine lPa H ?_ | refine lSa H ?_)
      refine ⟨hden,alc_o H fun b70 wx H=>⟨?_,?_,?_,?_,?_⟩⟩
      · repeat (first | refine lIa H ?_ | refine lLa H ?_ | refine lBa H ?_ | refine lPa H ?_ | refine lSa H ?_)
        rfl
      · repeat (first | refine lIa H ?_ | refine lLa H ?_ | refine lBa H ?_ | refine lPa H ?_ | refine lSa H ?_)
        rfl
      · repeat (first | refine lIa H ?_ | refine lLa H ?_ | refine lBa H ?_ | refine lPa H ?_ | refine lSa H ?_)
        rfl
      · repeat (first | refine lIa H ?_ | refine lLa H ?_ | refine lBa H ?_ | refine lPa H ?_ | refine lSa H ?_)
        rfl
      iterate 3 refine sta H fun wx H=>?_
      refine drw_o H fun wx H=>?_
      repeat (first | refine lIa H ?_ | refine lLa H ?_ | refine lBa H ?_ | refine lPa H ?_ | refine lSa H ?_)
      refine ⟨hden,?_⟩
      refine sta H fun wx H=>?_
      repeat (first | refine lIa H ?_ | refine lLa H ?_ | refine lBa H ?_ | refine lPa H ?_ | refine lSa H ?_)
      iterate 3 refine sta H fun wx H=>?_
      repeat (first | refine lIa H ?_ | refine lLa H ?_ | refine lBa H ?_ | refine lPa H ?_ | refine lSa H ?_)
      refine ⟨_,⟨?_,rfl⟩,H.dp⟩
      unfold hitM
      rw [if_neg h5]; rfl
     repeat (first | refine lIa H ?_ | refine lLa H ?_ | refine lBa H ?_ | refine lPa H ?_ | refine lSa H ?_)
     refine cnd_i (fun h4=>?_) fun h4=>?_
     · exact fin true (by unfold Rw.meets wi; rw [h4]; rfl)
     · repeat (first | refine lIa H ?_ | refine lLa H ?_ | refine lBa H ?_ | refine lPa H ?_ | refine lSa H ?_)
       exact fin _ (by unfold Rw.meets wi; rw [h4,Bool.false_or,Bool.not_not])
   · have hc:=of_decide_eq_false hc
     have:k = rows.length:=by omega
     subst this
     rw [hse,List.drop_length]
     iterate 3 refine sta H fun wx H=>?_
     repeat (first | refine lIa H ?_ | refine lLa H ?_ | refine lBa H ?_ | refine lPa H ?_ | refine lSa H ?_)
     exact err 0 _ _ rfl (H.dp)
  refine cnd_i (fun h3=>?_) fun h3=>?_
  · exact go2 true (by simp [of_decide_eq_true h3])
  · exact go2 _ (by have h3:=of_decide_eq_false h3; unfold wi; simp [h3])
 refine cnd_i (fun h=>?_) fun h=>?_
 · exact go _ (by
                  have h:width≠4:=by simpa using h
                  simp [h])
 · exact go false (by
                      have h:width = 4:=by simpa using h
                      simp [h])
def itsRows:List Rw:=[⟨0,4,4,1,0,0,1⟩,⟨8,16,8,2,0,0,1⟩,⟨128,136,8,19,0,0,1⟩,⟨136,144,8,20,0,0,1⟩,⟨144,152,8,21,0,0,1⟩]
theorem its_t:Tri P F.zzhy [] [] fun v L'=>∃ p c,v = .slice p itsRows.length c∧L' = [els EW p c itsRows]:=by
 intro w S hS
 refine zzmk ?_
 unfold zzhy
 have H:=Own.start hS
 refine alc_o H fun b1 wx H=>?_
 exact ⟨_,⟨some ⟨b1,0,none⟩,5,rfl,rfl⟩,els_shut (E:=EW) (c:=5) (xs:=itsRows) H rfl rfl (by simp [itsRows]) (by unfold maxLen; omega) rfl⟩
def itsM (off width:Int):(Int×Int×Int)×Int:=findM itsRows 65536 off width
theorem Its_t (off width:Int):Tri P F.zzgE [.int .i64 off,.int .i64 width] [] fun v L'=>v = .tuple [plV (itsM off width).1,.int .i64 (itsM off width).2].toArray∧L' = []:=by
 intro w S hS
 refine zzmg ?_
 unfold zzgE
 have H:=Own.start hS
 refine alc_o H fun b3 wx H=>?_
 refine call_oa H (its_t) fun vx L' wx hq H=>?_
 obtain ⟨p,c,rfl,rfl⟩:=hq
 simp only [List.cons_append,List.nil_append] at H
 refine ⟨_,_,_,rfl,?_⟩
 refine call_p H (find_t (rows:=itsRows) (by intro r hr; simp only [itsRows,List.mem_cons,List.not_mem_nil,or_false] at hr; rcases hr with rfl | rfl | rfl | rfl | rfl <;> simp) (by simp [itsRows]) 65536 off width) (by repeat (first | exact Cut.nil | (apply Cut.cons; (repeat (first | exact Pick.here | apply Pick.there))))) fun wx H=>?_
 refine ⟨_,_,_,_,rfl,?_⟩
 iterate 3 refine sta H fun wx H=>?_
 repeat (first | refine lIa H ?_ | refine lLa H ?_ | refine lBa H ?_ | refine lPa H ?_ | refine lSa H ?_)
 exact ⟨_,⟨rfl,rfl⟩,H.dp⟩
theorem PassV_t (b bd bc:Nat) (s:Vi):Tri P F.zzcq [.pointer (some ⟨b,4,none⟩)] [row b (s.cells bd bc) tVits] fun v L'=>v = .int .i64 (passQ s.q).2∧L' = [row b (({ s with q:=(passQ s.q).1 }:Vi).cells bd bc) tVits]:=by
 intro w S hS
 refine zzkn ?_
 unfold zzcq
 have H:=Own.start hS
 dsimp only [nn]
 simp only [add_lit]
 repeat (first | refine lIa H ?_ | refine lLa H ?_ | refine lBa H ?_ | refine lPa H ?_ | refine lSa H ?_)
 refine call_pa H (Left_t s.q) fun wx H=>?_
 refine ⟨_,rfl,cnd_i (fun h=>?_) fun h=>?_⟩
 · have e:passQ s.q = (s.q,170):=by unfold passQ; rw [if_pos (of_decide_eq_true h)]
   rw [e]
   exact ⟨_,⟨rfl,rfl⟩,H⟩
 have h:=of_decide_eq_false h
 have e:passQ s.q = ({ s.q with r:=nextQ s.q.s s.q.r },0):=by unfold passQ; rw [if_neg h]
 rw [e]
 refine drw_o H fun wx H=>?_
 repeat (first | refine lIa H ?_ | refine lLa H ?_ | refine lBa H ?_ | refine lPa H ?_ | refine lSa H ?_)
 refine call_pa H (zzlS s.q) fun wx H=>?_
 refine ⟨_,_,rfl,by
                       repeat (first | refine lIa H ?_ | refine lLa H ?_ | refine lBa H ?_ | refine lPa H ?_ | refine lSa H ?_)
                       rfl,?_⟩
 refine call_oa H (Next_t s.q.s s.q.r) fun vx L' wx hq H=>?_
 obtain ⟨⟨e,rfl⟩,rfl⟩:=hq
 simp only [List.cons_append,List.nil_append] at H
 refine ⟨_,_,rfl,?_⟩
 refine sta H fun wx H=>?_
 exact ⟨_,⟨rfl,rfl⟩,H⟩
theorem SetWriteV_t (b bd bc:Nat) (s:Vi) (at':Int):Tri P F.zzbq [.pointer (some ⟨b,4,none⟩),.int .i64 at'] [row b (s.cells bd bc) tVits] fun v L'=>v = .int .i64 (setQ s.q at').2∧L' = [row b (({ s with q:=(setQ s.q at').1 }:Vi).cells bd bc) tVits]:=by
 intro w S hS
 refine zzjc ?_
 unfold zzbq
 have H:=Own.start hS
 dsimp only [nn]
 simp only [add_lit]
 repeat (first | refine lIa H ?_ | refine lLa H ?_ | refine lBa H ?_ | refine lPa H ?_ | refine lSa H ?_)
 refine call_pa H (zzlS s.q) fun wx H=>?_
 refine ⟨_,_,rfl,?_⟩
 refine call_pa H (pl_t (rmay_plain s.q.s 32 at')) fun wx H=>?_
 refine ⟨_,rfl,?_⟩
 unfold setQ
 cases mayB s.q.s 32 at'
 · exact cnd_i (fun _=>⟨_,⟨rfl,rfl⟩,H⟩) (fun h=>by cases h)
 · refine cnd_i (fun h=>by cases h) fun _=>?_
   refine sta H fun wx H=>?_
   exact ⟨_,⟨rfl,rfl⟩,H⟩
theorem Stalled_t (b:Nat) (s:Vi):Tri P F.zza7 [ptr b] [vitsI b s] fun v L'=>v = .bool s.st∧L' = [vitsI b s]:=by
 intro w S hS
 refine zzjH ?_
 unfold zza7
 have H:=Own.start hS
 obtain ⟨bd,bc,H⟩:=zzai H .here
 dsimp only [nn]
 repeat (first | refine lIa H ?_ | refine lLa H ?_ | refine lBa H ?_ | refine lPa H ?_ | refine lSa H ?_)
 exact ⟨_,⟨rfl,rfl⟩,zzab H⟩
def vleft (s:Vi):Int:=if s.fit then s.q.left else 0
theorem VLeft_t (b:Nat) (s:Vi):Tri P F.zza2 [ptr b] [vitsI b s] fun v L'=>v = .int .i64 (vleft s)∧L' = [vitsI b s]:=by
 intro w S hS
 refine zzlh ?_
 unfold zza2
 have H:=Own.start hS
 obtain ⟨bd,bc,H⟩:=zzai H .here
 dsimp only [nn]
 repeat (first | refine lIa H ?_ | refine lLa H ?_ | refine lBa H ?_ | refine lPa H ?_ | refine lSa H ?_)
 refine cnd_i (fun h=>?_) fun h=>?_
 · have h:s.fit = false:=by simpa using h
   exact ⟨_,⟨by unfold vleft; rw [h]; rfl,rfl⟩,zzab H⟩
 · have h:s.fit = true:=by simpa using h
   repeat (first | refine lIa H ?_ | refine lLa H ?_ | refine lBa H ?_ | refine lPa H ?_ | refine lSa H ?_)
   refine call_pa H (Left_t s.q) fun wx H=>?_
   exact ⟨_,rfl,_,⟨by unfold vleft; rw [h]; rfl,rfl⟩,zzab H⟩
def bitI (x:Bool):Int:=if x then 1 else 0
theorem bit_t (x:Bool):Tri P F.zzgF [.bool x] [] fun v L'=>v = .int .u64 (bitI x)∧L' = []:=by
 intro w S hS
 refine zzmh ?_
 unfold zzgF
 have H:=Own.start hS
 cases x
 · exact cnd_i (fun h=>by cases h) fun _=>⟨_,⟨rfl,rfl⟩,H⟩
 · exact cnd_i (fun _=>⟨_,⟨rfl,rfl⟩,H⟩) (fun h=>by cases h)
def vreadM (s:Vi) (off width:Int):Int×Int :=
 if (itsM off width).2≠0 then (0,(itsM off width).2)
 else if (itsM off width).1.1 = 1 then (bitX .or .u64 (bitI s.on) 2147483648,0)
 else if (itsM off width).1.1 = 2 then (254833,0)
 else if (itsM off width).1.1 = 19 then (s.base,0)
 else if (itsM off width).1.1 = 20 then (IntKind.u64.wrap s.q.w,0)
 else if (itsM off width).1.1 = 21 then (bitX .or .u64 (IntKind.u64.wrap s.q.r) (bitI s.st),0)
 else (0,0)
theorem VRead_t (b:Nat) (s:Vi) (off width:Int):Tri P F.zzds [ptr b,.int .i64 off,.int .i64 width] [vitsI b s] fun v L'=>v = .tuple [.int .u64 (vreadM s off width).1,.int .i64 (vreadM s off width).2].toArray∧L' = [vitsI b s]:=by
 intro w S hS
 refine zzlj ?_
 unfold zzds
 have H:=Own.start hS
 refine call_pa H (Its_t off width) fun wx H=>?_
 refine ⟨_,_,_,_,rfl,alc_o H fun b10 wx H=>?_⟩
 iterate 3 refine sta H fun wx H=>?_
 unfold vreadM
 refine cnd_i (fun h=>?_) fun h=>?_
 · rw [if_pos (by simpa using h)]
   exact ⟨_,⟨rfl,rfl⟩,H.dp⟩
 rw [if_neg (by simpa using h)]
 repeat (first | refine lIa H ?_ | refine lLa H ?_ | refine lBa H ?_ | refine lPa H ?_ | refine lSa H ?_)
 obtain ⟨bd,bc,H⟩:=zzai H (by repeat (first | exact Pick.here | apply Pick.there))
 refine cnd_i (fun h1=>?_) fun h1=>?_
 · rw [if_pos (by simpa using h1)]
   dsimp only [nn]
   repeat (first | refine lIa H ?_ | refine lLa H ?_ | refine lBa H ?_ | refine lPa H ?_ | refine lSa H ?_)
   refine call_pa H (bit_t s.on) fun wx H=>?_
   exact ⟨_,rfl,_,⟨rfl,rfl⟩,(zzab H).dp⟩
 rw [if_neg (by simpa using h1)]
 refine cnd_i (fun h1=>?_) fun h1=>?_
 · rw [if_pos (by simpa using h1)]
   exact ⟨_,⟨rfl,rfl⟩,(zzab H).dp⟩
 rw [if_neg (by simpa using h1)]
 refine cnd_i (fun h1=>?_) fun h1=>?_
 · rw [if_pos (by simpa using h1)]
   dsimp only [nn]
   repeat (first | refine lIa H ?_ | refine lLa H ?_ | refine lBa H ?_ | refine lPa H ?_ | refine lSa H ?_)
   exact ⟨_,⟨rfl,rfl⟩,(zzab H).dp⟩
 rw [if_neg (by simpa using h1)]
 refine cnd_i (fun h1=>?_) fun h1=>?_
 · rw [if_pos (by simpa using h1)]
   dsimp only [nn]
   simp only [add_lit]
   repeat (first | refine lIa H ?_ | refine lLa H ?_ | refine lBa H ?_ | refine lPa H ?_ | refine lSa H ?_)
   exact ⟨_,⟨rfl,rfl⟩,(zzab H).dp⟩
 rw [if_neg (by simpa using h1)]
 refine cnd_i (fun h1=>?_) fun h1=>?_
 · rw [if_pos (by simpa using h1)]
   dsimp only [nn]
   simp only [add_lit]
   refine drw_o H fun wx H=>?_
   repeat (first | refine lIa H ?_ | refine lLa H ?_ | refine lBa H ?_ | refine lPa H ?_ | refine lSa H ?_)
   refine call_pa H (bit_t s.st) fun wx H=>?_
   refine ⟨_,rfl,trivial,?_,?_⟩
   · repeat (first | refine lIa H ?_ | refine lLa H ?_ | refine lBa H ?_ | refine lPa H ?_ | refine lSa H ?_)
     rfl
   exact ⟨_,⟨rfl,rfl⟩,(zzab H).dp⟩
 · rw [if_neg (by simpa using h1)]
   exact ⟨_,⟨rfl,rfl⟩,(zzab H).dp⟩
def partM (a s x n:Int):(Int×Int)×Int:=if fairB a s && (decide (0≤x) && (decide (0≤n) && (decide (n≤s) && decide (x≤s - n)))) then ((a + x,n),0) else ((0,0),42)
theorem part_t' (a s x n:Int):Tri P F.zzhz [winV a s,.int .i64 x,.int .i64 n] [] fun v L'=>v = .tuple [winV (partM a s x n).1.1 (partM a s x n).1.2,.int .i64 (partM a s x n).2].toArray∧L' = []:=by
 intro w S hS
 refine (tri_plain (Part_plain a s x n) w S hS).mono ?_
 rintro v w' ⟨L',⟨rfl,rfl⟩,H⟩
 refine ⟨_,⟨?_,rfl⟩,H⟩
 unfold partW partM
 split <;> rfl
def baseX (v:Int):Int:=wi (IntKind.u64.wrap ((bitX .and .u64 (Int.fdiv v (2 ^ min (Int.toNat 8) (IntKind.u64.bits))) 1099511627775) * 2 ^ min (Int.toNat 8) (IntKind.u64.bits)))
def baseN (v:Int):Int:=wi ((wi ((wi (bitX .and .u64 v 255)) + 1)) * 256)
def baseB (v:Int):Int:=bitX .and .u64 v 9223653511831486463
def baseV (v:Int):Bool:=(Int.fdiv v (2 ^ min (Int.toNat 63) (IntKind.u64.bits))) == 1
def rebM (s:Vi) (v:Int) (r:Ru):Vi :=
 if (partM r.a r.s (baseX v) (baseN v)).2 = 0∧baseV v = true then
  { s with base:=baseB v,st:=false,q:=(newQ (partM r.a r.s (baseX v) (baseN v)).1.1 (partM r.a r.s (baseX v) (baseN v)).1.2).1,fit:=(newQ (partM r.a r.s (baseX v) (baseN v)).1.1 (partM r.a r.s (baseX v) (baseN v)).1.2).2 == 0 }
 else { s with base:=baseB v,st:=false,q:=⟨0,0,0,0⟩,fit:=false }
theorem rebase_t (b:Nat) (s:Vi) (v:Int) (r:Ru) {po:Option Addr} {no co:Nat}:Tri P F.zzcr [ptr b,.int .u64 v,ruV r po no co] [vitsI b s] fun x L'=>x = .tuple [].toArray∧L' = [vitsI b (rebM s v r)]:=by
 intro w S hS
 refine zzko ?_
 unfold zzcr
 have H:=Own.start hS
 refine alc_o H fun b10 wx H=>?_
 obtain ⟨bd,bc,H⟩:=zzai H (by repeat (first | exact Pick.here | apply Pick.there))
 dsimp only [nn]
 simp only [add_lit]
 iterate 7 refine sta H fun wx H=>?_
 repeat (first | refine lIa H ?_ | refine lLa H ?_ | refine lBa H ?_ | refine lPa H ?_ | refine lSa H ?_)
 refine ⟨by omega,by omega,?_⟩
 refine call_p H (part_t' r.a r.s (baseX v) (baseN v)) .nil fun wx H=>?_
 refine ⟨_,_,_,rfl,alc_o H fun b30 wx H=>?_⟩
 iterate 2 refine sta H fun wx H=>?_
 refine join_o ?_
 have fin:∀ x:Bool,(x = true↔(partM r.a r.s (baseX v) (baseN v)).2 = 0∧baseV v = true)→zze5 (some ⟨b,0,none⟩) (fun x w'=>∃ L',(x = .tuple [].toArray∧L' = [vitsI b (rebM s v r)])∧X.Own w S L' w') b30 x wx:=by
  intro x hx
  unfold zze5
  refine cnd_i (fun h=>?_) fun h=>?_
  · have hh:=hx.1 h
    repeat (first | refine lIa H ?_ | refine lLa H ?_ | refine lBa H ?_ | refine lPa H ?_ | refine lSa H ?_)
    refine call_p H (NewQ_t (partM r.a r.s (baseX v) (baseN v)).1.1 (partM r.a r.s (baseX v) (baseN v)).1.2) .nil fun wx H=>?_
    refine ⟨_,_,_,_,_,rfl,alc_o H fun b46 wx H=>?_⟩
    iterate 4 refine sta H fun wx H=>?_
    repeat (first | refine lIa H ?_ | refine lLa H ?_ | refine lBa H ?_ | refine lPa H ?_ | refine lSa H ?_)
    dsimp only [nn]
    simp only [add_lit]
    iterate 5 refine sta H fun wx H=>?_
    unfold rebM
    rw [if_pos hh]
    exact ⟨_,⟨trivial,rfl⟩,zzab (bd:=bd) (bc:=bc) (F:=[]) (H.dp)⟩
  · have hh:¬ ((partM r.a r.s (baseX v) (baseN v)).2 = 0∧baseV v = true):=fun hh=>by rw [hx.2 hh] at h; cases h
    unfold rebM
    rw [if_neg hh]
    exact ⟨_,⟨rfl,rfl⟩,zzab (bd:=bd) (bc:=bc) (F:=[]) (H.dp)⟩
 refine cnd_i (fun h=>⟨by omega,?_⟩) fun h=>?_
 · have h:(partM r.a r.s (baseX v) (baseN v)).2 = 0:=by simpa using h
   exact fin _ ⟨fun hh=>⟨h,hh⟩,fun hh=>hh.2⟩
 · have h:(partM r.a r.s (baseX v) (baseN v)).2≠0:=by simpa using h
   exact fin false (by simp [h])
def stop1 (v:Int) (s:Vi):Vi:={ s with st:=if s.st then (bitX .and .u64 v 1) == 0 else false }
def vwriteM (s:Vi) (off width v:Int) (r:Ru):Vi×Int :=
 if (itsM off width).2≠0 then (s,(itsM off width).2)
 else if (itsM off width).1.1 = 1 then ({ s with on:=(bitX .and .u64 v 1) == 1 },0)
 else if (itsM off width).1.1 = 19 then (if s.on then s else rebM s v r,0)
 else if (itsM off width).1.1 = 20 then (stop1 v (if s.fit then { s with q:=(setQ s.q (wi (bitX .and .u64 v 1048544))).1 } else s),0)
 else (s,0)
theorem VWrite_t (b:Nat) (s:Vi) (off width v:Int) (r:Ru) {po:Option Addr} {no co:Nat}:Tri P F.zzb0 [ptr b,.int .i64 off,.int .i64 width,.int .u64 v,ruV r po no co] [vitsI b s] fun x L'=>x = .int .i64 (vwriteM s off width v r).2∧L' = [vitsI b (vwriteM s off width v r).1]:=by
 intro w S hS
 refine zzkM ?_
 unfold zzb0
 have H:=Own.start hS
 refine alc_o H fun b12 wx H=>?_
 refine call_pa H (Its_t off width) fun wx H=>?_
 refine ⟨_,_,_,_,rfl,alc_o H fun b20 wx H=>?_⟩
 iterate 3 refine sta H fun wx H=>?_
 unfold vwriteM
 refine cnd_i (fun h=>?_) fun h=>?_
 · rw [if_pos (by simpa using h)]
   exact ⟨_,⟨rfl,rfl⟩,H.dp⟩
 rw [if_neg (by simpa using h)]
 repeat (first | refine lIa H ?_ | refine lLa H ?_ | refine lBa H ?_ | refine lPa H ?_ | refine lSa H ?_)
 refine join_o ?_
 unfold zzhJ
 refine cnd_i (fun h1=>?_) fun h1=>?_
 · rw [if_pos (by simpa using h1)]
   obtain ⟨bd,bc,H⟩:=zzai H (by repeat (first | exact Pick.here | apply Pick.there))
   dsimp only [nn]
   refine sta H fun wx H=>?_
   exact ⟨_,⟨rfl,rfl⟩,zzab (bd:=bd) (bc:=bc) (F:=[]) (H.dp)⟩
 rw [if_neg (by simpa using h1)]
 refine cnd_i (fun h1=>?_) fun h1=>?_
 · rw [if_pos (by simpa using h1)]
   obtain ⟨bd,bc,H⟩:=zzai H (by repeat (first | exact Pick.here | apply Pick.there))
   dsimp only [nn]
   repeat (first | refine lIa H ?_ | refine lLa H ?_ | refine lBa H ?_ | refine lPa H ?_ | refine lSa H ?_)
   have H:=zzab H
   cases hon:s.on
   · refine cnd_i (fun _=>?_) (fun h=>by cases h)
     repeat (first | refine lIa H ?_ | refine lLa H ?_ | refine lBa H ?_ | refine lPa H ?_ | refine lSa H ?_)
     refine call_o H (rebase_t b s v r) (by repeat (first | exact Cut.nil | (apply Cut.cons; (repeat (first | exact Pick.here | apply Pick.there))))) fun vx L' wx hq H=>?_
     obtain ⟨rfl,rfl⟩:=hq
     simp only [List.cons_append,List.nil_append] at H
     exact ⟨rfl,_,⟨rfl,rfl⟩,H.dp⟩
   · exact cnd_i (fun h=>by cases h) fun _=>⟨_,⟨rfl,rfl⟩,H.dp⟩
 rw [if_neg (by simpa using h1)]
 refine cnd_i (fun h1=>?_) fun h1=>?_
 · rw [if_pos (by simpa using h1)]
   refine join_o ?_
   have fin:∀ (s1:Vi) (wx:World),X.Own w S [vitsI b s1] wx→zzft (some ⟨b,0,none⟩) v (fun s57 w58=>∃ L',(Value.int .i64 0 = .int .i64 0∧L' = [vitsI b (stop1 v s1)])∧X.Own w S L' w58) wx:=by
    intro s1 wx H
    unfold zzft
    obtain ⟨bd,bc,H⟩:=zzai H (by repeat (first | exact Pick.here | apply Pick.there))
    dsimp only [nn]
    repeat (first | refine lIa H ?_ | refine lLa H ?_ | refine lBa H ?_ | refine lPa H ?_ | refine lSa H ?_)
    cases hst:s1.st
    · refine cnd_i (fun h=>by cases h) fun _=>?_
      refine sta H fun wx H=>?_
      exact ⟨_,⟨rfl,rfl⟩,zzab (bd:=bd) (bc:=bc) (F:=[]) (by unfold stop1; rw [hst]; exact H.dp)⟩
    · refine cnd_i (fun _=>?_) (fun h=>by cases h)
      refine sta H fun wx H=>?_
      exact ⟨_,⟨rfl,rfl⟩,zzab (bd:=bd) (bc:=bc) (F:=[]) (by unfold stop1; rw [hst]; exact H.dp)⟩
   obtain ⟨bd,bc,H⟩:=zzai H (by repeat (first | exact Pick.here | apply Pick.there))
   dsimp only [nn]
   repeat (first | refine lIa H ?_ | refine lLa H ?_ | refine lBa H ?_ | refine lPa H ?_ | refine lSa H ?_)
   refine cnd_i (fun hf=>?_) fun hf=>?_
   rotate_left
   · rw [if_neg (by rw [hf]; simp)]
     exact fin s _ ((zzab H).dp)
   · rw [if_pos hf,add_lit]
     refine call_o H (SetWriteV_t b bd bc s (wi (bitX .and .u64 v 1048544))) (by repeat (first | exact Cut.nil | (apply Cut.cons; (repeat (first | exact Pick.here | apply Pick.there))))) fun vx L' wx hq H=>?_
     obtain ⟨rfl,rfl⟩:=hq
     simp only [List.cons_append,List.nil_append] at H
     exact ⟨_,rfl,fin { s with q:=(setQ s.q (wi (bitX .and .u64 v 1048544))).1 } _ (zzab (bd:=bd) (bc:=bc) (F:=[]) (H.dp))⟩
 · rw [if_neg (by simpa using h1)]
   exact ⟨_,⟨rfl,rfl⟩,H.dp⟩
def vstepM (s:Vi) (bs:List Int) (r:Ru) (owned:List Int) (p:Nat):Cm×List Ch×Vi×Int :=
 if s.on = false then (cm0,[],s,191)
 else if s.st = true then (cm0,[],s,190)
 else if s.fit = false then (cm0,[],{ s with st:=true },241)
 else if (headQ s.q bs).2 = 170 then (cm0,[],s,170)
 else if (headQ s.q bs).2≠0 then (cm0,[],{ s with st:=true },(headQ s.q bs).2)
 else if (vdoM s (headQ s.q bs).1 r owned p).2.2≠0 then (cm0,[],{ (vdoM s (headQ s.q bs).1 r owned p).2.1 with st:=true },(vdoM s (headQ s.q bs).1 r owned p).2.2)
 else ((headQ s.q bs).1,(vdoM s (headQ s.q bs).1 r owned p).1,{ (vdoM s (headQ s.q bs).1 r owned p).2.1 with q:=(passQ (vdoM s (headQ s.q bs).1 r owned p).2.1.q).1 },0)
theorem VStep_t (b m:Nat) (s:Vi) (bs:List Int) (r:Ru) (i:It) {po:Option Addr} {co:Nat} {owned:List Int} {N:Nat} (hi:∀ w S,i.h w S→Sl w po (i64s owned)) (hl:owned.length < 9223372036854775807) (hF:Fits s N) (hN:N < 1099511627776) :
 Tri P F.zzbp [ptr b,ptr m,ruV r po owned.length co] [vitsI b s,memI m bs,i] fun v L'=>∃ p q cc,v = .tuple [cmV (vstepM s bs r owned p).1,.slice q (vstepM s bs r owned p).2.1.length cc,.int .i64 (vstepM s bs r owned p).2.2.2].toArray∧L' = [chs q cc (vstepM s bs r owned p).2.1,vitsI b (vstepM s bs r owned p).2.2.1,memI m bs,i]:=by
 intro w S hS
 refine zzli ?_
 unfold zzbp
 have H:=Own.start hS
 refine alc_o H fun b10 wx H=>alc_o H fun b12 wx H=>?_
 have err:∀ (e:Int) (s1:Vi) (wx:World) (p:Nat),vstepM s bs r owned p = (cm0,[],s1,e)→X.Own w S [vitsI b s1,memI m bs,i] wx →
  ∃ L',(∃ p q cc,(.tuple [.agg [.int .i64 0,.int .i64 0,.int .i64 0,.int .i64 0,.int .i64 0,.int .i64 0,.int .i64 0,.int .i64 0,.bool false].toArray,.slice none 0 0,.int .i64 e].toArray:Value) = .tuple [cmV (vstepM s bs r owned p).1,.slice q (vstepM s bs r owned p).2.1.length cc,.int .i64 (vstepM s bs r owned p).2.2.2].toArray∧L' = [chs q cc (vstepM s bs r owned p).2.1,vitsI b (vstepM s bs r owned p).2.2.1,memI m bs,i])∧X.Own w S L' wx:=by
  intro e s1 wx p h H
  refine ⟨_,⟨p,none,0,?_,rfl⟩,?_⟩
  · rw [h]; rfl
  · rw [h]; exact chs_nil H
 obtain ⟨bd,bc,H⟩:=zzai H (by repeat (first | exact Pick.here | apply Pick.there))
 dsimp only [nn]
 repeat (first | refine lIa H ?_ | refine lLa H ?_ | refine lBa H ?_ | refine lPa H ?_ | refine lSa H ?_)
 refine cnd_i (fun h=>?_) fun h=>?_
 · have h:s.on = false:=by simpa using h
   iterate 9 refine sta H fun wx H=>?_
   repeat (first | refine lIa H ?_ | refine lLa H ?_ | refine lBa H ?_ | refine lPa H ?_ | refine lSa H ?_)
   exact err 191 s _ 0 (by unfold vstepM; rw [if_pos h]) ((zzab (H.perm (L1:=[row b (s.cells bd bc) tVits,bookG ED tBookD bd (mapv DvI.e s.devs),bookG EI tBookI bc s.colls,starI (s.devs.map evI)]) (by repeat (first | exact Cut.nil | (apply Cut.cons; (repeat (first | exact Pick.here | apply Pick.there))))))).dp)
 have hon:¬ s.on = false:=by simpa using h
 repeat (first | refine lIa H ?_ | refine lLa H ?_ | refine lBa H ?_ | refine lPa H ?_ | refine lSa H ?_)
 refine cnd_i (fun h=>?_) fun h=>?_
 · have h:s.st = true:=h
   iterate 9 refine sta H fun wx H=>?_
   repeat (first | refine lIa H ?_ | refine lLa H ?_ | refine lBa H ?_ | refine lPa H ?_ | refine lSa H ?_)
   exact err 190 s _ 0 (by unfold vstepM; rw [if_neg hon,if_pos h]) ((zzab (H.perm (L1:=[row b (s.cells bd bc) tVits,bookG ED tBookD bd (mapv DvI.e s.devs),bookG EI tBookI bc s.colls,starI (s.devs.map evI)]) (by repeat (first | exact Cut.nil | (apply Cut.cons; (repeat (first | exact Pick.here | apply Pick.there))))))).dp)
 have hst:¬ s.st = true:=by rw [h]; simp
 repeat (first | refine lIa H ?_ | refine lLa H ?_ | refine lBa H ?_ | refine lPa H ?_ | refine lSa H ?_)
 refine cnd_i (fun h=>?_) fun h=>?_
 · have h:s.fit = false:=by simpa using h
   iterate 10 refine sta H fun wx H=>?_
   repeat (first | refine lIa H ?_ | refine lLa H ?_ | refine lBa H ?_ | refine lPa H ?_ | refine lSa H ?_)
   exact err 241 { s with st:=true } _ 0 (by unfold vstepM; rw [if_neg hon,if_neg hst,if_pos h]) ((zzab (s:={ s with st:=true }) (bd:=bd) (bc:=bc) (F:=[memI m bs,i]) (H.dp)))
 have hft:¬ s.fit = false:=by simpa using h
 repeat (first | refine lIa H ?_ | refine lLa H ?_ | refine lBa H ?_ | refine lPa H ?_ | refine lSa H ?_)
 refine call_p H (Head_t m s.q bs) (by repeat (first | exact Cut.nil | (apply Cut.cons; (repeat (first | exact Pick.here | apply Pick.there))))) fun wx H=>?_
 refine ⟨_,_,_,_,_,_,_,_,_,_,rfl,alc_o H fun b93 wx H=>?_⟩
 iterate 9 refine sta H fun wx H=>?_
 refine cnd_i (fun h=>?_) fun h=>?_
 · have h:(headQ s.q bs).2 = 170:=by simpa using h
   iterate 9 refine sta H fun wx H=>?_
   repeat (first | refine lIa H ?_ | refine lLa H ?_ | refine lBa H ?_ | refine lPa H ?_ | refine lSa H ?_)
   refine err _ s _ 0 ?_ ((zzab (H.perm (L1:=[row b (s.cells bd bc) tVits,bookG ED tBookD bd (mapv DvI.e s.devs),bookG EI tBookI bc s.colls,starI (s.devs.map evI)]) (by repeat (first | exact Cut.nil | (apply Cut.cons; (repeat (first | exact Pick.here | apply Pick.there))))))).dp)
   unfold vstepM; rw [if_neg hon,if_neg hst,if_neg hft,if_pos h,h]
 have hh1:¬ (headQ s.q bs).2 = 170:=by simpa using h
 have pre:∀ p M,(if (headQ s.q bs).2≠0 then (cm0,[],{ s with st:=true },(headQ s.q bs).2)
  else if (vdoM s (headQ s.q bs).1 r owned p).2.2≠0 then (cm0,[],{ (vdoM s (headQ s.q bs).1 r owned p).2.1 with st:=true },(vdoM s (headQ s.q bs).1 r owned p).2.2)
  else ((headQ s.q bs).1,(vdoM s (headQ s.q bs).1 r owned p).1,{ (vdoM s (headQ s.q bs).1 r owned p).2.1 with q:=(passQ (vdoM s (headQ s.q bs).1 r owned p).2.1.q).1 },0)) = M→vstepM s bs r owned p = M:=by
  intro p M hM
  unfold vstepM; rw [if_neg hon,if_neg hst,if_neg hft,if_neg hh1]; exact hM
 generalize hhd:headQ s.q bs = hd at *
 have H:=zzab (H.perm (L1:=[row b (s.cells bd bc) tVits,bookG ED tBookD bd (mapv DvI.e s.devs),bookG EI tBookI bc s.colls,starI (s.devs.map evI)]) (by repeat (first | exact Cut.nil | (apply Cut.cons; (repeat (first | exact Pick.here | apply Pick.there))))))
 refine join_o ?_
 have fin:∀ (p:Nat) (e:Int) (q:Option Addr) (cc:Nat) (xs:List Ch) (s1:Vi) (wx:World),vstepM s bs r owned p = (if e≠0 then (cm0,[],{ s1 with st:=true },e) else (hd.1,xs,{ s1 with q:=(passQ s1.q).1 },0))→X.Own w S [chs q cc xs,vitsI b s1,row b93 hd.1.cells tCmd,row b12 [.int .i64 0,.int .i64 0,.int .i64 0,.int .i64 0,.int .i64 0,.int .i64 0,.int .i64 0,.int .i64 0,.bool false] tCmd,memI m bs,i] wx →
  zzf8 (some ⟨b,0,none⟩) (fun v w'=>∃ L',(∃ p q cc,v = .tuple [cmV (vstepM s bs r owned p).1,.slice q (vstepM s bs r owned p).2.1.length cc,.int .i64 (vstepM s bs r owned p).2.2.2].toArray∧L' = [chs q cc (vstepM s bs r owned p).2.1,vitsI b (vstepM s bs r owned p).2.2.1,memI m bs,i])∧X.Own w S L' w') b12 b93 e q xs.length cc wx:=by
  intro p e q cc xs s1 wx hM H
  unfold zzf8
  obtain ⟨bd,bc,H⟩:=zzai H (by repeat (first | exact Pick.here | apply Pick.there))
  dsimp only [nn]
  refine cnd_i (fun h=>?_) fun h=>?_
  · have h:e≠0:=by simpa using h
    rw [if_pos h] at hM
    iterate 10 refine sta H fun wx H=>?_
    repeat (first | refine lIa H ?_ | refine lLa H ?_ | refine lBa H ?_ | refine lPa H ?_ | refine lSa H ?_)
    exact err e { s1 with st:=true } _ p hM (zzab (s:={ s1 with st:=true }) (bd:=bd) (bc:=bc) (F:=[memI m bs,i]) (H.dp))
  · have h:¬ e≠0:=by simpa using h
    rw [if_neg h] at hM
    simp only [add_lit]
    refine call_o H (PassV_t b bd bc s1) (by repeat (first | exact Cut.nil | (apply Cut.cons; (repeat (first | exact Pick.here | apply Pick.there))))) fun vx L' wx hq H=>?_
    obtain ⟨rfl,rfl⟩:=hq
    simp only [List.cons_append,List.nil_append] at H
    refine ⟨_,rfl,?_⟩
    repeat (first | refine lIa H ?_ | refine lLa H ?_ | refine lBa H ?_ | refine lPa H ?_ | refine lSa H ?_)
    iterate 9 refine sta H fun wx H=>?_
    repeat (first | refine lIa H ?_ | refine lLa H ?_ | refine lBa H ?_ | refine lPa H ?_ | refine lSa H ?_)
    refine ⟨_,⟨p,q,cc,?_,rfl⟩,?_⟩
    · rw [hM]; rfl
    · rw [hM]
      have H:=zzab (s:={ s1 with q:=(passQ s1.q).1 }) (bd:=bd) (bc:=bc) (F:=[chs q cc xs,memI m bs,i]) (H.dp)
      exact H.dp
 refine cnd_i (fun h=>?_) fun h=>?_
 · have h:hd.2 = 0:=by simpa using h
   repeat (first | refine lIa H ?_ | refine lLa H ?_ | refine lBa H ?_ | refine lPa H ?_ | refine lSa H ?_)
   refine call_o H (VDo_t b s hd.1 r i hi hl hF hN) (by repeat (first | exact Cut.nil | (apply Cut.cons; (repeat (first | exact Pick.here | apply Pick.there))))) fun vx L' wx hq H=>?_
   obtain ⟨p,q,cc,rfl,rfl⟩:=hq
   simp only [List.cons_append,List.nil_append] at H
   refine ⟨_,_,_,_,rfl,?_⟩
   exact fin p _ q cc _ _ wx (pre p _ (by rw [if_neg (by rw [h]; simp)])) (H.dp)
 · have h:hd.2≠0:=by simpa using h
   have H:=chs_nil H
   exact fin 0 hd.2 none 0 [] s _ (pre 0 _ (by rw [if_pos h,if_pos h])) (H.dp)
open Go X
abbrev tRr:TypeId:=T.t199
abbrev tRrs:TypeId:=T.t131
theorem appRrs:appB P tRrs tRr 4 32 = true:=by kernel_rfl
theorem zeroRr:zeroC P tRr = some [.int .i64 0,.int .i64 0,.int .i64 0,.int .i64 0]:=by kernel_rfl
abbrev tRc:TypeId:=T.t73
abbrev tRcs:TypeId:=T.t74
theorem appRcs:appB P tRcs tRc 6 48 = true:=by kernel_rfl
theorem zeroRc:zeroC P tRc = some [.int .i64 0,.int .i64 0,.int .i64 0,.int .i64 0,.int .i64 0,.int .i64 0]:=by kernel_rfl
abbrev tRv:TypeId:=T.t134
abbrev tRru:TypeId:=T.t38
open Go Go.RowKit X
structure Rr where
 dev:Int
 ev:Int
 num:Int
 coll:Int
abbrev Rr.cells (x:Rr):List Value:=[.int .i64 x.dev,.int .i64 x.ev,.int .i64 x.num,.int .i64 x.coll]
def rr0:Rr:=⟨0,0,0,0⟩
noncomputable abbrev EQ:El P where
 α:=Rr
 enc:=Rr.cells
 z:=4
 ta:=tRrs
 te:=tRr
 bytes:=32
 zs:=[.int .i64 0,.int .i64 0,.int .i64 0,.int .i64 0]
 hT:=appRrs
 hZ:=zeroRr
 hz1:=by simp [Value.oneCell']
 hlen:=fun _=>rfl
 h1:=by intro x u hu; simp only [Rr.cells,List.mem_cons,List.not_mem_nil,or_false] at hu; rcases hu with rfl | rfl | rfl | rfl <;> rfl
 hz:=by omega
 hb:=by omega
noncomputable abbrev ED2:El P where
 α:=Ch
 enc:=Ch.cells
 z:=6
 ta:=tRcs
 te:=tRc
 bytes:=48
 zs:=[.int .i64 0,.int .i64 0,.int .i64 0,.int .i64 0,.int .i64 0,.int .i64 0]
 hT:=appRcs
 hZ:=zeroRc
 hz1:=by simp [Value.oneCell']
 hlen:=fun _=>rfl
 h1:=by intro x u hu; simp only [Ch.cells,List.mem_cons,List.not_mem_nil,or_false] at hu; rcases hu with rfl | rfl | rfl | rfl | rfl | rfl <;> rfl
 hz:=by omega
 hb:=by omega
noncomputable abbrev rcs (p:Option Addr) (c:Nat) (xs:List Ch):It:=els ED2 p c xs
structure Rv where
 on:Bool
 st:Bool
 fit:Bool
 base:Int
 q:Qu
 devs:List Int
 bits:List Int
 routes:List Rr
 colls:List Int
structure Sls where
 (p1:Option Addr) (c1:Nat) (p2:Option Addr) (c2:Nat) (p3:Option Addr) (c3:Nat)
abbrev Rv.cells (d:Rv) (a:Sls):List Value:=.bool d.on :: .bool d.st :: .bool d.fit :: .int .u64 d.base :: .int .i64 d.q.a :: .int .i64 d.q.s :: .int .i64 d.q.r :: .int .i64 d.q.w ::
 .slice a.p1 d.devs.length a.c1 :: .slice a.p2 d.bits.length a.c2 :: .slice a.p3 d.routes.length a.c3 :: i64s d.colls
noncomputable abbrev rL (b:Nat) (d:Rv) (a:Sls):List It:=[row b (d.cells a) tRv,nums a.p1 a.c1 d.devs,nums a.p2 a.c2 d.bits,els EQ a.p3 a.c3 d.routes]
noncomputable def refI (b:Nat) (d:Rv):It:=exI (fun _:Sls=>d.colls.length = 8) (rL b d)
section
variable {w w0:World} {S0:Nat→Prop}
theorem ref_open {L F:List It} {b:Nat} {d:Rv} (H:X.Own w0 S0 L w) (hp:Pick L (refI b d) F):∃ a:Sls,d.colls.length = 8∧X.Own w0 S0 (row b (d.cells a) tRv :: nums a.p1 a.c1 d.devs :: nums a.p2 a.c2 d.bits :: els EQ a.p3 a.c3 d.routes :: F) w:=by
 obtain ⟨a,h,H⟩:=ex_open H hp
 exact ⟨a,h,H⟩
theorem ref_shut {F:List It} {b:Nat} {d:Rv} {a:Sls} (h:d.colls.length = 8) (H:X.Own w0 S0 (row b (d.cells a) tRv :: nums a.p1 a.c1 d.devs :: nums a.p2 a.c2 d.bits :: els EQ a.p3 a.c3 d.routes :: F) w):X.Own w0 S0 (refI b d :: F) w :=
 ex_shut (f:=rL b d) a h H
end
def posL {α:Type} (p:α→Bool) (l:List α):Int:=if l.findIdx p < l.length then (l.findIdx p:Int) else -1
theorem posL_hit {α:Type} {p:α→Bool} {l:List α} {k:Nat} (hk:k < l.length) (h:p l[k] = true) (hno:∀ x∈l.take k,p x = false):posL p l = k:=by
 have:l.findIdx p = k:=by
  rw [List.findIdx_eq hk]
  refine ⟨h,fun j hj=>?_⟩
  have hjl:j < l.length:=by omega
  have:=hno l[j] (List.mem_iff_getElem?.2 ⟨j,by rw [List.getElem?_take,if_pos hj,List.getElem?_eq_getElem hjl]⟩)
  exact this
 unfold posL
 rw [this,if_pos hk]
theorem posL_none {α:Type} {p:α→Bool} {l:List α} (h:∀ x∈l,p x = false):posL p l = -1:=by
 unfold posL
 rw [if_neg]
 have:=List.findIdx_eq_length (p:=p) (xs:=l)
 rw [this.2 h]; omega
theorem posL_cases {α:Type} (p:α→Bool) (l:List α):(posL p l = -1∧∀ x∈l,p x = false)∨∃ k:Nat,posL p l = k∧∃ h:k < l.length,p l[k] = true∧∀ x∈l.take k,p x = false:=by
 by_cases h:l.findIdx p < l.length
 · right
   refine ⟨l.findIdx p,by unfold posL; rw [if_pos h],h,List.findIdx_getElem (w:=h),?_⟩
   intro x hx
   obtain ⟨j,hj⟩:=List.mem_iff_getElem?.1 hx
   rw [List.getElem?_take] at hj
   split at hj
   · rename_i hlt
     have hjl:j < l.length:=by omega
     rw [List.getElem?_eq_getElem hjl] at hj
     cases hj
     exact List.not_of_lt_findIdx hlt
   · cases hj
 · left
   refine ⟨by unfold posL; rw [if_neg h],?_⟩
   have:l.findIdx p = l.length:=by have:=List.findIdx_le_length (p:=p) (xs:=l); omega
   exact List.findIdx_eq_length.1 this
def atR (d:Rv) (dev:Int):Int:=posL (fun x=>x == dev) d.devs
def findR (d:Rv) (dev ev:Int):Int:=posL (fun x:Rr=>x.dev == dev && x.ev == ev) d.routes
def Rv.Small (d:Rv):Prop:=d.devs.length < 2199023255552∧d.bits.length < 2199023255552∧d.routes.length < 2199023255552
theorem at_t (b:Nat) (d:Rv) (dev:Int) (hs:d.Small):Tri P F.zzaU [ptr b,.int .i64 dev] [refI b d] fun v L'=>v = .int .i64 (atR d dev)∧L' = [refI b d]:=by
 intro w S hS
 refine zzjD ?_
 unfold zzaU
 have H:=Own.start hS
 obtain ⟨a,hc8,H⟩:=ref_open H .here
 obtain ⟨hs1,-,-⟩:=hs
 refine loop_o (fun (st:Int) L=>∃ k:Nat,k≤d.devs.length∧st = k∧(∀ x∈d.devs.take k,(x == dev) = false)∧L = rL b d a) (fun (st:Int)=>((d.devs.length:Int) - st).toNat) H ⟨0,by omega,rfl,by simp,rfl⟩ ?_
 rintro _ _ wx ⟨k,hk,rfl,hno,rfl⟩ H
 unfold zzgW
 dsimp only [nn]
 repeat (first | refine lIa H ?_ | refine lLa H ?_ | refine lBa H ?_ | refine lPa H ?_ | refine lSa H ?_)
 refine cnd_i (fun h=>?_) fun h=>?_
 · have h:=of_decide_eq_true h
   have hkl:k < d.devs.length:=by omega
   repeat (first | refine lIa H ?_ | refine lLa H ?_ | refine lBa H ?_ | refine lPa H ?_ | refine lSa H ?_)
   refine ⟨⟨by omega,by omega⟩,?_⟩
   rw [Int.toNat_natCast]
   obtain ⟨dd,hp,hcell⟩:=els_at (E:=EI) (q:=a.p1) (c:=a.c1) H (by repeat (first | exact Pick.here | apply Pick.there)) (List.getElem?_eq_getElem hkl)
   rw [hp]
   dsimp only [nn]
   refine ⟨_,by rw [add_lit,Nat.zero_add]; exact hcell 0 _ rfl,cnd_i (fun he=>?_) fun he=>?_⟩
   · refine ⟨_,⟨?_,rfl⟩,ref_shut hc8 H⟩
     unfold atR
     rw [posL_hit hkl he hno]
   · rw [W_id (by omega) (by omega)]
     refine ⟨⟨_,⟨k + 1,by omega,by push_cast; rfl,?_,rfl⟩,H⟩,by omega⟩
     intro x hx
     rw [List.take_succ_eq_append_getElem hkl] at hx
     rcases List.mem_append.1 hx with hx | hx
     · exact hno x hx
     · rw [List.mem_singleton.1 hx]; exact he
 · have h:=of_decide_eq_false h
   rw [List.take_of_length_le (by omega)] at hno
   refine ⟨_,⟨?_,rfl⟩,ref_shut hc8 H⟩
   unfold atR
   rw [posL_none hno]
theorem rfind_t (b:Nat) (d:Rv) (dev ev:Int) (hs:d.Small):Tri P F.zzam [ptr b,.int .i64 dev,.int .i64 ev] [refI b d] fun v L'=>v = .int .i64 (findR d dev ev)∧L' = [refI b d]:=by
 intro w S hS
 refine zzjl ?_
 unfold zzam
 have H:=Own.start hS
 obtain ⟨a,hc8,H⟩:=ref_open H .here
 obtain ⟨-,-,hs1⟩:=hs
 refine loop_o (fun (st:Int) L=>∃ k:Nat,k≤d.routes.length∧st = k∧(∀ x∈d.routes.take k,(x.dev == dev && x.ev == ev) = false)∧L = rL b d a) (fun (st:Int)=>((d.routes.length:Int) - st).toNat) H ⟨0,by omega,rfl,by simp,rfl⟩ ?_
 rintro _ _ wx ⟨k,hk,rfl,hno,rfl⟩ H
 unfold zzf6
 dsimp only [nn]
 repeat (first | refine lIa H ?_ | refine lLa H ?_ | refine lBa H ?_ | refine lPa H ?_ | refine lSa H ?_)
 refine cnd_i (fun h=>join_o ?_) fun h=>?_
 · have h:=of_decide_eq_true h
   have hkl:k < d.routes.length:=by omega
   have fin:∀ x:Bool,x = (d.routes[k].dev == dev && d.routes[k].ev == ev)→zzd9 (fun v w'=>∃ L',(v = .int .i64 (findR d dev ev)∧L' = [refI b d])∧X.Own w S L' w') (k:Int)
    (fun (s':Int) w'=>(∃ L',(∃ k:Nat,k≤d.routes.length∧s' = (k:Int)∧(∀ x∈d.routes.take k,(x.dev == dev && x.ev == ev) = false)∧L' = rL b d a)∧X.Own w S L' w')∧((d.routes.length:Int) - s').toNat < ((d.routes.length:Int) - (k:Int)).toNat) x wx:=by
    rintro x hx
    unfold zzd9
    refine cnd_i (fun he=>?_) fun he=>?_
    · refine ⟨_,⟨?_,rfl⟩,ref_shut hc8 H⟩
      unfold findR
      rw [posL_hit (p:=fun x:Rr=>x.dev == dev && x.ev == ev) hkl (by rw [← hx]; exact he) hno]
    · rw [W_id (by omega) (by omega)]
      refine ⟨⟨_,⟨k + 1,by omega,by push_cast; rfl,?_,rfl⟩,H⟩,by omega⟩
      intro x' hx'
      rw [List.take_succ_eq_append_getElem hkl] at hx'
      rcases List.mem_append.1 hx' with hx' | hx'
      · exact hno x' hx'
      · rw [List.mem_singleton.1 hx',← hx]; exact he
   repeat (first | refine lIa H ?_ | refine lLa H ?_ | refine lBa H ?_ | refine lPa H ?_ | refine lSa H ?_)
   refine ⟨⟨by omega,by omega⟩,?_⟩
   rw [Int.toNat_natCast]
   obtain ⟨dd,hp,hcell⟩:=els_at (E:=EQ) (q:=a.p3) (c:=a.c3) H (by repeat (first | exact Pick.here | apply Pick.there)) (List.getElem?_eq_getElem hkl)
   rw [hp]
   dsimp only [nn]
   refine ⟨_,by rw [add_lit,Nat.zero_add]; exact hcell 0 _ rfl,cnd_i (fun he=>?_) fun he=>?_⟩
   · refine ldL_o H (by repeat (first | exact Pick.here | apply Pick.there)) (by rfl) ⟨⟨by omega,by omega⟩,?_⟩
     rw [Int.toNat_natCast,hp]
     dsimp only [nn]
     refine ⟨_,by rw [add_lit,add_lit,Nat.zero_add]; exact hcell 1 _ rfl,fin _ (by rw [he,Bool.true_and])⟩
   · exact fin _ (by rw [he,Bool.false_and])
 · have h:=of_decide_eq_false h
   rw [List.take_of_length_le (by omega)] at hno
   refine ⟨_,⟨?_,rfl⟩,ref_shut hc8 H⟩
   unfold findR
   rw [posL_none (p:=fun x:Rr=>x.dev == dev && x.ev == ev) hno]
def goesR (d:Rv) (c:Int):Int×Int:=if 0≤c∧c < 8∧0≤d.colls.getD c.toNat 0 then (d.colls.getD c.toNat 0,0) else (0,183)
theorem colls_at {d:Rv} {a:Sls} {j:Nat} (h8:d.colls.length = 8) (hj:j < 8):(d.cells a)[11 + j]? = some (.int .i64 (d.colls.getD j 0)):=by
 show (_ :: _ :: _ :: _ :: _ :: _ :: _ :: _ :: _ :: _ :: _ :: i64s d.colls)[11 + j]? = _
 rw [show 11 + j = j + 11 by omega]
 simp only [List.getElem?_cons_succ]
 rw [i64s_get (by omega),List.getD_eq_getElem?_getD,List.getElem?_eq_getElem (by omega)]; rfl
theorem rgoes_t (b:Nat) (d:Rv) (c:Int):Tri P F.zzay [ptr b,.int .i64 c] [refI b d] fun v L'=>v = .tuple [.int .i64 (goesR d c).1,.int .i64 (goesR d c).2].toArray∧L' = [refI b d]:=by
 intro w S hS
 refine zzjh ?_
 unfold zzay
 have H:=Own.start hS
 obtain ⟨a,hc8,H⟩:=ref_open H .here
 refine join_o ?_
 unfold zzfZ
 dsimp only [nn]
 refine cnd_i (fun h=>cnd_i (fun _=>?_) (fun h=>by cases h)) fun h=>cnd_i (fun h2=>cnd_i (fun _=>?_) (fun h=>by cases h)) fun h2=>?_
 · have h:=of_decide_eq_true h
   exact ⟨_,⟨by unfold goesR; rw [if_neg (by omega)],rfl⟩,ref_shut hc8 H⟩
 · have h2:=of_decide_eq_true h2
   exact ⟨_,⟨by unfold goesR; rw [if_neg (by omega)],rfl⟩,ref_shut hc8 H⟩
 have h:=of_decide_eq_false h
 have h2:=of_decide_eq_false h2
 obtain ⟨j,rfl⟩:=Int.eq_ofNat_of_zero_le (show 0≤c by omega)
 have hj:j < 8:=by omega
 have hcell:=colls_at (a:=a) hc8 hj
 refine ix_i hj ?_
 rw [add_lit,add_lit,Nat.mul_one,Nat.zero_add]
 refine ldI_o H .here hcell (cnd_i (fun h3=>?_) fun h3=>ix_i hj ?_)
 · have h3:=of_decide_eq_true h3
   exact ⟨_,⟨by unfold goesR; rw [Int.toNat_natCast,if_neg (by omega)],rfl⟩,ref_shut hc8 H⟩
 · have h3:=of_decide_eq_false h3
   rw [Nat.mul_one,add_lit]
   refine ldI_o H .here hcell ?_
   exact ⟨_,⟨by unfold goesR; rw [Int.toNat_natCast,if_pos (by omega)],rfl⟩,ref_shut hc8 H⟩
def eventR (d:Rv) (dev ev:Int):Rr×Int:=if atR d dev < 0 then (rr0,181) else if findR d dev ev < 0 then (rr0,182) else (d.routes.getD (findR d dev ev).toNat rr0,0)
theorem revent_t (b:Nat) (d:Rv) (dev ev:Int) (hs:d.Small):Tri P F.zzaR [ptr b,.int .i64 dev,.int .i64 ev] [refI b d] fun v L'=>v = .tuple [.agg (eventR d dev ev).1.cells.toArray,.int .i64 (eventR d dev ev).2].toArray∧L' = [refI b d]:=by
 intro w S hS
 refine zzi7 ?_
 unfold zzaR
 have H:=Own.start hS
 refine alc_o H fun b4 wx H=>?_
 refine call_pa H (at_t b d dev hs) fun wx H=>?_
 refine ⟨_,rfl,cnd_i (fun h=>?_) fun h=>?_⟩
 · iterate 4 refine sta H fun wx H=>?_
   repeat (first | refine lIa H ?_ | refine lLa H ?_ | refine lBa H ?_ | refine lPa H ?_ | refine lSa H ?_)
   exact ⟨_,⟨by unfold eventR; rw [if_pos (of_decide_eq_true h)]; rfl,rfl⟩,H.dp⟩
 have h:=of_decide_eq_false h
 refine call_pa H (rfind_t b d dev ev hs) fun wx H=>?_
 refine ⟨_,rfl,cnd_i (fun h2=>?_) fun h2=>?_⟩
 · iterate 4 refine sta H fun wx H=>?_
   repeat (first | refine lIa H ?_ | refine lLa H ?_ | refine lBa H ?_ | refine lPa H ?_ | refine lSa H ?_)
   exact ⟨_,⟨by unfold eventR; rw [if_neg h,if_pos (of_decide_eq_true h2)]; rfl,rfl⟩,H.dp⟩
 have h2:=of_decide_eq_false h2
 rcases posL_cases (fun x:Rr=>x.dev == dev && x.ev == ev) d.routes with ⟨h3,_⟩ | ⟨k,h3,hkl,h4,h5⟩
 · exact absurd h3 (by unfold findR at h2; omega)
 have h3:findR d dev ev = k:=h3
 have he:eventR d dev ev = (d.routes[k],0):=by
  unfold eventR
  rw [if_neg h,if_neg h2,h3,Int.toNat_natCast,List.getD_eq_getElem?_getD,List.getElem?_eq_getElem hkl]; rfl
 rw [he,h3]
 obtain ⟨a,hc8,H⟩:=ref_open H (by repeat (first | exact Pick.here | apply Pick.there))
 dsimp only [nn]
 repeat (first | refine lIa H ?_ | refine lLa H ?_ | refine lBa H ?_ | refine lPa H ?_ | refine lSa H ?_)
 refine ⟨⟨by omega,by omega⟩,?_⟩
 rw [Int.toNat_natCast]
 obtain ⟨dd,hp,hcell⟩:=els_at (E:=EQ) (q:=a.p3) (c:=a.c3) H (by repeat (first | exact Pick.here | apply Pick.there)) (List.getElem?_eq_getElem hkl)
 have H:=ref_shut hc8 H
 rw [hp]
 dsimp only [nn]
 have hce:∀ i v,(d.routes[k]).cells[i]? = some v→wx.cell? (((⟨dd,0,none⟩:Addr).add (k * 4)).add i) = some v:=by
  intro i v hv
  rw [add_lit,add_lit,Nat.zero_add]; exact hcell i v hv
 refine ⟨_,by rw [add_lit,Nat.zero_add]; exact hcell 0 _ rfl,_,hce 1 _ rfl,_,hce 2 _ rfl,_,hce 3 _ rfl,?_⟩
 iterate 4 refine sta H fun wx H=>?_
 repeat (first | refine lIa H ?_ | refine lLa H ?_ | refine lBa H ?_ | refine lPa H ?_ | refine lSa H ?_)
 exact ⟨_,⟨rfl,rfl⟩,H.dp⟩
def routeR (d:Rv) (dev ev:Int):RtE×Int×Int :=
 if (eventR d dev ev).2≠0 then (rt0,0,(eventR d dev ev).2)
 else if (goesR d (eventR d dev ev).1.coll).2≠0 then (rt0,0,(goesR d (eventR d dev ev).1.coll).2)
 else (⟨(eventR d dev ev).1.num,(eventR d dev ev).1.coll,true⟩,(goesR d (eventR d dev ev).1.coll).1,0)
theorem rRoute_t (b:Nat) (d:Rv) (dev ev:Int) (hs:d.Small):Tri P F.zzaM [ptr b,.int .i64 dev,.int .i64 ev] [refI b d] fun v L'=>v = .tuple [rtV (routeR d dev ev).1,.int .i64 (routeR d dev ev).2.1,.int .i64 (routeR d dev ev).2.2].toArray∧L' = [refI b d]:=by
 intro w S hS
 refine zziP ?_
 unfold zzaM
 have H:=Own.start hS
 refine alc_o H fun b4 wx H=>?_
 refine call_pa H (revent_t b d dev ev hs) fun wx H=>?_
 refine ⟨_,_,_,_,_,rfl,alc_o H fun b13 wx H=>?_⟩
 iterate 4 refine sta H fun wx H=>?_
 unfold routeR
 refine cnd_i (fun h=>?_) fun h=>?_
 · rw [if_pos (by simpa using h)]
   iterate 3 refine sta H fun wx H=>?_
   repeat (first | refine lIa H ?_ | refine lLa H ?_ | refine lBa H ?_ | refine lPa H ?_ | refine lSa H ?_)
   exact ⟨_,⟨rfl,rfl⟩,H.dp⟩
 rw [if_neg (by simpa using h)]
 repeat (first | refine lIa H ?_ | refine lLa H ?_ | refine lBa H ?_ | refine lPa H ?_ | refine lSa H ?_)
 refine call_pa H (rgoes_t b d (eventR d dev ev).1.coll) fun wx H=>?_
 refine ⟨_,_,rfl,cnd_i (fun h=>?_) fun h=>?_⟩
 · rw [if_pos (by simpa using h)]
   iterate 3 refine sta H fun wx H=>?_
   repeat (first | refine lIa H ?_ | refine lLa H ?_ | refine lBa H ?_ | refine lPa H ?_ | refine lSa H ?_)
   exact ⟨_,⟨rfl,rfl⟩,H.dp⟩
 rw [if_neg (by simpa using h)]
 repeat (first | refine lIa H ?_ | refine lLa H ?_ | refine lBa H ?_ | refine lPa H ?_ | refine lSa H ?_)
 iterate 3 refine sta H fun wx H=>?_
 repeat (first | refine lIa H ?_ | refine lLa H ?_ | refine lBa H ?_ | refine lPa H ?_ | refine lSa H ?_)
 exact ⟨_,⟨rfl,rfl⟩,H.dp⟩
def bindR (d:Rv) (dev ev:Int):Ch :=
 if (routeR d dev ev).2.2≠0 then ⟨2,dev,ev,0,0,0⟩ else ⟨1,dev,ev,(routeR d dev ev).1.num,0,(routeR d dev ev).2.1⟩
theorem rbind_t (b:Nat) (d:Rv) (dev ev:Int) (hs:d.Small):Tri P F.zzap [ptr b,.int .i64 dev,.int .i64 ev] [refI b d] fun v L'=>v = chV (bindR d dev ev)∧L' = [refI b d]:=by
 intro w S hS
 refine zzh9 ?_
 unfold zzap
 have H:=Own.start hS
 refine alc_o H fun b4 wx H=>?_
 refine call_pa H (rRoute_t b d dev ev hs) fun wx H=>?_
 refine ⟨_,_,_,_,_,rfl,alc_o H fun b13 wx H=>?_⟩
 iterate 3 refine sta H fun wx H=>?_
 unfold bindR
 refine cnd_i (fun h=>?_) fun h=>?_
 · rw [if_pos (by simpa using h)]
   iterate 6 refine sta H fun wx H=>?_
   repeat (first | refine lIa H ?_ | refine lLa H ?_ | refine lBa H ?_ | refine lPa H ?_ | refine lSa H ?_)
   exact ⟨_,⟨rfl,rfl⟩,H.dp⟩
 · rw [if_neg (by simpa using h)]
   repeat (first | refine lIa H ?_ | refine lLa H ?_ | refine lBa H ?_ | refine lPa H ?_ | refine lSa H ?_)
   iterate 6 refine sta H fun wx H=>?_
   repeat (first | refine lIa H ?_ | refine lLa H ?_ | refine lBa H ?_ | refine lPa H ?_ | refine lSa H ?_)
   exact ⟨_,⟨rfl,rfl⟩,H.dp⟩
end Go.Proofs.YtidcijbnbdemeaaGreat
