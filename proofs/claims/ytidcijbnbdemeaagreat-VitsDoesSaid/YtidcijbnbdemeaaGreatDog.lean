/-
  The walks and the laws beneath the statement: part 7.
-/
import Derived.Test.YtidcijbnbdemeaaGreatDof
set_option maxRecDepth 100000
set_option linter.unusedVariables false
set_option linter.unusedSimpArgs false
set_option maxHeartbeats 4000000
namespace Go.Proofs.YtidcijbnbdemeaaGreat
open Go Go.RowKit X
theorem movi_t (b:Nat) (s:Vi) (c:Cm) (hsz:(s.dev c.dev).evs.length + 1 < NB):Tri P F.zzdz [ptr b,cmV c] [vitsI b s] (ToldAs b (moviM s c)):=by
 intro w S hS
 refine zzlE ?_
 unfold zzdz
 have H:=Own.start hS
 refine alc_o H fun b11 wx H=>join_o ?_
 have fin:∀ (b15:Nat) (wx:World),X.Own w S [row b15 [.int .i64 (getK dv0 (mapv DvI.e s.devs) c.dev).bits,.pointer (getK dv0 (mapv DvI.e s.devs) c.dev).ptr] tDevice,row b11 c.cells tCmd,vitsI b s] wx →
  zzgm (some ⟨b,0,none⟩) (fun v w'=>∃ L',ToldAs b (moviM s c) v L'∧X.Own w S L' w') b11 b15 (hasK s.devs c.dev) wx:=by
  intro b15 wx H
  unfold zzgm
  refine cnd_i (fun h=>?_) fun h=>?_
  · have h:hasK s.devs c.dev = false:=by simpa using h
    have e:moviM s c = ([],s,181):=by unfold moviM; rw [if_pos h]
    rw [e]
    exact told_err (H.dp)
  have h:hasK s.devs c.dev = true:=by simpa using h
  rw [dev_get h] at H
  repeat (first | refine lIa H ?_ | refine lLa H ?_ | refine lBa H ?_ | refine lPa H ?_ | refine lSa H ?_)
  obtain ⟨bd,bc,H⟩:=zzag H (by repeat (first | exact Pick.here | apply Pick.there))
  have H:=dev_open h H
  refine call_p H (get_r (s.dev c.dev).ptr (s.dev c.dev).evs c.ev) (by repeat (first | exact Cut.nil | (apply Cut.cons; (repeat (first | exact Pick.here | apply Pick.there))))) fun wx H=>?_
  have H:=zzab (dev_back h H)
  refine ⟨_,_,_,_,rfl,alc_o H fun b26 wx H=>?_⟩
  iterate 3 refine sta H fun wx H=>?_
  refine cnd_i (fun h2=>?_) fun h2=>?_
  · have h2:hasK (s.dev c.dev).evs c.ev = false:=by simpa using h2
    have e:moviM s c = ([],s,182):=by unfold moviM; rw [if_neg (by rw [h]; simp),if_pos h2]
    rw [e]
    exact told_err (H.dp)
  have h2:hasK (s.dev c.dev).evs c.ev = true:=by simpa using h2
  repeat (first | refine lIa H ?_ | refine lLa H ?_ | refine lBa H ?_ | refine lPa H ?_ | refine lSa H ?_)
  refine call_pa H (goes_t b s c.coll) fun wx H=>?_
  refine ⟨_,_,rfl,cnd_i (fun h3=>?_) fun h3=>?_⟩
  · have h3:(goesM s.colls c.coll).2≠0:=by simpa using h3
    have e:moviM s c = ([],s,(goesM s.colls c.coll).2):=by unfold moviM; rw [if_neg (by rw [h]; simp),if_neg (by rw [h2]; simp),if_pos h3]
    rw [e]
    exact told_err (H.dp)
  have h3:(goesM s.colls c.coll).2 = 0:=by simpa using h3
  have e0:moviM s c = ((if (goesM s.colls (getK rt0 (s.dev c.dev).evs c.ev).coll).2 = 0 then [⟨5,0,0,(getK rt0 (s.dev c.dev).evs c.ev).num,(goesM s.colls (getK rt0 (s.dev c.dev).evs c.ev).coll).1,(goesM s.colls c.coll).1⟩] else []) ++ [boundM (s.evs c.dev (putK (s.dev c.dev).evs c.ev { getK rt0 (s.dev c.dev).evs c.ev with coll:=c.coll })) c.dev c.ev],s.evs c.dev (putK (s.dev c.dev).evs c.ev { getK rt0 (s.dev c.dev).evs c.ev with coll:=c.coll }),0):=by
   unfold moviM; rw [if_neg (by rw [h]; simp),if_neg (by rw [h2]; simp),if_neg (by rw [h3]; simp)]
  rw [e0]
  generalize hx:getK rt0 (s.dev c.dev).evs c.ev = x at *
  have fin2:∀ (p:Option Addr) (cc:Nat) (wx:World) (xs:List Ch),xs = (if (goesM s.colls x.coll).2 = 0 then [⟨5,0,0,x.num,(goesM s.colls x.coll).1,(goesM s.colls c.coll).1⟩] else []) →
   X.Own w S [chs p cc xs,row b26 [.int .i64 x.num,.int .i64 x.coll,.bool x.val] tRoute,row b15 [.int .i64 (s.dev c.dev).bits,.pointer (some ⟨(s.dev c.dev).ptr,0,none⟩)] tDevice,row b11 c.cells tCmd,vitsI b s] wx →
   zzgl (some ⟨b,0,none⟩) (fun v w'=>∃ L',ToldAs b (xs ++ [boundM (s.evs c.dev (putK (s.dev c.dev).evs c.ev { x with coll:=c.coll })) c.dev c.ev],s.evs c.dev (putK (s.dev c.dev).evs c.ev { x with coll:=c.coll }),0) v L'∧X.Own w S L' w') b11 b15 b26 p xs.length cc wx:=by
   intro p cc wx xs hxs H
   have hxl:xs.length≤1:=by rw [hxs]; split <;> simp
   unfold zzgl
   repeat (first | refine lIa H ?_ | refine lLa H ?_ | refine lBa H ?_ | refine lPa H ?_ | refine lSa H ?_)
   refine sta H fun wx H=>?_
   repeat (first | refine lIa H ?_ | refine lLa H ?_ | refine lBa H ?_ | refine lPa H ?_ | refine lSa H ?_)
   obtain ⟨bd,bc,H⟩:=zzag H (by repeat (first | exact Pick.here | apply Pick.there))
   have H:=dev_open h H
   refine call_o H (put_r (s.dev c.dev).ptr (s.dev c.dev).evs c.ev { x with coll:=c.coll } hsz) (by repeat (first | exact Cut.nil | (apply Cut.cons; (repeat (first | exact Pick.here | apply Pick.there))))) fun vx L' wx hq H=>?_
   obtain ⟨rfl,rfl⟩:=hq
   simp only [List.cons_append,List.nil_append] at H
   have H:=zzab (dev_set h H)
   refine ⟨_,rfl,?_⟩
   repeat (first | refine lIa H ?_ | refine lLa H ?_ | refine lBa H ?_ | refine lPa H ?_ | refine lSa H ?_)
   refine call_p H (bound_t b (s.evs c.dev (putK (s.dev c.dev).evs c.ev { x with coll:=c.coll })) c.dev c.ev) (by repeat (first | exact Cut.nil | (apply Cut.cons; (repeat (first | exact Pick.here | apply Pick.there))))) fun wx H=>?_
   refine ⟨_,_,_,_,_,_,rfl,alc_o H fun b63 wx H=>?_⟩
   refine app_ch (x:=boundM (s.evs c.dev (putK (s.dev c.dev).evs c.ev { x with coll:=c.coll })) c.dev c.ev) H (xs:=xs) (by repeat (first | exact Pick.here | apply Pick.there)) (by repeat (first | exact Pick.here | apply Pick.there)) (by unfold NC; omega) fun p' c' w' H=>?_
   exact ⟨_,⟨p',c',rfl,rfl⟩,H.dp⟩
  refine join_o ?_
  repeat (first | refine lIa H ?_ | refine lLa H ?_ | refine lBa H ?_ | refine lPa H ?_ | refine lSa H ?_)
  refine call_pa H (goes_t b s x.coll) fun wx H=>?_
  refine ⟨_,_,rfl,cnd_i (fun h4=>?_) fun h4=>?_⟩
  · have h4:(goesM s.colls x.coll).2 = 0:=by simpa using h4
    repeat (first | refine lIa H ?_ | refine lLa H ?_ | refine lBa H ?_ | refine lPa H ?_ | refine lSa H ?_)
    refine alc_o H fun b76 wx H=>?_
    have H:=chs_nil H
    refine app_ch (x:=⟨5,0,0,x.num,(goesM s.colls x.coll).1,(goesM s.colls c.coll).1⟩) (xs:=[]) H .here (by repeat (first | exact Pick.here | apply Pick.there)) (by unfold NC; simp) fun p' c' w' H=>?_
    have:=fin2 p' c' w' _ (by rw [if_pos h4]) (H.dp)
    rw [if_pos h4]
    exact this
  · have h4:¬ (goesM s.colls x.coll).2 = 0:=by simpa using h4
    have H:=chs_nil H
    have:=fin2 none 0 _ [] (by rw [if_neg h4]) (H.dp)
    rw [if_neg h4]
    exact this
 obtain ⟨bd,bc,H⟩:=zzag H (by repeat (first | exact Pick.here | apply Pick.there))
 refine drw_o H fun wx H=>?_
 dsimp only [nn]
 repeat (first | refine lIa H ?_ | refine lLa H ?_ | refine lBa H ?_ | refine lPa H ?_ | refine lSa H ?_)
 refine ⟨?_,?_⟩
 · refine call_pa H (get_d bd (mapv DvI.e s.devs) c.dev) fun wx H=>?_
   rw [mapv_has]
   refine ⟨_,_,_,rfl,alc_o H fun b65 wx H=>⟨?_,?_,?_⟩⟩
   · repeat (first | refine lIa H ?_ | refine lLa H ?_ | refine lBa H ?_ | refine lPa H ?_ | refine lSa H ?_)
     rfl
   · repeat (first | refine lIa H ?_ | refine lLa H ?_ | refine lBa H ?_ | refine lPa H ?_ | refine lSa H ?_)
     rfl
   iterate 2 refine sta H fun wx H=>?_
   have H:=zzab (H.perm (L1:=[row b (s.cells bd bc) tVits,bookG ED tBookD bd (mapv DvI.e s.devs),bookG EI tBookI bc s.colls,starI (s.devs.map evI)]) (by repeat (first | exact Cut.nil | (apply Cut.cons; (repeat (first | exact Pick.here | apply Pick.there))))))
   exact fin b65 _ (H.dp)
 · refine alc_o H fun b71 wx H=>⟨?_,?_,?_⟩
   · repeat (first | refine lIa H ?_ | refine lLa H ?_ | refine lBa H ?_ | refine lPa H ?_ | refine lSa H ?_)
     rfl
   · repeat (first | refine lIa H ?_ | refine lLa H ?_ | refine lBa H ?_ | refine lPa H ?_ | refine lSa H ?_)
     rfl
   refine call_pa H (get_d bd (mapv DvI.e s.devs) c.dev) fun wx H=>?_
   rw [mapv_has]
   refine ⟨_,_,_,rfl,?_⟩
   iterate 2 refine sta H fun wx H=>?_
   have H:=zzab (H.perm (L1:=[row b (s.cells bd bc) tVits,bookG ED tBookD bd (mapv DvI.e s.devs),bookG EI tBookI bc s.colls,starI (s.devs.map evI)]) (by repeat (first | exact Cut.nil | (apply Cut.cons; (repeat (first | exact Pick.here | apply Pick.there))))))
   exact fin b71 _ (H.dp)
structure Ru where
 a:Int
 s:Int
 vcpus:Int
 lpis:Int
def ruV (r:Ru) (p:Option Addr) (n c:Nat):Value:=.agg [.int .i64 r.a,.int .i64 r.s,.int .i64 r.vcpus,.int .i64 r.lpis,.slice p n c].toArray
theorem evs_dev {s:Vi} {dev:Int} {l:List (Int×RtE)} (h:hasK s.devs dev = true):(s.evs dev l).dev dev = { s.dev dev with evs:=l }:=by
 have h2:=ev_has (l:=l) h
 have h3:=kv_at (d:=dvi0) h2
 have e:at' (s.evs dev l).devs dev = at' s.devs dev:=by
  show at' (setK s.devs dev _) dev = _
  unfold at'; rw [setK_ks h]
 rw [e] at h3
 have h4:(s.evs dev l).devs[at' s.devs dev]? = some (dev,{ s.dev dev with evs:=l }):=by
  show (setK s.devs dev _)[at' s.devs dev]? = _
  unfold setK
  rw [List.getElem?_set,if_pos rfl,if_pos (at_lt h)]
 rw [h4] at h3
 exact (Prod.ext_iff.1 (Option.some.inj h3)).2.symm
theorem mapti_t (b:Nat) (s:Vi) (c:Cm) (n:Int) (r:Ru) {po:Option Addr} {no co:Nat} (hb:0≤(s.dev c.dev).bits) (hsz:(s.dev c.dev).evs.length + 1 < NB):Tri P F.zzb4 [ptr b,cmV c,.int .i64 n,ruV r po no co] [vitsI b s] (ToldAs b (maptiM s c n r.lpis)):=by
 intro w S hS
 refine zzk8 ?_
 unfold zzb4
 have H:=Own.start hS
 refine alc_o H fun b19 wx H=>alc_o H fun b21 wx H=>join_o ?_
 have fin:∀ (b25:Nat) (wx:World),X.Own w S [row b25 [.int .i64 (getK dv0 (mapv DvI.e s.devs) c.dev).bits,.pointer (getK dv0 (mapv DvI.e s.devs) c.dev).ptr] tDevice,row b21 [.int .i64 r.a,.int .i64 r.s,.int .i64 r.vcpus,.int .i64 r.lpis,.slice po no co] tRules,row b19 c.cells tCmd,vitsI b s] wx →
  zzfC (some ⟨b,0,none⟩) n (fun v w'=>∃ L',ToldAs b (maptiM s c n r.lpis) v L'∧X.Own w S L' w') b19 b21 b25 (hasK s.devs c.dev) wx:=by
  intro b25 wx H
  unfold zzfC
  refine cnd_i (fun h=>?_) fun h=>?_
  · have h:hasK s.devs c.dev = false:=by simpa using h
    have e:maptiM s c n r.lpis = ([],s,181):=by unfold maptiM; rw [if_pos h]
    rw [e]
    exact told_err (H.dp)
  have h:hasK s.devs c.dev = true:=by simpa using h
  rw [dev_get h] at H
  refine drw_o H fun wx H=>?_
  repeat (first | refine lIa H ?_ | refine lLa H ?_ | refine lBa H ?_ | refine lPa H ?_ | refine lSa H ?_)
  refine ⟨hb,cnd_i (fun h2=>?_) fun h2=>join_o ?_⟩
  · have h2:c.ev≥evN (s.dev c.dev).bits:=of_decide_eq_true h2
    have e:maptiM s c n r.lpis = ([],s,182):=by unfold maptiM; rw [if_neg (by rw [h]; simp),if_pos h2]
    rw [e]
    exact told_err (H.dp)
  have h2:¬ c.ev≥evN (s.dev c.dev).bits:=of_decide_eq_false h2
  have fin1:∀ (x:Bool) (wx:World),(x = true↔(n < 8192∨IntKind.i64.wrap (n - 8192)≥r.lpis))→X.Own w S [row b25 [.int .i64 (s.dev c.dev).bits,.pointer (some ⟨(s.dev c.dev).ptr,0,none⟩)] tDevice,row b21 [.int .i64 r.a,.int .i64 r.s,.int .i64 r.vcpus,.int .i64 r.lpis,.slice po no co] tRules,row b19 c.cells tCmd,vitsI b s] wx →
   zzfB (some ⟨b,0,none⟩) n (fun v w'=>∃ L',ToldAs b (maptiM s c n r.lpis) v L'∧X.Own w S L' w') b19 b25 x wx:=by
   intro x wx hx H
   unfold zzfB
   refine cnd_i (fun h3=>?_) fun h3=>?_
   · have e:maptiM s c n r.lpis = ([],s,150):=by unfold maptiM; rw [if_neg (by rw [h]; simp),if_neg h2,if_pos (hx.1 h3)]
     rw [e]
     exact told_err (H.dp)
   have h3:¬ (n < 8192∨IntKind.i64.wrap (n - 8192)≥r.lpis):=fun hh=>by rw [hx.2 hh] at h3; cases h3
   repeat (first | refine lIa H ?_ | refine lLa H ?_ | refine lBa H ?_ | refine lPa H ?_ | refine lSa H ?_)
   refine cnd_i (fun h4=>?_) fun h4=>join_o ?_
   · have h4:c.coll≥8:=of_decide_eq_true h4
     have e:maptiM s c n r.lpis = ([],s,183):=by unfold maptiM; rw [if_neg (by rw [h]; simp),if_neg h2,if_neg h3,if_pos h4]
     rw [e]
     exact told_err (H.dp)
   have h4:¬ c.coll≥8:=of_decide_eq_false h4
   have e0:maptiM s c n r.lpis = (let a:List Ch×Vi:=if hasK (s.dev c.dev).evs c.ev then (forgetC s c.dev c.ev,forgetS s c.dev c.ev) else ([],s)
    let s2:=a.2.evs c.dev (putK (a.2.dev c.dev).evs c.ev ⟨n,c.coll,true⟩)
    (a.1 ++ [boundM s2 c.dev c.ev,⟨7,0,0,n,0,0⟩],s2,0)):=by unfold maptiM; rw [if_neg (by rw [h]; simp),if_neg h2,if_neg h3,if_neg h4]
   dsimp only at e0
   rw [e0]
   have fin2:∀ (p:Option Addr) (cc:Nat) (wx:World) (xs:List Ch) (s1:Vi),hasK s1.devs c.dev = true→(s1.dev c.dev).evs.length + 1 < NB→(s1.dev c.dev).ptr = (s.dev c.dev).ptr→xs.length≤2 →
    X.Own w S [chs p cc xs,row b25 [.int .i64 (s.dev c.dev).bits,.pointer (some ⟨(s.dev c.dev).ptr,0,none⟩)] tDevice,row b19 c.cells tCmd,vitsI b s1] wx →
    zzfA (some ⟨b,0,none⟩) n (fun v w'=>∃ L',ToldAs b (xs ++ [boundM (s1.evs c.dev (putK (s1.dev c.dev).evs c.ev ⟨n,c.coll,true⟩)) c.dev c.ev,⟨7,0,0,n,0,0⟩],s1.evs c.dev (putK (s1.dev c.dev).evs c.ev ⟨n,c.coll,true⟩),0) v L'∧X.Own w S L' w') b19 b25 p xs.length cc wx:=by
    intro p cc wx xs s1 g1 g2 g3 g4 H
    unfold zzfA
    repeat (first | refine lIa H ?_ | refine lLa H ?_ | refine lBa H ?_ | refine lPa H ?_ | refine lSa H ?_)
    obtain ⟨bd,bc,H⟩:=zzag H (by repeat (first | exact Pick.here | apply Pick.there))
    have H:=dev_open g1 H
    rw [← g3]
    refine call_o H (put_r (s1.dev c.dev).ptr (s1.dev c.dev).evs c.ev ⟨n,c.coll,true⟩ g2) (by repeat (first | exact Cut.nil | (apply Cut.cons; (repeat (first | exact Pick.here | apply Pick.there))))) fun vx L' wx hq H=>?_
    obtain ⟨rfl,rfl⟩:=hq
    simp only [List.cons_append,List.nil_append] at H
    have H:=zzab (dev_set g1 H)
    refine ⟨_,rfl,?_⟩
    repeat (first | refine lIa H ?_ | refine lLa H ?_ | refine lBa H ?_ | refine lPa H ?_ | refine lSa H ?_)
    refine call_p H (bound_t b (s1.evs c.dev (putK (s1.dev c.dev).evs c.ev ⟨n,c.coll,true⟩)) c.dev c.ev) (by repeat (first | exact Cut.nil | (apply Cut.cons; (repeat (first | exact Pick.here | apply Pick.there))))) fun wx H=>?_
    refine ⟨_,_,_,_,_,_,rfl,alc_o H fun b58 wx H=>?_⟩
    refine app_els (E:=EC) (ys:=[boundM (s1.evs c.dev (putK (s1.dev c.dev).evs c.ev ⟨n,c.coll,true⟩)) c.dev c.ev,⟨7,0,0,n,0,0⟩]) H (xs:=xs) (b:=b58) (t:=tChange) (by repeat (first | exact Pick.here | apply Pick.there)) .here rfl (by show (xs.length + 2) * 48≤_; omega) (by show xs.length + 2≤NB; unfold NB; omega) fun p' c' w' H=>?_
    exact ⟨_,⟨p',c',rfl,rfl⟩,H.dp⟩
   obtain ⟨bd,bc,H⟩:=zzag H (by repeat (first | exact Pick.here | apply Pick.there))
   have H:=dev_open h H
   repeat (first | refine lIa H ?_ | refine lLa H ?_ | refine lBa H ?_ | refine lPa H ?_ | refine lSa H ?_)
   refine call_p H (has_r (s.dev c.dev).ptr (s.dev c.dev).evs c.ev) (by repeat (first | exact Cut.nil | (apply Cut.cons; (repeat (first | exact Pick.here | apply Pick.there))))) fun wx H=>?_
   have H:=zzab (dev_back h H)
   refine ⟨_,rfl,cnd_i (fun h5=>?_) fun h5=>?_⟩
   · have h5:hasK (s.dev c.dev).evs c.ev = true:=h5
     repeat (first | refine lIa H ?_ | refine lLa H ?_ | refine lBa H ?_ | refine lPa H ?_ | refine lSa H ?_)
     refine call_oa H (forget_t b s c.dev c.ev h) fun vx L' wx hq H=>?_
     obtain ⟨p,cc,rfl,rfl⟩:=hq
     simp only [List.cons_append,List.nil_append] at H
     refine ⟨_,_,_,rfl,?_⟩
     rw [if_pos h5]
     have hfl:(forgetC s c.dev c.ev).length≤2:=by unfold forgetC; split <;> simp
     refine fin2 p cc _ (forgetC s c.dev c.ev) (forgetS s c.dev c.ev) (ev_has h) ?_ ?_ hfl (H.dp)
     · show (((s.evs c.dev (takeK (s.dev c.dev).evs c.ev)).dev c.dev).evs).length + 1 < NB
       rw [evs_dev h]
       have:=takeK_len (s.dev c.dev).evs c.ev
       show (takeK (s.dev c.dev).evs c.ev).length + 1 < NB
       omega
     · show ((s.evs c.dev (takeK (s.dev c.dev).evs c.ev)).dev c.dev).ptr = _
       rw [evs_dev h]
   · have h5:¬ hasK (s.dev c.dev).evs c.ev = true:=by rw [h5]; simp
     rw [if_neg h5]
     have H:=chs_nil H
     exact fin2 none 0 _ [] s h hsz rfl (by simp) (H.dp)
  refine cnd_i (fun h3=>?_) fun h3=>?_
  · exact fin1 true _ (by simp [of_decide_eq_true h3]) (H.dp)
  · have h3:=of_decide_eq_false h3
    repeat (first | refine lIa H ?_ | refine lLa H ?_ | refine lBa H ?_ | refine lPa H ?_ | refine lSa H ?_)
    exact fin1 _ _ (by simp [h3]) (H.dp)
 obtain ⟨bd,bc,H⟩:=zzag H (by repeat (first | exact Pick.here | apply Pick.there))
 refine drw_o H fun wx H=>?_
 dsimp only [nn]
 repeat (first | refine lIa H ?_ | refine lLa H ?_ | refine lBa H ?_ | refine lPa H ?_ | refine lSa H ?_)
 refine ⟨?_,?_⟩
 · refine call_pa H (get_d bd (mapv DvI.e s.devs) c.dev) fun wx H=>?_
   rw [mapv_has]
   refine ⟨_,_,_,rfl,alc_o H fun b65 wx H=>⟨?_,?_,?_⟩⟩
   · repeat (first | refine lIa H ?_ | refine lLa H ?_ | refine lBa H ?_ | refine lPa H ?_ | refine lSa H ?_)
     rfl
   · repeat (first | refine lIa H ?_ | refine lLa H ?_ | refine lBa H ?_ | refine lPa H ?_ | refine lSa H ?_)
     rfl
   iterate 2 refine sta H fun wx H=>?_
   have H:=zzab (H.perm (L1:=[row b (s.cells bd bc) tVits,bookG ED tBookD bd (mapv DvI.e s.devs),bookG EI tBookI bc s.colls,starI (s.devs.map evI)]) (by repeat (first | exact Cut.nil | (apply Cut.cons; (repeat (first | exact Pick.here | apply Pick.there))))))
   exact fin b65 _ (H.dp)
 · refine alc_o H fun b71 wx H=>⟨?_,?_,?_⟩
   · repeat (first | refine lIa H ?_ | refine lLa H ?_ | refine lBa H ?_ | refine lPa H ?_ | refine lSa H ?_)
     rfl
   · repeat (first | refine lIa H ?_ | refine lLa H ?_ | refine lBa H ?_ | refine lPa H ?_ | refine lSa H ?_)
     rfl
   refine call_pa H (get_d bd (mapv DvI.e s.devs) c.dev) fun wx H=>?_
   rw [mapv_has]
   refine ⟨_,_,_,rfl,?_⟩
   iterate 2 refine sta H fun wx H=>?_
   have H:=zzab (H.perm (L1:=[row b (s.cells bd bc) tVits,bookG ED tBookD bd (mapv DvI.e s.devs),bookG EI tBookI bc s.colls,starI (s.devs.map evI)]) (by repeat (first | exact Cut.nil | (apply Cut.cons; (repeat (first | exact Pick.here | apply Pick.there))))))
   exact fin b71 _ (H.dp)
section
variable {α:Type}
abbrev Up (kv:List (Int×α)):Prop:=(ks kv).Pairwise (· < ·)
theorem hasK_iff {kv:List (Int×α)} {k:Int} (hs:Up kv):hasK kv k = true↔k∈ks kv:=by
 unfold hasK
 rw [decide_eq_true_eq]
 constructor
 · exact List.mem_of_getElem?
 · intro h
   obtain ⟨t,ht⟩:=List.mem_iff_getElem?.1 h
   by_cases hn:(ks kv)[lb (ks kv) k]? = some k
   · exact hn
   · exfalso
     by_cases hlt:t < lb (ks kv) k
     · have:=lb_lt hlt ht; omega
     · have:=lb_gt (x:=k) hs hn (List.mem_iff_getElem?.2 ⟨t - lb (ks kv) k,by rw [List.getElem?_drop,show lb (ks kv) k + (t - lb (ks kv) k) = t by omega]; exact ht⟩)
       omega
def lk (kv:List (Int×α)) (k:Int):Option α:=if hasK kv k then (vs kv)[at' kv k]? else none
theorem vs_some {kv:List (Int×α)} {k:Int} (h:hasK kv k = true):∃ v,(vs kv)[at' kv k]? = some v :=
 ⟨_,List.getElem?_eq_getElem (by rw [vs_len]; exact at_lt h)⟩
theorem hasK_lk (kv:List (Int×α)) (k:Int):hasK kv k = (lk kv k).isSome:=by
 unfold lk
 cases h:hasK kv k
 · rfl
 · obtain ⟨v,hv⟩:=vs_some h
   rw [if_pos rfl,hv]; rfl
theorem getK_lk (d:α) (kv:List (Int×α)) (k:Int):getK d kv k = (lk kv k).getD d:=by
 unfold lk getK
 cases h:hasK kv k
 · simp
 · rw [if_pos rfl,if_pos rfl,List.getD_eq_getElem?_getD]
theorem up_inj {kv:List (Int×α)} (hs:Up kv) {i j:Nat} {k:Int} (hi:(ks kv)[i]? = some k) (hj:(ks kv)[j]? = some k):i = j:=by
 obtain ⟨h1,e1⟩:=List.getElem?_eq_some_iff.1 hi
 obtain ⟨h2,e2⟩:=List.getElem?_eq_some_iff.1 hj
 rcases Nat.lt_trichotomy i j with h | h | h
 · have:=List.pairwise_iff_getElem.1 hs i j h1 h2 h; omega
 · exact h
 · have:=List.pairwise_iff_getElem.1 hs j i h2 h1 h; omega
theorem kv_split {kv:List (Int×α)} {i:Nat} {k:Int} {v:α} (h:kv[i]? = some (k,v)):(ks kv)[i]? = some k∧(vs kv)[i]? = some v:=by simp [ks,vs,h]
theorem kv_join {kv:List (Int×α)} {i:Nat} {k:Int} {v:α} (h1:(ks kv)[i]? = some k) (h2:(vs kv)[i]? = some v):kv[i]? = some (k,v):=by
 unfold ks at h1
 unfold vs at h2
 rw [List.getElem?_map] at h1 h2
 cases h:kv[i]? with
 | none=>rw [h] at h1; cases h1
 | some x =>
  rw [h] at h1 h2
  simp only [Option.map_some,Option.some.injEq] at h1 h2 ⊢
  exact Prod.ext h1 h2
theorem lk_iff {kv:List (Int×α)} (hs:Up kv) {k:Int} {v:α}:lk kv k = some v↔(k,v)∈kv:=by
 constructor
 · intro h
   unfold lk at h
   by_cases hh:hasK kv k = true
   · rw [if_pos hh] at h
     exact List.mem_of_getElem? (kv_join (of_decide_eq_true hh) h)
   · rw [if_neg hh] at h; cases h
 · intro h
   obtain ⟨i,hi⟩:=List.mem_iff_getElem?.1 h
   obtain ⟨h1,h2⟩:=kv_split hi
   have hh:=(hasK_iff hs).2 (List.mem_of_getElem? h1)
   have:=up_inj hs h1 (of_decide_eq_true hh)
   subst this
   unfold lk
   rw [hh,if_pos rfl,h2]
theorem zzmo {l:List α} {i:Nat} {x y:α} (hy:l[i]? = some y):x∈l↔x∈l.take i∨x = y∨x∈l.drop (i + 1):=by
 obtain ⟨hl,he⟩:=List.getElem?_eq_some_iff.1 hy
 have:l = l.take i ++ y :: l.drop (i + 1):=by
  rw [← he,← List.drop_eq_getElem_cons hl,List.take_append_drop]
 conv=>lhs; rw [this]
 simp [List.mem_append,List.mem_cons]
theorem putK_up {kv:List (Int×α)} {k:Int} {v:α} (hs:Up kv):Up (putK kv k v):=by
 cases h:hasK kv k
 · unfold Up; rw [(putK_new h).1]; exact ins_up hs (of_decide_eq_false h)
 · unfold Up; rw [(putK_old h).1]; exact hs
theorem takeK_up {kv:List (Int×α)} {k:Int} (hs:Up kv):Up (takeK kv k):=by
 cases h:hasK kv k
 · unfold takeK; rw [h]; exact hs
 · unfold Up; rw [(takeK_old h).1]; exact hs.sublist (List.eraseIdx_sublist _ _)
theorem putK_mem {kv:List (Int×α)} {k:Int} {v:α} (h:hasK kv k = false) {x:Int×α}:x∈putK kv k v↔x = (k,v)∨x∈kv:=by
 unfold putK
 rw [h]
 simp only [Bool.false_eq_true,if_false,List.mem_append,List.mem_cons]
 conv=>rhs; rhs; rw [← List.take_append_drop (at' kv k) kv,List.mem_append]
 constructor
 · rintro (h | h | h)
   · exact .inr (.inl h)
   · exact .inl h
   · exact .inr (.inr h)
 · rintro (h | h | h)
   · exact .inr (.inl h)
   · exact .inl h
   · exact .inr (.inr h)
theorem at_le (kv:List (Int×α)) (k:Int):at' kv k≤kv.length:=by have:=lb_le (k:=k) (ks kv); rw [ks_len] at this; exact this
theorem set_lk {kv:List (Int×α)} {k:Int} {v:α} (hs:Up kv) (h:hasK kv k = true) (k':Int):lk (kv.set (at' kv k) (k,v)) k' = if k' = k then some v else lk kv k':=by
 have hk:ks (kv.set (at' kv k) (k,v)) = ks kv:=by
  have:=(putK_old (v:=v) h).1
  unfold putK at this
  rw [h,if_pos rfl] at this
  exact this
 have hu:Up (kv.set (at' kv k) (k,v)):=by unfold Up; rw [hk]; exact hs
 have hl:=at_lt h
 refine Option.ext fun z=>?_
 show lk _ _ = some z↔_ = some z
 rw [lk_iff hu]
 have h1:(ks kv)[at' kv k]? = some k:=of_decide_eq_true h
 constructor
 · intro hm
   obtain ⟨i,hi⟩:=List.mem_iff_getElem?.1 hm
   rw [List.getElem?_set] at hi
   split at hi
   · cases hi
     rw [if_pos rfl]
   · rename_i hne
     have e:=kv_split hi
     rw [if_neg (fun e'=>hne (up_inj hs (by rw [e'] at e; exact h1) (by rw [e'] at e; exact e.1)))]
     exact (lk_iff hs).2 (List.mem_of_getElem? hi)
 · intro hh
   split at hh
   · rename_i e
     subst e
     cases hh
     exact List.mem_of_getElem? (i:=at' kv k') (by rw [List.getElem?_set,if_pos rfl,if_pos hl])
   · rename_i e
     obtain ⟨i,hi⟩:=List.mem_iff_getElem?.1 ((lk_iff hs).1 hh)
     refine List.mem_of_getElem? (i:=i) ?_
     rw [List.getElem?_set,if_neg,hi]
     rintro rfl
     have:=(kv_split hi).1
     rw [h1] at this
     exact e (Option.some.inj this).symm
theorem lk_put {kv:List (Int×α)} {k:Int} {v:α} (hs:Up kv) (k':Int):lk (putK kv k v) k' = if k' = k then some v else lk kv k':=by
 cases h:hasK kv k
 · refine Option.ext fun z=>?_
   show lk _ _ = some z↔_ = some z
   rw [lk_iff (putK_up hs),putK_mem h]
   by_cases e:k' = k
   · subst e
     rw [if_pos rfl]
     constructor
     · rintro (h1 | h1)
       · cases h1; rfl
       · have:=(lk_iff hs).2 h1
         rw [lk,h] at this; cases this
     · intro h1; cases h1; exact .inl rfl
   · rw [if_neg e,lk_iff hs]
     constructor
     · rintro (h1 | h1)
       · cases h1; exact absurd rfl e
       · exact h1
     · exact .inr
 · have:putK kv k v = kv.set (at' kv k) (k,v):=by unfold putK; rw [h,if_pos rfl]
   rw [this]
   exact set_lk hs h k'
theorem lk_take {kv:List (Int×α)} {k:Int} (hs:Up kv) (k':Int):lk (takeK kv k) k' = if k' = k then none else lk kv k':=by
 cases h:hasK kv k
 · unfold takeK
   rw [h]
   by_cases e:k' = k
   · subst e; rw [if_pos rfl]; simp only [Bool.false_eq_true,if_false]; unfold lk; rw [h]; rfl
   · rw [if_neg e]; rfl
 · have h1:(ks kv)[at' kv k]? = some k:=of_decide_eq_true h
   have hl:=at_lt h
   have hk:kv[at' kv k].1 = k:=by
    have:=(List.getElem?_eq_some_iff.1 h1).2
    simpa [ks] using this
   refine Option.ext fun z=>?_
   show lk _ _ = some z↔_ = some z
   rw [lk_iff (takeK_up hs)]
   have hm:(k',z)∈kv↔_:=zzmo (i:=at' kv k) (List.getElem?_eq_getElem hl)
   have hm2:(k',z)∈takeK kv k↔(k',z)∈kv.take (at' kv k)∨(k',z)∈kv.drop (at' kv k + 1):=by
    unfold takeK; rw [h,if_pos rfl,List.eraseIdx_eq_take_drop_succ,List.mem_append]
   rw [hm2]
   have hne:(k',z)∈kv.take (at' kv k)∨(k',z)∈kv.drop (at' kv k + 1)→k'≠k:=by
    rintro (h2 | h2) rfl
    · obtain ⟨t,ht⟩:=List.mem_iff_getElem?.1 h2
      rw [List.getElem?_take] at ht
      split at ht
      · have:=(kv_split ht).1
        have:=up_inj hs this h1
        omega
      · cases ht
    · obtain ⟨t,ht⟩:=List.mem_iff_getElem?.1 h2
      rw [List.getElem?_drop] at ht
      have:=(kv_split ht).1
      have:=up_inj hs this h1
      omega
   by_cases e:k' = k
   · rw [if_pos e]
     exact ⟨fun h2=>absurd e (hne h2),fun h2=>by cases h2⟩
   · rw [if_neg e,lk_iff hs,hm]
     constructor
     · rintro (h2 | h2)
       · exact .inl h2
       · exact .inr (.inr h2)
     · rintro (h2 | h2 | h2)
       · exact .inl h2
       · have:k' = kv[at' kv k].1:=congrArg Prod.fst h2
         exact absurd (this.trans hk) e
       · exact .inr h2
theorem take_has {kv:List (Int×α)} {k:Int} (hs:Up kv):hasK (takeK kv k) k = false:=by
 rw [hasK_lk,lk_take hs,if_pos rfl]; rfl
end
def fgtF (dev:Int) (a:List Ch×Vi) (e:Int):List Ch×Vi:=(a.1 ++ forgetC a.2 dev e,forgetS a.2 dev e)
def fgt (s:Vi) (dev:Int) (evs:List Int):List Ch×Vi:=evs.foldl (fgtF dev) ([],s)
theorem fgt_next (s:Vi) (dev:Int) (evs:List Int) (e:Int):fgt s dev (evs ++ [e]) = fgtF dev (fgt s dev evs) e:=by simp [fgt]
theorem fgt_has {s:Vi} {dev:Int} (h:hasK s.devs dev = true) (evs:List Int):hasK (fgt s dev evs).2.devs dev = true:=by
 suffices ∀ (a:List Ch×Vi),hasK a.2.devs dev = true→hasK (evs.foldl (fgtF dev) a).2.devs dev = true from this ([],s) h
 induction evs with
 | nil=>intro a h; exact h
 | cons e r ih=>intro a h; exact ih _ (ev_has h)
theorem fgt_ks {s:Vi} {dev:Int} (h:hasK s.devs dev = true) (evs:List Int):ks (fgt s dev evs).2.devs = ks s.devs:=by
 suffices ∀ (a:List Ch×Vi),hasK a.2.devs dev = true→ks (evs.foldl (fgtF dev) a).2.devs = ks a.2.devs from this ([],s) h
 induction evs with
 | nil=>intro a h; rfl
 | cons e r ih=>intro a h; exact (ih _ (ev_has h)).trans (setK_ks h)
theorem fgtC_len (s:Vi) (dev e:Int):(forgetC s dev e).length≤2:=by unfold forgetC; split <;> simp
theorem fgt_len (s:Vi) (dev:Int) (evs:List Int):(fgt s dev evs).1.length≤2 * evs.length:=by
 suffices ∀ (a:List Ch×Vi),(evs.foldl (fgtF dev) a).1.length≤a.1.length + 2 * evs.length from by simpa [fgt] using this ([],s)
 induction evs with
 | nil=>intro a; simp
 | cons e r ih =>
  intro a
  refine Nat.le_trans (ih _) ?_
  have:=fgtC_len a.2 dev e
  simp only [fgtF,List.length_append,List.length_cons]
  omega
def dropS (s:Vi) (dev:Int):Vi:={ s with devs:=takeK s.devs dev }
def goneM (s:Vi) (dev:Int):List Ch×Vi :=
 if hasK s.devs dev then ((fgt s dev (ks (s.dev dev).evs)).1,dropS (fgt s dev (ks (s.dev dev).evs)).2 dev) else ([],s)
def mapdE (c:Cm) (size:Int):Int :=
 if evN c.bits > 16 then 181 else if c.val = true∧(c.addr > size∨IntKind.i64.wrap (8 * evN c.bits) > IntKind.i64.wrap (size - c.addr)) then 241 else 0
def mapdM (s:Vi) (c:Cm) (size:Int) (p:Nat):List Ch×Vi×Int :=
 if mapdE c size≠0 then ([],s,mapdE c size)
 else ((goneM s c.dev).1,(if c.val then { (goneM s c.dev).2 with devs:=putK (goneM s c.dev).2.devs c.dev ⟨c.bits,p,[]⟩ } else (goneM s c.dev).2),0)
theorem app_els2 {E:El P} {w w0:World} {S0:Nat→Prop} {L F F2:List It} {p q:Option Addr} {c m c2:Nat} {xs ys:List E.α} {ty:TypeId} (H:X.Own w0 S0 L w) (hp:Pick L (els E p c xs) F) (hq:Pick L (els E q c2 ys) F2) (hm:m = ys.length)
 (hl:(xs.length + ys.length) * E.bytes≤140737488355328) (hl2:xs.length + ys.length≤NB) {c3:Nat} {K:Option Addr→Nat→Nat→World→Prop}
 (k:∀ p' c' w',X.Own w0 S0 (els E p' c' (xs ++ ys) :: F) w'→K p' (xs ++ ys).length c' w') :
 runS P (Builtin.append_ #[E.ta,E.ta] ty [.slice p xs.length c,.slice q m c3].toArray) w K:=by
 subst hm
 unfold NB at hl2
 refine app_o E.hT E.hz H hp (H.rd hq own_slZ) (El.flat_len ys) (El.flat_one ys) (by unfold maxLen; omega) hl fun p' c' w' H=>?_
 have:=k p' c' w' (by unfold els; rw [List.length_append,El.flat_app]; exact H)
 rw [List.length_append] at this
 exact this
theorem pairsr_at {evs:List (Int×RtE)} {k:Nat} {x:List Value} (h:(pairsr evs)[k]? = some x):∃ u:Int×RtE,evs[k]? = some u∧x = [.int .i64 u.1,rtV u.2]:=by
 unfold pairsr at h
 rw [List.getElem?_map] at h
 cases hu:evs[k]? with
 | none=>rw [hu] at h; cases h
 | some u=>rw [hu] at h; cases h; exact ⟨u,rfl,rfl⟩
theorem ks_take {α:Type} {kv:List (Int×α)} {k:Nat} {u:Int×α} (h:kv[k]? = some u):(ks kv).take (k + 1) = (ks kv).take k ++ [u.1]:=by
 rw [List.take_add_one]
 unfold ks
 rw [List.getElem?_map,h]; rfl
theorem mapd_t (b:Nat) (s:Vi) (c:Cm) (r:Ru) {po:Option Addr} {no co:Nat} (hb:0≤c.bits) (hE:(s.dev c.dev).evs.length < 1099511627776) (hD:s.devs.length + 1 < NB) :
 Tri P F.zzdx [ptr b,cmV c,ruV r po no co] [vitsI b s] fun v L'=>∃ p,ToldAs b (mapdM s c r.s p) v L':=by
 intro w S hS
 refine zzlC ?_
 unfold zzdx
 have H:=Own.start hS
 refine alc_o H fun b18 wx H=>alc_o H fun b20 wx H=>alc_o H fun b22 wx H=>?_
 repeat (first | refine lIa H ?_ | refine lLa H ?_ | refine lBa H ?_ | refine lPa H ?_ | refine lSa H ?_)
 have err:∀ (e:Int) (wx:World),e≠0→mapdE c r.s = e→X.Own w S [vitsI b s] wx→∃ L',(∃ p,ToldAs b (mapdM s c r.s p) (.tuple [.slice none 0 0,.int .i64 e].toArray) L')∧X.Own w S L' wx:=by
  intro e wx h1 h2 H
  obtain ⟨L',h3,h4⟩:=told_err (e:=e) H
  refine ⟨L',⟨0,?_⟩,h4⟩
  unfold mapdM
  rw [h2,if_pos h1]
  exact h3
 refine ⟨hb,cnd_i (fun h1=>?_) fun h1=>join_o ?_⟩
 · have h1:evN c.bits > 16:=of_decide_eq_true h1
   exact err 181 _ (by omega) (by unfold mapdE; rw [if_pos h1]) (H.dp)
 have h1:¬ evN c.bits > 16:=of_decide_eq_false h1
 -- behind all: a device is put
 have last:∀ (dl:List Nat) (wx:World) (xs:List Ch) (s1:Vi) (p:Option Addr) (cc:Nat),mapdE c r.s = 0→goneM s c.dev = (xs,s1)→hasK s1.devs c.dev = false→s1.devs.length + 1 < NB →
  ∀ b28:Nat,X.Own w S (row b28 [.slice p xs.length cc] tChanges :: chs p cc xs :: vitsI b s1 :: row b18 [ptr b] T.t30 :: row b20 c.cells tCmd :: dl.map defI) wx →
  zzeo (fun v w'=>∃ L',(∃ p,ToldAs b (mapdM s c r.s p) v L')∧X.Own w S L' w') b18 b20 b28 wx (dl.map mkD):=by
  intro dl wx xs s1 p cc g1 g2 g3 g4 b28 H
  unfold zzeo
  refine join_o ?_
  have fin:∀ (wx:World) (pn:Nat) (s2:Vi),mapdM s c r.s pn = (xs,s2,0)→X.Own w S (row b28 [.slice p xs.length cc] tChanges :: chs p cc xs :: vitsI b s2 :: row b18 [ptr b] T.t30 :: row b20 c.cells tCmd :: dl.map defI) wx →
   zzgd (fun v w'=>∃ L',(∃ p,ToldAs b (mapdM s c r.s p) v L')∧X.Own w S L' w') b28 (dl.map mkD) wx:=by
   intro wx pn s2 g5 H
   unfold zzgd
   refine ldL_o H .here (by rfl) ?_
   have H:=own_comm (A:=[row b28 [.slice p xs.length cc] tChanges,chs p cc xs,vitsI b s2,row b18 [ptr b] T.t30,row b20 c.cells tCmd]) H
   refine takes_o dl H fun wx H=>?_
   refine ⟨_,⟨pn,?_⟩,H.drop (L1:=[chs p cc xs,vitsI b s2]) (by repeat (first | exact Cut.nil | (apply Cut.cons; (repeat (first | exact Pick.here | apply Pick.there)))))⟩
   rw [g5]
   exact ⟨p,cc,rfl,rfl⟩
  repeat (first | refine lIa H ?_ | refine lLa H ?_ | refine lBa H ?_ | refine lPa H ?_ | refine lSa H ?_)
  refine cnd_i (fun hv=>?_) fun hv=>?_
  · refine drw_o H fun wx H=>?_
    repeat (first | refine lIa H ?_ | refine lLa H ?_ | refine lBa H ?_ | refine lPa H ?_ | refine lSa H ?_)
    obtain ⟨bd,bc,H⟩:=zzag H (by repeat (first | exact Pick.here | apply Pick.there))
    dsimp only [nn]
    repeat (first | refine lIa H ?_ | refine lLa H ?_ | refine lBa H ?_ | refine lPa H ?_ | refine lSa H ?_)
    refine call_oa H (new_r) fun vx L' wx hq H=>?_
    obtain ⟨pn,rfl,rfl⟩:=hq
    simp only [List.cons_append,List.nil_append] at H
    refine ⟨_,rfl,?_,?_,?_,?_,?_⟩
    · repeat (first | refine lIa H ?_ | refine lLa H ?_ | refine lBa H ?_ | refine lPa H ?_ | refine lSa H ?_)
      rfl
    · repeat (first | refine lIa H ?_ | refine lLa H ?_ | refine lBa H ?_ | refine lPa H ?_ | refine lSa H ?_)
      rfl
    · repeat (first | refine lIa H ?_ | refine lLa H ?_ | refine lBa H ?_ | refine lPa H ?_ | refine lSa H ?_)
      rfl
    · repeat (first | refine lIa H ?_ | refine lLa H ?_ | refine lBa H ?_ | refine lPa H ?_ | refine lSa H ?_)
      rfl
    refine call_o H (put_d bd (mapv DvI.e s1.devs) c.dev ⟨c.bits,some ⟨pn,0,none⟩⟩ (by rw [mapv_len]; exact g4)) (by repeat (first | exact Cut.nil | (apply Cut.cons; (repeat (first | exact Pick.here | apply Pick.there))))) fun vx L' wx hq H=>?_
    obtain ⟨rfl,rfl⟩:=hq
    simp only [List.cons_append,List.nil_append] at H
    refine ⟨_,rfl,?_⟩
    have e1:putK (mapv DvI.e s1.devs) c.dev ⟨c.bits,some ⟨pn,0,none⟩⟩ = mapv DvI.e (putK s1.devs c.dev ⟨c.bits,pn,[]⟩):=(mapv_put s1.devs c.dev ⟨c.bits,pn,[]⟩).symm
    rw [e1] at H
    have H:=H.perm (L1:=[evI (c.dev,⟨c.bits,pn,[]⟩),starI (s1.devs.map evI)]) (by repeat (first | exact Cut.nil | (apply Cut.cons; (repeat (first | exact Pick.here | apply Pick.there)))))
    simp only [List.cons_append,List.nil_append] at H
    have H:=star_ins (g:=evI) (at_le s1.devs c.dev) H
    have e2:X.ins s1.devs (at' s1.devs c.dev) (c.dev,⟨c.bits,pn,[]⟩) = putK s1.devs c.dev ⟨c.bits,pn,[]⟩:=by unfold X.ins putK; rw [g3]; rfl
    rw [e2] at H
    have H:=H.perm (L1:=[row b (({ s1 with devs:=putK s1.devs c.dev ⟨c.bits,pn,[]⟩ }:Vi).cells bd bc) tVits,bookG ED tBookD bd (mapv DvI.e (putK s1.devs c.dev ⟨c.bits,pn,[]⟩)),bookG EI tBookI bc s1.colls,starI ((putK s1.devs c.dev ⟨c.bits,pn,[]⟩).map evI)]) (by repeat (first | exact Cut.nil | (apply Cut.cons; (repeat (first | exact Pick.here | apply Pick.there)))))
    simp only [List.cons_append,List.nil_append] at H
    have H:=zzab (s:={ s1 with devs:=putK s1.devs c.dev ⟨c.bits,pn,[]⟩ }) H
    refine fin _ pn { s1 with devs:=putK s1.devs c.dev ⟨c.bits,pn,[]⟩ } ?_ ?_
    · unfold mapdM
      rw [g1,if_neg (by simp),g2,hv]; rfl
    · exact H.perm (L1:=[row b28 [.slice p xs.length cc] tChanges,chs p cc xs,vitsI b { s1 with devs:=putK s1.devs c.dev ⟨c.bits,pn,[]⟩ },row b18 [ptr b] T.t30,row b20 c.cells tCmd]) (by repeat (first | exact Cut.nil | (apply Cut.cons; (repeat (first | exact Pick.here | apply Pick.there)))))
  · refine fin _ 0 s1 ?_ H
    unfold mapdM
    rw [g1,if_neg (by simp),g2,hv]; rfl
 have go:∀ (x:Bool) (wx:World),(x = true↔(c.val = true∧(c.addr > r.s∨IntKind.i64.wrap (8 * evN c.bits) > IntKind.i64.wrap (r.s - c.addr))))→X.Own w S [vitsI b s,row b18 [ptr b] T.t30,row b20 c.cells tCmd] wx →
  zzgf (fun v w'=>∃ L',(∃ p,ToldAs b (mapdM s c r.s p) v L')∧X.Own w S L' w') b18 b20 x wx:=by
  intro x wx hx H
  unfold zzgf
  refine cnd_i (fun h2=>?_) fun h2=>?_
  · exact err 241 _ (by omega) (by unfold mapdE; rw [if_neg h1,if_pos (hx.1 h2)]) (H.dp)
  have h2:¬ (c.val = true∧(c.addr > r.s∨IntKind.i64.wrap (8 * evN c.bits) > IntKind.i64.wrap (r.s - c.addr))):=fun hh=>by rw [hx.2 hh] at h2; cases h2
  have h0:mapdE c r.s = 0:=by unfold mapdE; rw [if_neg h1,if_neg h2]
  refine alc_o H fun b28 wx H=>join_o (join_o ?_)
  have fin:∀ (b60:Nat) (wx:World),X.Own w S [row b60 [.int .i64 (getK dv0 (mapv DvI.e s.devs) c.dev).bits,.pointer (getK dv0 (mapv DvI.e s.devs) c.dev).ptr] tDevice,row b28 [.slice none 0 0] tChanges,vitsI b s,row b18 [ptr b] T.t30,row b20 c.cells tCmd] wx →
   zzge (fun v w'=>∃ L',(∃ p,ToldAs b (mapdM s c r.s p) v L')∧X.Own w S L' w') b18 b20 b28 (fun s143 w144=>zzeo (fun v w'=>∃ L',(∃ p,ToldAs b (mapdM s c r.s p) v L')∧X.Own w S L' w') b18 b20 b28 w144 s143.2) b60 (hasK s.devs c.dev) wx:=by
   intro b60 wx H
   unfold zzge
   refine cnd_i (fun h=>?_) fun h=>?_
   · rw [dev_get h] at H
     repeat (first | refine lIa H ?_ | refine lLa H ?_ | refine lBa H ?_ | refine lPa H ?_ | refine lSa H ?_)
     obtain ⟨bd,bc,H⟩:=zzag H (by repeat (first | exact Pick.here | apply Pick.there))
     have hup0:=(zzjS H (E:=ED) (tb:=tBookD) (b:=bd) (kv:=mapv DvI.e s.devs) (by repeat (first | exact Pick.here | apply Pick.there))).1
     rw [mapv_ks] at hup0
     have H:=dev_open h H
     refine call_o H (all_r (s.dev c.dev).ptr (s.dev c.dev).evs) (by repeat (first | exact Cut.nil | (apply Cut.cons; (repeat (first | exact Pick.here | apply Pick.there))))) fun vx L' wx hq H=>?_
     obtain ⟨g,hh,p,cc,q,c2,rfl,rfl⟩:=hq
     unfold thrEr at H
     simp only [List.cons_append,List.nil_append] at H
     have H:=H.perm (L1:=[bookG ER tBookR (s.dev c.dev).ptr (s.dev c.dev).evs,row b (s.cells bd bc) tVits,bookG ED tBookD bd (mapv DvI.e s.devs),bookG EI tBookI bc s.colls,starI ((s.devs.eraseIdx (at' s.devs c.dev)).map evI)]) (by repeat (first | exact Cut.nil | (apply Cut.cons; (repeat (first | exact Pick.here | apply Pick.there)))))
     simp only [List.cons_append,List.nil_append] at H
     have H:=zzab (dev_back h H)
     refine ⟨_,rfl,?_⟩
     have H:=chs_nil H
     have H:=H.drop (L1:=[chs none 0 [],row b28 [.slice none 0 0] tChanges,vitsI b s,row b18 [ptr b] T.t30,row b20 c.cells tCmd,row g [.slice p (ks (s.dev c.dev).evs).length cc] tInts,row hh [.slice q (vs (s.dev c.dev).evs).length c2] ER.ta,nums p cc (ks (s.dev c.dev).evs),els ER q c2 (vs (s.dev c.dev).evs)]) (by repeat (first | exact Cut.nil | (apply Cut.cons; (repeat (first | exact Pick.here | apply Pick.there)))))
     generalize hevs:(s.dev c.dev).evs = evs at *
     refine rf_o (L0:=[chs none 0 [],row b28 [.slice none 0 0] tChanges,vitsI b s,row b18 [ptr b] T.t30,row b20 c.cells tCmd]) (E:=thrEr g hh p cc q c2 evs)
      (fun k L=>∃ (p:Option Addr) (cc:Nat),L = [chs p cc (fgt s c.dev ((ks evs).take k)).1,row b28 [.slice p (fgt s c.dev ((ks evs).take k)).1.length cc] tChanges,vitsI b (fgt s c.dev ((ks evs).take k)).2,row b18 [ptr b] T.t30,row b20 c.cells tCmd]) (fun c L=>False)
      thrr_enters (thrr_it g hh p cc q c2 evs (by unfold NB; omega)) (pairsr_len evs) (by unfold thrEr; exact H) ⟨none,0,rfl⟩ ?_ ?_ ?_
     · rintro k x _ F l r2 d wx Q2 hx ⟨p1,c1,rfl⟩ H hgo hdone
       obtain ⟨u,hu,rfl⟩:=pairsr_at hx
       have hkl:k < evs.length:=(List.getElem?_eq_some_iff.1 hu).1
       have hfl:=fgt_len s c.dev ((ks evs).take k)
       have htl:((ks evs).take k).length≤k:=List.length_take_le _ _
       unfold zzin
       dsimp only [X.b2]
       refine ⟨_,rfl,rec_o H .here fun wx H=>?_⟩
       refine drw_o H fun wx H=>?_
       simp only [List.cons_append,List.nil_append] at H
       repeat (first | refine lIa H ?_ | refine lLa H ?_ | refine lBa H ?_ | refine lPa H ?_ | refine lSa H ?_)
       refine call_o H (forget_t b (fgt s c.dev ((ks evs).take k)).2 c.dev u.1 (fgt_has h _)) (by repeat (first | exact Cut.nil | (apply Cut.cons; (repeat (first | exact Pick.here | apply Pick.there))))) fun vx L' wx hq H=>?_
       obtain ⟨p2,c2',rfl,rfl⟩:=hq
       simp only [List.cons_append,List.nil_append] at H
       refine ⟨_,_,_,rfl,?_,?_⟩
       · repeat (first | refine lIa H ?_ | refine lLa H ?_ | refine lBa H ?_ | refine lPa H ?_ | refine lSa H ?_)
         rfl
       have hcl:=fgtC_len (fgt s c.dev ((ks evs).take k)).2 c.dev u.1
       refine app_els2 (E:=EC) (xs:=(fgt s c.dev ((ks evs).take k)).1) (ys:=forgetC (fgt s c.dev ((ks evs).take k)).2 c.dev u.1) H (by repeat (first | exact Pick.here | apply Pick.there)) .here rfl (by show (_ + _) * 48≤_; omega) (by unfold NB; omega) fun p3 c3 wx H=>?_
       refine sta H fun wx H=>?_
       have H:=H.rest (L1:=[chs p2 c2' (forgetC (fgt s c.dev ((ks evs).take k)).2 c.dev u.1)]) (by repeat (first | exact Cut.nil | (apply Cut.cons; (repeat (first | exact Pick.here | apply Pick.there)))))
       have en:fgt s c.dev ((ks evs).take (k + 1)) = ((fgt s c.dev ((ks evs).take k)).1 ++ forgetC (fgt s c.dev ((ks evs).take k)).2 c.dev u.1,forgetS (fgt s c.dev ((ks evs).take k)).2 c.dev u.1):=by
        rw [ks_take hu,fgt_next]; rfl
       have H:=H.perm (L1:=[recI l r2 .busy none,defI d,chs p3 c3 ((fgt s c.dev ((ks evs).take k)).1 ++ forgetC (fgt s c.dev ((ks evs).take k)).2 c.dev u.1),row b28 _ tChanges,vitsI b (forgetS (fgt s c.dev ((ks evs).take k)).2 c.dev u.1),row b18 [ptr b] T.t30,row b20 c.cells tCmd]) (by repeat (first | exact Cut.nil | (apply Cut.cons; (repeat (first | exact Pick.here | apply Pick.there)))))
       simp only [List.cons_append,List.nil_append] at H
       refine rec_o H .here fun wx H=>hgo [chs p3 c3 (fgt s c.dev ((ks evs).take (k + 1))).1,row b28 [.slice p3 (fgt s c.dev ((ks evs).take (k + 1))).1.length c3] tChanges,vitsI b (fgt s c.dev ((ks evs).take (k + 1))).2,row b18 [ptr b] T.t30,row b20 c.cells tCmd] wx ⟨p3,c3,rfl⟩ ?_
       rw [en]
       exact H
     · rintro d _ wx ⟨p1,c1,rfl⟩ H
       have hn:(ks evs).take (pairsr evs).length = ks evs:=List.take_of_length_le (by rw [ks_len]; simp [pairsr])
       rw [hn] at H
       dsimp only [jmpX]
       simp only [List.cons_append,List.nil_append] at H
       refine drw_o H fun wx H=>?_
       have hfk:=fgt_ks h (ks evs)
       have hfh:hasK (fgt s c.dev (ks evs)).2.devs c.dev = true:=fgt_has h _
       generalize hfg:fgt s c.dev (ks evs) = fg at *
       repeat (first | refine lIa H ?_ | refine lLa H ?_ | refine lBa H ?_ | refine lPa H ?_ | refine lSa H ?_)
       obtain ⟨bd,bc,H⟩:=zzag H (by repeat (first | exact Pick.here | apply Pick.there))
       dsimp only [nn]
       repeat (first | refine lIa H ?_ | refine lLa H ?_ | refine lBa H ?_ | refine lPa H ?_ | refine lSa H ?_)
       refine call_o H (take_d bd (mapv DvI.e fg.2.devs) c.dev) (by repeat (first | exact Cut.nil | (apply Cut.cons; (repeat (first | exact Pick.here | apply Pick.there))))) fun vx L' wx hq H=>?_
       obtain ⟨rfl,rfl⟩:=hq
       simp only [List.cons_append,List.nil_append] at H
       rw [mapv_has]
       refine ⟨_,_,_,rfl,?_⟩
       have e1:takeK (mapv DvI.e fg.2.devs) c.dev = mapv DvI.e (dropS fg.2 c.dev).devs:=(mapv_take fg.2.devs c.dev).symm
       have e2:(dropS fg.2 c.dev).devs = fg.2.devs.eraseIdx (at' fg.2.devs c.dev):=by show takeK _ _ = _; unfold takeK; rw [hfh,if_pos rfl]
       have hup:=zzjS H (E:=ED) (tb:=tBookD) (b:=bd) (kv:=takeK (mapv DvI.e fg.2.devs) c.dev) (by repeat (first | exact Pick.here | apply Pick.there))
       rw [e1] at H
       have H:=H.perm (L1:=[starI (fg.2.devs.map evI)]) (by repeat (first | exact Cut.nil | (apply Cut.cons; (repeat (first | exact Pick.here | apply Pick.there)))))
       simp only [List.cons_append,List.nil_append] at H
       have H:=star_open (g:=evI) (dev_at hfh) H
       rw [← e2] at H
       have H:=H.perm (L1:=[row b ((dropS fg.2 c.dev).cells bd bc) tVits,bookG ED tBookD bd (mapv DvI.e (dropS fg.2 c.dev).devs),bookG EI tBookI bc (dropS fg.2 c.dev).colls,starI ((dropS fg.2 c.dev).devs.map evI)]) (by repeat (first | exact Cut.nil | (apply Cut.cons; (repeat (first | exact Pick.here | apply Pick.there)))))
       simp only [List.cons_append,List.nil_append] at H
       have H:=zzab (s:=dropS fg.2 c.dev) H
       refine last [d] wx fg.1 (dropS fg.2 c.dev) p1 c1 h0 ?_ ?_ ?_ b28 (H.drop (L1:=[row b28 [.slice p1 fg.1.length c1] tChanges,chs p1 c1 fg.1,vitsI b (dropS fg.2 c.dev),row b18 [ptr b] T.t30,row b20 c.cells tCmd,defI d]) (by repeat (first | exact Cut.nil | (apply Cut.cons; (repeat (first | exact Pick.here | apply Pick.there))))))
       · unfold goneM
         rw [h,if_pos rfl,hevs,hfg]
       · exact take_has (by unfold Up; rw [hfk]; exact hup0)
       · have:=takeK_len fg.2.devs c.dev
         have hl:=congrArg List.length hfk
         rw [ks_len,ks_len] at hl
         show (takeK fg.2.devs c.dev).length + 1 < NB
         omega
     · intro d c L w h; exact h.elim
   · have H:=chs_nil H
     have hg:goneM s c.dev = ([],s):=by unfold goneM; rw [h]; rfl
     exact last [] _ [] s none 0 h0 hg h hD b28 (H.dp)
  obtain ⟨bd,bc,H⟩:=zzag H (by repeat (first | exact Pick.here | apply Pick.there))
  refine drw_o H fun wx H=>?_
  repeat (first | refine lIa H ?_ | refine lLa H ?_ | refine lBa H ?_ | refine lPa H ?_ | refine lSa H ?_)
  dsimp only [nn]
  repeat (first | refine lIa H ?_ | refine lLa H ?_ | refine lBa H ?_ | refine lPa H ?_ | refine lSa H ?_)
  refine ⟨?_,?_⟩
  · refine call_pa H (get_d bd (mapv DvI.e s.devs) c.dev) fun wx H=>?_
    rw [mapv_has]
    refine ⟨_,_,_,rfl,alc_o H fun b65 wx H=>⟨?_,?_,?_,?_⟩⟩
    · repeat (first | refine lIa H ?_ | refine lLa H ?_ | refine lBa H ?_ | refine lPa H ?_ | refine lSa H ?_)
      rfl
    · repeat (first | refine lIa H ?_ | refine lLa H ?_ | refine lBa H ?_ | refine lPa H ?_ | refine lSa H ?_)
      rfl
    · repeat (first | refine lIa H ?_ | refine lLa H ?_ | refine lBa H ?_ | refine lPa H ?_ | refine lSa H ?_)
      rfl
    iterate 2 refine sta H fun wx H=>?_
    have H:=zzab (H.perm (L1:=[row b (s.cells bd bc) tVits,bookG ED tBookD bd (mapv DvI.e s.devs),bookG EI tBookI bc s.colls,starI (s.devs.map evI)]) (by repeat (first | exact Cut.nil | (apply Cut.cons; (repeat (first | exact Pick.here | apply Pick.there))))))
    exact fin b65 _ (H.dp)
  · refine alc_o H fun b71 wx H=>⟨?_,?_,?_,?_⟩
    · repeat (first | refine lIa H ?_ | refine lLa H ?_ | refine lBa H ?_ | refine lPa H ?_ | refine lSa H ?_)
      rfl
    · repeat (first | refine lIa H ?_ | refine lLa H ?_ | refine lBa H ?_ | refine lPa H ?_ | refine lSa H ?_)
      rfl
    · repeat (first | refine lIa H ?_ | refine lLa H ?_ | refine lBa H ?_ | refine lPa H ?_ | refine lSa H ?_)
      rfl
    refine call_pa H (get_d bd (mapv DvI.e s.devs) c.dev) fun wx H=>?_
    rw [mapv_has]
    refine ⟨_,_,_,rfl,?_⟩
    iterate 2 refine sta H fun wx H=>?_
    have H:=zzab (H.perm (L1:=[row b (s.cells bd bc) tVits,bookG ED tBookD bd (mapv DvI.e s.devs),bookG EI tBookI bc s.colls,starI (s.devs.map evI)]) (by repeat (first | exact Cut.nil | (apply Cut.cons; (repeat (first | exact Pick.here | apply Pick.there))))))
    exact fin b71 _ (H.dp)
 repeat (first | refine lIa H ?_ | refine lLa H ?_ | refine lBa H ?_ | refine lPa H ?_ | refine lSa H ?_)
 refine cnd_i (fun hv=>?_) fun hv=>?_
 · repeat (first | refine lIa H ?_ | refine lLa H ?_ | refine lBa H ?_ | refine lPa H ?_ | refine lSa H ?_)
   refine cnd_i (fun ha=>?_) fun ha=>?_
   · exact go true _ (by simp [hv,of_decide_eq_true ha]) (H.dp)
   · have ha:=of_decide_eq_false ha
     repeat (first | refine lIa H ?_ | refine lLa H ?_ | refine lBa H ?_ | refine lPa H ?_ | refine lSa H ?_)
     exact go _ _ (by rw [hv]; simp [ha]; rfl) (H.dp)
 · exact go false _ (by simp [hv]) (H.dp)
end Go.Proofs.YtidcijbnbdemeaaGreat
namespace Go.Proofs.YtidcijbnbdemeaaGreat.X
open Go Go.RowKit
variable {P:Program} {w w0:World} {S0:Nat→Prop}
theorem rf_s {L0 Fz E:List It} {f:FuncId} {cap:List Value} {xs:List (List Value)} {np:Nat} {B:Nat→Loop→List Value→World→(Value→World→Prop)→Prop} {K:List Deferred→Option Code→World→Prop} {l0:Nat} {r0:Loop} {st0:LoopState} {j0:Option Code} (hl0:Pick (L0 ++ E) (recI l0 r0 st0 j0) Fz)
 (I:Nat→List It→Prop) (D:Code→List It→Prop) (hen:enters P f = true) (hit:Iter P f cap E xs) (hnp:∀ x∈xs,x.length = np) (H:Own w0 S0 (L0 ++ E) w) (h0:I 0 L0)
 (hB:∀ (k:Nat) (x:List Value) (L F:List It) (l:Nat) (r:Loop) (w:World) (Q:Value→World→Prop),xs[k]? = some x→I k L→Own w0 S0 (recI l r .ready none :: (L ++ (E ++ F))) w →
  (∀ L' w',I (k + 1) L'→Own w0 S0 (recI l r .ready none :: (L' ++ (E ++ F))) w'→Q (.bool true) w') →
  (∀ c L' w',D c L'→Own w0 S0 (recI l r .done (some c) :: (L' ++ (E ++ F))) w'→Q (.bool false) w')→B l r x w Q)
 (hend:∀ L w,I xs.length L→Own w0 S0 (L ++ E) w→K [] none w)
 (hstop:∀ c L w,D c L→Own w0 S0 (L ++ E) w→K [] (some c) w) :
 RF P (some l0) np (.func (.func f) [].toArray cap.toArray) w B K:=by
 unfold RF inLoop
 simp only
 refine ⟨?_,?_⟩
 · obtain ⟨S,⟨g1,_⟩,_⟩:=H.pick hl0
   exact ⟨_,g1⟩
 intro r l w1 mark hE hYV
 simp only [Entered] at hE
 obtain ⟨rfl,rfl,rfl⟩:=hE
 have H2:Own w0 S0 (recI w.heap.size r .ready none :: (L0 ++ E)) (w.alloc (.loop { r with state:=.ready,pending:=none })) :=
  H.add (i:=recI _ r .ready none) ((Below.refl _ _).alloc (Nat.le_refl _) _) (S:=fun k=>k = w.heap.size) ⟨by unfold recAt; exact World.alloc_heap_new _ _,fun _=>Iff.rfl⟩ (by rintro k rfl; exact Nat.le_refl _)
 refine enters_cv hen ?_
 refine hit _ w0 S0 (recI w.heap.size r .ready none :: L0) _ _ (fun k L'=>∃ L,I k L∧L' = recI w.heap.size r .ready none :: L)
  (fun L'=>∃ c L,D c L∧L' = recI w.heap.size r .done (some c) :: L) ⟨_,_,_,rfl⟩ H2 ⟨L0,h0,rfl⟩ ?_ ?_ ?_
 · rintro k x _ F w2 hx ⟨L,hI,rfl⟩ H3
   have hrec:recAt w2 w.heap.size r .ready none:=(H3.pick (i:=recI _ _ _ _) .here).choose_spec.1.1
   show YV P _ _ _ _
   refine hYV _ w2 _ (hnp x (List.mem_of_getElem? hx)) hrec (hB k x L F _ r w2 _ hx hI H3 ?_ ?_)
   · intro L' w' hI' H4
     exact ⟨true,rfl,_,by rw [if_pos rfl]; exact ⟨L',hI',rfl⟩,H4⟩
   · intro c L' w' hD H4
     exact ⟨false,rfl,_,by rw [if_neg (by simp)]; exact ⟨c,L',hD,rfl⟩,H4⟩
 · rintro _ w2 ⟨L,hI,rfl⟩ H3
   obtain ⟨h1,h2⟩:=rec_o (K:=fun w3=>K [] none w3) (st':=.exhausted) (j':=none) H3 .here fun w3 H5=>hend L w3 hI (H5.rest (L1:=[recI _ _ _ _]) (.cons .here .nil))
   exact ⟨_,_,h1,by simp,h2⟩
 · rintro _ w2 ⟨c,L,hD,rfl⟩ H3
   obtain ⟨h1,h2⟩:=rec_o (K:=fun w3=>K [] (some c) w3) (st':=.exhausted) (j':=some c) H3 .here fun w3 H5=>hstop c L w3 hD (H5.rest (L1:=[recI _ _ _ _]) (.cons .here .nil))
   exact ⟨_,_,h1,by simp,h2⟩
end Go.Proofs.YtidcijbnbdemeaaGreat.X
namespace Go.Proofs.YtidcijbnbdemeaaGreat
open Go Go.RowKit X
def mapcF (s:Vi) (coll:Int) (dev:Int) (evs:List (Int×RtE)):List Ch:=(evs.filter fun e=>e.2.coll == coll).map fun e=>boundM s dev e.1
def mapcC (s:Vi) (coll:Int) (devs:List (Int×DvI)):List Ch:=devs.flatMap fun u=>mapcF s coll u.1 u.2.evs
def tot (devs:List (Int×DvI)):Nat:=(devs.map fun u=>u.2.evs.length).sum
theorem mapcF_len (s:Vi) (coll dev:Int) (evs:List (Int×RtE)):(mapcF s coll dev evs).length≤evs.length:=by
 unfold mapcF; rw [List.length_map]; exact List.length_filter_le _ _
theorem mapcC_len (s:Vi) (coll:Int) (devs:List (Int×DvI)):(mapcC s coll devs).length≤tot devs:=by
 induction devs with
 | nil=>simp [mapcC,tot]
 | cons u r ih =>
  have:=mapcF_len s coll u.1 u.2.evs
  simp only [mapcC,tot,List.flatMap_cons,List.length_append,List.map_cons,List.sum_cons] at *
  omega
theorem tot_take {devs:List (Int×DvI)} {k:Nat} {u:Int×DvI} (h:devs[k]? = some u):tot (devs.take k) + u.2.evs.length≤tot devs:=by
 have e:devs = devs.take k ++ u :: devs.drop (k + 1):=by
  obtain ⟨hl,he⟩:=List.getElem?_eq_some_iff.1 h
  rw [← he,← List.drop_eq_getElem_cons hl,List.take_append_drop]
 have:tot devs = tot (devs.take k) + (u.2.evs.length + tot (devs.drop (k + 1))):=by
  conv=>lhs; rw [e]
  simp [tot]
 omega
def mapcM (s:Vi) (c:Cm) (vcpus:Int):List Ch×Vi×Int :=
 if c.coll≥8 then ([],s,183)
 else if c.val = true∧c.tgt≥vcpus then ([],s,271)
 else
  let s2:Vi:={ s with colls:=if c.val then putK s.colls c.coll c.tgt else takeK s.colls c.coll }
  (mapcC s2 c.coll s2.devs,s2,0)
theorem pairsd_at {kv:List (Int×DvI)} {k:Nat} {x:List Value} (h:(pairsd (mapv DvI.e kv))[k]? = some x):∃ u:Int×DvI,kv[k]? = some u∧x = [.int .i64 u.1,.agg [.int .i64 u.2.bits,.pointer (some ⟨u.2.ptr,0,none⟩)].toArray]:=by
 unfold pairsd mapv at h
 rw [List.getElem?_map,List.getElem?_map] at h
 cases hu:kv[k]? with
 | none=>rw [hu] at h; cases h
 | some u=>rw [hu] at h; cases h; exact ⟨u,rfl,rfl⟩
theorem mapcF_next {s:Vi} {coll dev:Int} {evs:List (Int×RtE)} {j:Nat} {u:Int×RtE} (h:evs[j]? = some u):mapcF s coll dev (evs.take (j + 1)) = mapcF s coll dev (evs.take j) ++ if u.2.coll == coll then [boundM s dev u.1] else []:=by
 unfold mapcF
 rw [List.take_add_one,h,List.filter_append,List.map_append]
 congr 1
 cases hc:(u.2.coll == coll) <;> simp [hc]
theorem mapcC_next {s:Vi} {coll:Int} {devs:List (Int×DvI)} {k:Nat} {u:Int×DvI} (h:devs[k]? = some u):mapcC s coll (devs.take (k + 1)) = mapcC s coll (devs.take k) ++ mapcF s coll u.1 u.2.evs:=by
 unfold mapcC
 rw [List.take_add_one,h,List.flatMap_append]
 simp
theorem mapc_t (b:Nat) (s:Vi) (c:Cm) (r:Ru) {po:Option Addr} {no co:Nat} (hC:s.colls.length + 1 < NB) (hT:tot s.devs < NC) :
 Tri P F.zzdy [ptr b,cmV c,ruV r po no co] [vitsI b s] (ToldAs b (mapcM s c r.vcpus)):=by
 intro w S hS
 refine zzlD ?_
 unfold zzdy
 have H:=Own.start hS
 refine alc_o H fun b18 wx H=>alc_o H fun b20 wx H=>alc_o H fun b22 wx H=>?_
 repeat (first | refine lIa H ?_ | refine lLa H ?_ | refine lBa H ?_ | refine lPa H ?_ | refine lSa H ?_)
 refine cnd_i (fun h1=>?_) fun h1=>join_o ?_
 · have h1:c.coll≥8:=of_decide_eq_true h1
   have e:mapcM s c r.vcpus = ([],s,183):=by unfold mapcM; rw [if_pos h1]
   rw [e]
   exact told_err (H.dp)
 have h1:¬ c.coll≥8:=of_decide_eq_false h1
 have go:∀ (x:Bool) (wx:World),(x = true↔(c.val = true∧c.tgt≥r.vcpus))→X.Own w S [vitsI b s,row b18 [ptr b] T.t30,row b20 c.cells tCmd] wx →
  zzgj (fun v w'=>∃ L',ToldAs b (mapcM s c r.vcpus) v L'∧X.Own w S L' w') b18 b20 x wx:=by
  intro x wx hx H
  unfold zzgj
  refine cnd_i (fun h2=>?_) fun h2=>join_o ?_
  · have e:mapcM s c r.vcpus = ([],s,271):=by unfold mapcM; rw [if_neg h1,if_pos (hx.1 h2)]
    rw [e]
    exact told_err (H.dp)
  have h2:¬ (c.val = true∧c.tgt≥r.vcpus):=fun hh=>by rw [hx.2 hh] at h2; cases h2
  have e0:mapcM s c r.vcpus = (let s2:Vi:={ s with colls:=if c.val then putK s.colls c.coll c.tgt else takeK s.colls c.coll }
   (mapcC s2 c.coll s2.devs,s2,0)):=by unfold mapcM; rw [if_neg h1,if_neg h2]
  dsimp only at e0
  rw [e0]
  generalize hs2:({ s with colls:=if c.val then putK s.colls c.coll c.tgt else takeK s.colls c.coll }:Vi) = s2
  have hdv:s2.devs = s.devs:=by rw [← hs2]
  have hT2:tot s2.devs < NC:=by rw [hdv]; exact hT
  rw [← hdv]
  have fin:∀ wx,X.Own w S [vitsI b s2,row b18 [ptr b] T.t30,row b20 c.cells tCmd] wx→zzgi (fun v w'=>∃ L',ToldAs b (mapcC s2 c.coll s2.devs,s2,0) v L'∧X.Own w S L' w') b18 b20 wx:=by
   intro wx H
   unfold zzgi
   refine alc_o H fun b29 wx H=>?_
   repeat (first | refine lIa H ?_ | refine lLa H ?_ | refine lBa H ?_ | refine lPa H ?_ | refine lSa H ?_)
   obtain ⟨bd,bc,H⟩:=zzag H (by repeat (first | exact Pick.here | apply Pick.there))
   dsimp only [nn]
   repeat (first | refine lIa H ?_ | refine lLa H ?_ | refine lBa H ?_ | refine lPa H ?_ | refine lSa H ?_)
   have hlen:=(zzjS H (E:=ED) (tb:=tBookD) (b:=bd) (kv:=mapv DvI.e s2.devs) (by repeat (first | exact Pick.here | apply Pick.there))).2
   refine call_o H (all_d bd (mapv DvI.e s2.devs)) (by repeat (first | exact Cut.nil | (apply Cut.cons; (repeat (first | exact Pick.here | apply Pick.there))))) fun vx L' wx hq H=>?_
   obtain ⟨g,hh,p,cc,q,c2,rfl,rfl⟩:=hq
   unfold thrEd at H
   simp only [List.cons_append,List.nil_append] at H
   have H:=H.perm (L1:=[row b (s2.cells bd bc) tVits,bookG ED tBookD bd (mapv DvI.e s2.devs),bookG EI tBookI bc s2.colls,starI (s2.devs.map evI)]) (by repeat (first | exact Cut.nil | (apply Cut.cons; (repeat (first | exact Pick.here | apply Pick.there)))))
   simp only [List.cons_append,List.nil_append] at H
   have H:=zzab H
   refine ⟨_,rfl,?_⟩
   have H:=chs_nil H
   have H:=H.drop (L1:=[chs none 0 [],row b29 [.slice none 0 0] tChanges,vitsI b s2,row b18 [ptr b] T.t30,row b20 c.cells tCmd,row g [.slice p (ks (mapv DvI.e s2.devs)).length cc] tInts,row hh [.slice q (vs (mapv DvI.e s2.devs)).length c2] ED.ta,nums p cc (ks (mapv DvI.e s2.devs)),els ED q c2 (vs (mapv DvI.e s2.devs))]) (by repeat (first | exact Cut.nil | (apply Cut.cons; (repeat (first | exact Pick.here | apply Pick.there)))))
   refine rf_o (L0:=[chs none 0 [],row b29 [.slice none 0 0] tChanges,vitsI b s2,row b18 [ptr b] T.t30,row b20 c.cells tCmd]) (E:=thrEd g hh p cc q c2 (mapv DvI.e s2.devs))
    (fun k L=>∃ (p:Option Addr) (cc:Nat),L = [chs p cc (mapcC s2 c.coll (s2.devs.take k)),row b29 [.slice p (mapcC s2 c.coll (s2.devs.take k)).length cc] tChanges,vitsI b s2,row b18 [ptr b] T.t30,row b20 c.cells tCmd]) (fun c L=>False)
    thrd_enters (thrd_it g hh p cc q c2 (mapv DvI.e s2.devs) hlen) (pairsd_len _) (by unfold thrEd; exact H) ⟨none,0,by simp [mapcC]⟩ ?_ ?_ ?_
   · rintro k x _ F l r2 d wx Q2 hx ⟨p1,c1,rfl⟩ H hgo hdone
     obtain ⟨u,hu,rfl⟩:=pairsd_at hx
     have htk:=tot_take hu
     have hml:=mapcC_len s2 c.coll (s2.devs.take k)
     unfold zzip
     dsimp only [X.b2]
     simp only [List.cons_append,List.nil_append] at H
     refine ⟨_,rfl,_,_,rfl,alc_o H fun b47 wx H=>?_⟩
     refine sta H fun wx H=>?_
     refine alc_o H fun b50 wx H=>?_
     iterate 2 refine sta H fun wx H=>?_
     refine rec_o H (by repeat (first | exact Rep.here | apply Rep.there)) fun wx H=>?_
     repeat (first | refine lIa H ?_ | refine lLa H ?_ | refine lBa H ?_ | refine lPa H ?_ | refine lSa H ?_)
     obtain ⟨bd,bc,H⟩:=zzag H (by repeat (first | exact Pick.here | apply Pick.there))
     have H:=H.perm (L1:=[starI (s2.devs.map evI)]) (by repeat (first | exact Cut.nil | (apply Cut.cons; (repeat (first | exact Pick.here | apply Pick.there)))))
     simp only [List.cons_append,List.nil_append] at H
     have H:=star_open (g:=evI) hu H
     have H:X.Own w S (bookG ER tBookR u.2.ptr u.2.evs :: _) wx:=H
     refine call_o H (all_r u.2.ptr u.2.evs) (by repeat (first | exact Cut.nil | (apply Cut.cons; (repeat (first | exact Pick.here | apply Pick.there))))) fun vx L' wx hq H=>?_
     obtain ⟨g',hh',p',cc',q',c2',rfl,rfl⟩:=hq
     unfold thrEr at H
     simp only [List.cons_append,List.nil_append] at H
     have hel:=(zzjS H (E:=ER) (tb:=tBookR) (b:=u.2.ptr) (kv:=u.2.evs) (by repeat (first | exact Pick.here | apply Pick.there))).2
     have H:=H.perm (L1:=[evI u,starI ((s2.devs.eraseIdx k).map evI)]) (by repeat (first | exact Cut.nil | (apply Cut.cons; (repeat (first | exact Pick.here | apply Pick.there)))))
     simp only [List.cons_append,List.nil_append] at H
     have H:=(star_pick (pick_at (g:=evI) hu)).2 H
     have H:=H.perm (L1:=[row b (s2.cells bd bc) tVits,bookG ED tBookD bd (mapv DvI.e s2.devs),bookG EI tBookI bc s2.colls,starI (s2.devs.map evI)]) (by repeat (first | exact Cut.nil | (apply Cut.cons; (repeat (first | exact Pick.here | apply Pick.there)))))
     simp only [List.cons_append,List.nil_append] at H
     have H:=zzab H
     refine ⟨_,rfl,?_⟩
     generalize hevs:u.2.evs = evs at *
     have H:=H.perm (L1:=[chs p1 c1 (mapcC s2 c.coll (s2.devs.take k)),row b29 [.slice p1 (mapcC s2 c.coll (s2.devs.take k)).length c1] tChanges,vitsI b s2,row b18 [ptr b] T.t30,row b20 c.cells tCmd,row b47 [.int .i64 u.1] tInt,recI l r2 .busy none,defI d,row g' [.slice p' (ks evs).length cc'] tInts,row hh' [.slice q' (vs evs).length c2'] ER.ta,nums p' cc' (ks evs),els ER q' c2' (vs evs)]) (by repeat (first | exact Cut.nil | (apply Cut.cons; (repeat (first | exact Pick.here | apply Pick.there)))))
     simp only [List.cons_append,List.nil_append] at H
     have H:=H.rest (L1:=[row b50 [.int .i64 u.2.bits,.pointer (some ⟨u.2.ptr,0,none⟩)] tDevice]) (by repeat (first | exact Cut.nil | (apply Cut.cons; (repeat (first | exact Pick.here | apply Pick.there)))))
     have H:=H.perm (L1:=[row g' [.slice p' (ks evs).length cc'] tInts,row hh' [.slice q' (vs evs).length c2'] ER.ta,nums p' cc' (ks evs),els ER q' c2' (vs evs)]) (by repeat (first | exact Cut.nil | (apply Cut.cons; (repeat (first | exact Pick.here | apply Pick.there)))))
     have H:=own_comm H
     refine rf_s (L0:=chs p1 c1 (mapcC s2 c.coll (s2.devs.take k)) :: row b29 [.slice p1 (mapcC s2 c.coll (s2.devs.take k)).length c1] tChanges :: vitsI b s2 :: row b18 [ptr b] T.t30 :: row b20 c.cells tCmd :: row b47 [.int .i64 u.1] tInt :: recI l r2 .busy none :: defI d :: (thrEd g hh p cc q c2 (mapv DvI.e s2.devs) ++ F)) (E:=thrEr g' hh' p' cc' q' c2' evs)
      (r0:=r2) (st0:=.busy) (j0:=none) (by simp only [List.cons_append]; exact (by repeat (first | exact Pick.here | apply Pick.there)))
      (fun j L=>∃ (p3:Option Addr) (c3:Nat),L = chs p3 c3 (mapcC s2 c.coll (s2.devs.take k) ++ mapcF s2 c.coll u.1 (evs.take j)) :: row b29 [.slice p3 (mapcC s2 c.coll (s2.devs.take k) ++ mapcF s2 c.coll u.1 (evs.take j)).length c3] tChanges :: vitsI b s2 :: row b18 [ptr b] T.t30 :: row b20 c.cells tCmd :: row b47 [.int .i64 u.1] tInt :: recI l r2 .busy none :: defI d :: (thrEd g hh p cc q c2 (mapv DvI.e s2.devs) ++ F)) (fun c L=>False)
      thrr_enters (thrr_it g' hh' p' cc' q' c2' evs hel) (pairsr_len evs) (by unfold thrEr; exact H) ⟨p1,c1,by simp [mapcF]⟩ ?_ ?_ ?_
     · rintro j x _ F2 l2 r3 wx Q3 hx ⟨p3,c3,rfl⟩ H hgo3 hdone3
       obtain ⟨v,hv,rfl⟩:=pairsr_at hx
       have hj:j < evs.length:=(List.getElem?_eq_some_iff.1 hv).1
       have hfl:=mapcF_len s2 c.coll u.1 (evs.take j)
       rw [List.length_take] at hfl
       unfold zzio
       dsimp only [X.b2]
       simp only [List.cons_append,List.nil_append] at H
       refine ⟨_,rfl,_,_,_,rfl,alc_o H fun b70 wx H=>?_⟩
       iterate 3 refine sta H fun wx H=>?_
       refine rec_o H (by repeat (first | exact Rep.here | apply Rep.there)) fun wx H=>join_o ?_
       have fin3:∀ (p4:Option Addr) (c4:Nat) (wx:World),X.Own w S (recI l2 r3 .busy none :: chs p4 c4 (mapcC s2 c.coll (s2.devs.take k) ++ mapcF s2 c.coll u.1 (evs.take (j + 1))) :: row b29 [.slice p4 (mapcC s2 c.coll (s2.devs.take k) ++ mapcF s2 c.coll u.1 (evs.take (j + 1))).length c4] tChanges :: vitsI b s2 :: row b18 [ptr b] T.t30 :: row b20 c.cells tCmd :: row b47 [.int .i64 u.1] tInt :: recI l r2 .busy none :: defI d :: ((thrEd g hh p cc q c2 (mapv DvI.e s2.devs) ++ F) ++ (thrEr g' hh' p' cc' q' c2' evs ++ F2))) wx →
        zzgh l2 r3 Q3 wx:=by
        intro p4 c4 wx H
        unfold zzgh
        refine rec_o H .here fun wx H=>hgo3 _ wx ⟨p4,c4,rfl⟩ ?_
        exact H
       rw [mapcF_next hv,← List.append_assoc] at fin3
       refine ldI_o H .here (by rfl) ?_
       repeat (first | refine lIa H ?_ | refine lLa H ?_ | refine lBa H ?_ | refine lPa H ?_ | refine lSa H ?_)
       refine cnd_i (fun hc=>?_) fun hc=>?_
       · rw [if_pos hc] at fin3
         refine drw_o H fun wx H=>?_
         repeat (first | refine lIa H ?_ | refine lLa H ?_ | refine lBa H ?_ | refine lPa H ?_ | refine lSa H ?_)
         refine call_p H (bound_t b s2 u.1 v.1) (by repeat (first | exact Cut.nil | (apply Cut.cons; (repeat (first | exact Pick.here | apply Pick.there))))) fun wx H=>?_
         refine ⟨_,_,_,_,_,_,rfl,?_,alc_o H fun b98 wx H=>⟨?_,?_⟩⟩
         · repeat (first | refine lIa H ?_ | refine lLa H ?_ | refine lBa H ?_ | refine lPa H ?_ | refine lSa H ?_)
           rfl
         · repeat (first | refine lIa H ?_ | refine lLa H ?_ | refine lBa H ?_ | refine lPa H ?_ | refine lSa H ?_)
           rfl
         refine app_ch (x:=boundM s2 u.1 v.1) H (xs:=mapcC s2 c.coll (s2.devs.take k) ++ mapcF s2 c.coll u.1 (evs.take j)) (by repeat (first | exact Pick.here | apply Pick.there)) (by repeat (first | exact Pick.here | apply Pick.there)) (by rw [List.length_append]; omega) fun p4 c4 wx H=>?_
         refine sta H fun wx H=>?_
         have H:=H.rest (L1:=[row b98 (boundM s2 u.1 v.1).cells tChange]) (by repeat (first | exact Cut.nil | (apply Cut.cons; (repeat (first | exact Pick.here | apply Pick.there)))))
         have H:=H.rest (L1:=[row b70 [.int .i64 v.2.num,.int .i64 v.2.coll,.bool v.2.val] tRoute]) (by repeat (first | exact Cut.nil | (apply Cut.cons; (repeat (first | exact Pick.here | apply Pick.there)))))
         exact fin3 p4 c4 wx (H.perm (L1:=[recI l2 r3 .busy none,chs p4 c4 (mapcC s2 c.coll (s2.devs.take k) ++ mapcF s2 c.coll u.1 (evs.take j) ++ [boundM s2 u.1 v.1])]) (by repeat (first | exact Cut.nil | (apply Cut.cons; (repeat (first | exact Pick.here | apply Pick.there))))))
       · rw [hc] at fin3
         simp only [Bool.false_eq_true,if_false,List.append_nil] at fin3
         exact fin3 p3 c3 wx (H.rest (L1:=[row b70 [.int .i64 v.2.num,.int .i64 v.2.coll,.bool v.2.val] tRoute]) (by repeat (first | exact Cut.nil | (apply Cut.cons; (repeat (first | exact Pick.here | apply Pick.there))))))
     · rintro _ wx ⟨p3,c3,rfl⟩ H
       have hn:evs.take (pairsr evs).length = evs:=List.take_of_length_le (by simp [pairsr])
       rw [hn] at H
       dsimp only [jmpX]
       have H:=own_left H
       refine rec_o H (by repeat (first | exact Rep.here | apply Rep.there)) fun wx H=>hgo [chs p3 c3 (mapcC s2 c.coll (s2.devs.take (k + 1))),row b29 [.slice p3 (mapcC s2 c.coll (s2.devs.take (k + 1))).length c3] tChanges,vitsI b s2,row b18 [ptr b] T.t30,row b20 c.cells tCmd] wx ⟨p3,c3,rfl⟩ ?_
       rw [mapcC_next hu,hevs]
       have H:=H.rest (L1:=[row b47 [.int .i64 u.1] tInt]) (by repeat (first | exact Cut.nil | (apply Cut.cons; (repeat (first | exact Pick.here | apply Pick.there)))))
       exact H.perm (L1:=[recI l r2 .ready none,defI d]) (by repeat (first | exact Cut.nil | (apply Cut.cons; (repeat (first | exact Pick.here | apply Pick.there)))))
     · intro c L w h; exact h.elim
   · rintro d _ wx ⟨p1,c1,rfl⟩ H
     have hn:s2.devs.take (pairsd (mapv DvI.e s2.devs)).length = s2.devs:=List.take_of_length_le (by simp [pairsd,mapv])
     rw [hn] at H
     dsimp only [jmpX]
     simp only [List.cons_append,List.nil_append] at H
     repeat (first | refine lIa H ?_ | refine lLa H ?_ | refine lBa H ?_ | refine lPa H ?_ | refine lSa H ?_)
     refine take_o H .here fun wx H=>?_
     exact ⟨_,⟨p1,c1,rfl,rfl⟩,H.dp⟩
   · intro d c L w h; exact h.elim
  repeat (first | refine lIa H ?_ | refine lLa H ?_ | refine lBa H ?_ | refine lPa H ?_ | refine lSa H ?_)
  refine cnd_i (fun hv=>?_) fun hv=>?_
  · refine drw_o H fun wx H=>?_
    repeat (first | refine lIa H ?_ | refine lLa H ?_ | refine lBa H ?_ | refine lPa H ?_ | refine lSa H ?_)
    obtain ⟨bd,bc,H⟩:=zzag H (by repeat (first | exact Pick.here | apply Pick.there))
    dsimp only [nn]
    repeat (first | refine lIa H ?_ | refine lLa H ?_ | refine lBa H ?_ | refine lPa H ?_ | refine lSa H ?_)
    refine call_o H (put_i bc s.colls c.coll c.tgt hC) (by repeat (first | exact Cut.nil | (apply Cut.cons; (repeat (first | exact Pick.here | apply Pick.there))))) fun vx L' wx hq H=>?_
    obtain ⟨rfl,rfl⟩:=hq
    simp only [List.cons_append,List.nil_append] at H
    refine ⟨_,rfl,fin _ ?_⟩
    have H:=H.perm (L1:=[row b (s2.cells bd bc) tVits,bookG ED tBookD bd (mapv DvI.e s2.devs),bookG EI tBookI bc s2.colls,starI (s2.devs.map evI)]) (by rw [← hs2,hv]; exact (by repeat (first | exact Cut.nil | (apply Cut.cons; (repeat (first | exact Pick.here | apply Pick.there))))))
    exact (zzab H).dp
  · refine drw_o H fun wx H=>?_
    repeat (first | refine lIa H ?_ | refine lLa H ?_ | refine lBa H ?_ | refine lPa H ?_ | refine lSa H ?_)
    obtain ⟨bd,bc,H⟩:=zzag H (by repeat (first | exact Pick.here | apply Pick.there))
    dsimp only [nn]
    repeat (first | refine lIa H ?_ | refine lLa H ?_ | refine lBa H ?_ | refine lPa H ?_ | refine lSa H ?_)
    refine call_o H (take_i bc s.colls c.coll) (by repeat (first | exact Cut.nil | (apply Cut.cons; (repeat (first | exact Pick.here | apply Pick.there))))) fun vx L' wx hq H=>?_
    obtain ⟨rfl,rfl⟩:=hq
    simp only [List.cons_append,List.nil_append] at H
    refine ⟨_,_,rfl,fin _ ?_⟩
    have H:=H.perm (L1:=[row b (s2.cells bd bc) tVits,bookG ED tBookD bd (mapv DvI.e s2.devs),bookG EI tBookI bc s2.colls,starI (s2.devs.map evI)]) (by rw [← hs2,hv]; exact (by repeat (first | exact Cut.nil | (apply Cut.cons; (repeat (first | exact Pick.here | apply Pick.there))))))
    exact (zzab H).dp
 repeat (first | refine lIa H ?_ | refine lLa H ?_ | refine lBa H ?_ | refine lPa H ?_ | refine lSa H ?_)
 refine cnd_i (fun hv=>?_) fun hv=>?_
 · repeat (first | refine lIa H ?_ | refine lLa H ?_ | refine lBa H ?_ | refine lPa H ?_ | refine lSa H ?_)
   exact go _ _ (by rw [hv]; simp) (H.dp)
 · exact go false _ (by simp [hv]) (H.dp)
theorem index_t (i:It) {p:Option Addr} {c:Nat} {xs:List Int} (hi:∀ w S,i.h w S→Sl w p (i64s xs)) (hl:xs.length < 9223372036854775807) (m:Int):Tri P F.zzbh [.slice p xs.length c,.int .i64 m] [i] fun v L'=>(∃ n:Int,v = .int .i64 n∧(0≤n↔m∈xs))∧L' = [i]:=by
 intro w S hS
 refine zzi1 ?_
 unfold zzbh
 have H:=Own.start hS
 refine loop_o (fun (st:Int) L=>∃ k:Nat,k≤xs.length∧st = k∧m ∉ xs.take k∧L = [i]) (fun (st:Int)=>((xs.length:Int) - st).toNat) H ⟨0,by omega,rfl,by simp,rfl⟩ ?_
 rintro _ _ wx ⟨k,hk,rfl,hno,rfl⟩ H
 unfold zzfH
 refine cnd_i (fun h=>?_) fun h=>?_
 · have h:=of_decide_eq_true h
   have hk':k < xs.length:=by omega
   refine ⟨⟨by omega,h⟩,?_⟩
   rw [Int.toNat_natCast]
   obtain ⟨a,rfl,hcell⟩:=H.rd (i:=i) (by repeat (first | exact Pick.here | apply Pick.there)) hi k _ (i64s_get hk')
   refine ⟨_,by rw [Nat.mul_one]; exact hcell,cnd_i (fun he=>?_) fun he=>?_⟩
   · have he:=eq_of_beq he
     refine ⟨_,⟨⟨_,rfl,?_⟩,rfl⟩,H⟩
     have:m∈xs:=by rw [he]; exact List.getElem_mem _
     exact ⟨fun _=>this,fun _=>by omega⟩
   · have he:m≠xs[k]:=by simpa using he
     rw [W_id (by omega) (by omega)]
     refine ⟨⟨_,⟨k + 1,by omega,by push_cast; rfl,?_,rfl⟩,H⟩,by omega⟩
     rw [List.take_succ_eq_append_getElem hk']
     simp only [List.mem_append,List.mem_singleton,not_or]
     exact ⟨hno,he⟩
 · have h:=of_decide_eq_false h
   rw [List.take_of_length_le (by omega)] at hno
   refine ⟨_,⟨⟨_,rfl,?_⟩,rfl⟩,H⟩
   exact ⟨fun h=>by omega,fun h=>absurd h hno⟩
theorem contains_t (i:It) {p:Option Addr} {c:Nat} {xs:List Int} (hi:∀ w S,i.h w S→Sl w p (i64s xs)) (hl:xs.length < 9223372036854775807) (m:Int):Tri P F.zzaO [.slice p xs.length c,.int .i64 m] [i] fun v L'=>v = .bool (decide (m∈xs))∧L' = [i]:=by
 intro w S hS
 refine zzhU ?_
 unfold zzaO
 have H:=Own.start hS
 refine call_oa H (index_t i hi hl m) fun vx L' wx hq H=>?_
 obtain ⟨⟨n,rfl,hn⟩,rfl⟩:=hq
 refine ⟨_,rfl,_,⟨?_,rfl⟩,H⟩
 rw [decide_eq_decide.2 hn]
def namesB (op:Int):Bool:=decide (op≠9∧op≠13∧op≠14∧op≠5)
def vdoM (s:Vi) (c:Cm) (r:Ru) (owned:List Int) (p:Nat):List Ch×Vi×Int :=
 if encM c = none then ([],s,160)
 else if namesB c.op = true∧c.dev ∉ owned then ([],s,240)
 else if c.op = 8 then mapdM s c r.s p
 else if c.op = 9 then mapcM s c r.vcpus
 else if c.op = 10 then maptiM s c c.num r.lpis
 else if c.op = 11 then maptiM s c (IntKind.i64.wrap (8192 + c.ev)) r.lpis
 else if c.op = 1 then moviM s c
 else if c.op = 13 then (if (goesM s.colls c.coll).2≠0 then ([],s,(goesM s.colls c.coll).2) else ([⟨8,0,0,0,0,0⟩],s,0))
 else if c.op = 14∨c.op = 5 then (if c.tgt≥r.vcpus∨c.num≥r.vcpus then ([],s,271) else if c.op = 5 then ([],s,0) else ([⟨6,0,0,0,c.tgt,c.num⟩],s,0))
 else eventM s c
structure Fits (s:Vi) (N:Nat):Prop where
 size:s.devs.length + tot s.devs + s.colls.length≤N
 bits:∀ u∈s.devs,0≤u.2.bits
theorem tot_mem {devs:List (Int×DvI)} {u:Int×DvI} (h:u∈devs):u.2.evs.length≤tot devs:=by
 obtain ⟨k,hk⟩:=List.mem_iff_getElem?.1 h
 have:=tot_take hk
 omega
theorem dev_none {s:Vi} {dev:Int} (h:hasK s.devs dev = false):s.dev dev = dvi0:=by unfold Vi.dev getK; rw [h]; rfl
theorem Fits.evs {s:Vi} {N:Nat} (h:Fits s N) (dev:Int):(s.dev dev).evs.length≤N:=by
 cases hk:hasK s.devs dev
 · rw [dev_none hk]; exact Nat.zero_le _
 · have h1:=tot_mem (List.mem_of_getElem? (dev_at hk))
   have h2:=h.size
   dsimp only at h1
   omega
theorem Fits.bit {s:Vi} {N:Nat} (h:Fits s N) (dev:Int):0≤(s.dev dev).bits:=by
 cases hk:hasK s.devs dev
 · rw [dev_none hk]; exact Int.le_refl _
 · exact h.bits _ (List.mem_of_getElem? (dev_at hk))
theorem told_i {b:Nat} {M:List Ch×Vi×Int} {v:Value} {L' F:List It} {w w0:World} {S0:Nat→Prop} {i:It} (h:ToldAs b M v L') (H:X.Own w0 S0 (L' ++ F) w) (hp:∃ F',Cut F [i] F'):∃ p c,v = .tuple [.slice p M.1.length c,.int .i64 M.2.2].toArray∧X.Own w0 S0 [chs p c M.1,vitsI b M.2.1,i] w:=by
 obtain ⟨p,c,rfl,rfl⟩:=h
 obtain ⟨F',hF⟩:=hp
 refine ⟨p,c,rfl,?_⟩
 have:Cut ([chs p c M.1,vitsI b M.2.1] ++ F) [chs p c M.1,vitsI b M.2.1,i] F':=.cons .here (.cons .here hF)
 exact H.drop this
theorem VDo_t (b:Nat) (s:Vi) (c:Cm) (r:Ru) (i:It) {po:Option Addr} {co:Nat} {owned:List Int} {N:Nat} (hi:∀ w S,i.h w S→Sl w po (i64s owned)) (hl:owned.length < 9223372036854775807) (hF:Fits s N) (hN:N < 1099511627776) :
 Tri P F.zzaz [ptr b,cmV c,ruV r po owned.length co] [vitsI b s,i] fun v L'=>∃ p q cc,v = .tuple [.slice q (vdoM s c r owned p).1.length cc,.int .i64 (vdoM s c r owned p).2.2].toArray∧L' = [chs q cc (vdoM s c r owned p).1,vitsI b (vdoM s c r owned p).2.1,i]:=by
 intro w S hS
 refine zzl4 ?_
 unfold zzaz
 have H:=Own.start hS
 have hsz:=hF.size
 have done:∀ (wx:World) (p:Nat) (M:List Ch×Vi×Int) (v:Value),vdoM s c r owned p = M→(∃ q cc,v = .tuple [.slice q M.1.length cc,.int .i64 M.2.2].toArray∧X.Own w S [chs q cc M.1,vitsI b M.2.1,i] wx) →
  ∃ L',(∃ p q cc,v = .tuple [.slice q (vdoM s c r owned p).1.length cc,.int .i64 (vdoM s c r owned p).2.2].toArray∧L' = [chs q cc (vdoM s c r owned p).1,vitsI b (vdoM s c r owned p).2.1,i])∧X.Own w S L' wx:=by
  rintro wx p M v h ⟨q,cc,rfl,H⟩
  refine ⟨_,⟨p,q,cc,?_,rfl⟩,?_⟩
  · rw [h]
  · rw [h]; exact H
 have err:∀ (wx:World) (e:Int),vdoM s c r owned 0 = ([],s,e)→X.Own w S [vitsI b s,i] wx→∃ L',(∃ p q cc,(.tuple [.slice none 0 0,.int .i64 e].toArray:Value) = .tuple [.slice q (vdoM s c r owned p).1.length cc,.int .i64 (vdoM s c r owned p).2.2].toArray∧L' = [chs q cc (vdoM s c r owned p).1,vitsI b (vdoM s c r owned p).2.1,i])∧X.Own w S L' wx :=
  fun wx e h H=>done wx 0 _ _ h ⟨none,0,rfl,chs_nil H⟩
 have one:∀ (wx:World) (b1:Nat) (x:Ch) (F:List It),vdoM s c r owned 0 = ([x],s,0)→X.Own w S (row b1 x.cells tChange :: [vitsI b s,i]) wx→∃ L',(∃ p q cc,(.tuple [.slice (some ⟨b1,0,none⟩) 1 1,.int .i64 0].toArray:Value) = .tuple [.slice q (vdoM s c r owned p).1.length cc,.int .i64 (vdoM s c r owned p).2.2].toArray∧L' = [chs q cc (vdoM s c r owned p).1,vitsI b (vdoM s c r owned p).2.1,i])∧X.Own w S L' wx :=
  fun wx b1 x F h H=>done wx 0 _ _ h ⟨some ⟨b1,0,none⟩,1,rfl,els_shut (E:=EC) (c:=1) (xs:=[x]) H rfl rfl (by simp) (by unfold maxLen; omega) rfl⟩
 refine alc_o H fun b18 wx H=>alc_o H fun b20 wx H=>?_
 repeat (first | refine lIa H ?_ | refine lLa H ?_ | refine lBa H ?_ | refine lPa H ?_ | refine lSa H ?_)
 refine call_pa H (Encode_t c) fun wx H=>?_
 cases he:encM c with
 | none =>
  have e:encV c = .tuple [.agg [.int .u64 0,.int .u64 0,.int .u64 0,.int .u64 0].toArray,.int .i64 160].toArray:=by unfold encV; rw [he]; rfl
  rw [e]
  refine ⟨_,_,_,_,_,rfl,alc_o H fun b38 wx H=>?_⟩
  iterate 4 refine sta H fun wx H=>?_
  exact cnd_i (fun _=>err _ 160 (by unfold vdoM; rw [if_pos he]) (H.dp)) (fun h=>by cases h)
 | some ws =>
  have hne:¬ encM c = none:=by rw [he]; simp
  obtain ⟨hkn,hfl,-,-,-⟩:=encM_some he
  obtain ⟨x0,x1,x2,x3,rfl⟩:=four (enc_range he).1
  have e:encV c = .tuple [.agg [.int .u64 x0,.int .u64 x1,.int .u64 x2,.int .u64 x3].toArray,.int .i64 0].toArray:=by unfold encV; rw [he]; rfl
  rw [e]
  refine ⟨_,_,_,_,_,rfl,alc_o H fun b38 wx H=>?_⟩
  iterate 4 refine sta H fun wx H=>?_
  refine cnd_i (fun h=>by cases h) fun _=>join_o ?_
  have hbits:0≤c.bits:=(hfl 5 (by omega)).1
  have go:∀ (x:Bool) (wx:World),x = namesB c.op→X.Own w S [row b20 [.int .i64 r.a,.int .i64 r.s,.int .i64 r.vcpus,.int .i64 r.lpis,.slice po owned.length co] tRules,row b18 c.cells tCmd,vitsI b s,i] wx →
   zzhg (some ⟨b,0,none⟩) (fun v w'=>∃ L',(∃ p q cc,v = .tuple [.slice q (vdoM s c r owned p).1.length cc,.int .i64 (vdoM s c r owned p).2.2].toArray∧L' = [chs q cc (vdoM s c r owned p).1,vitsI b (vdoM s c r owned p).2.1,i])∧X.Own w S L' w') b18 b20 x wx:=by
   rintro x wx rfl H
   unfold zzhg
   refine join_o ?_
   have go2:∀ (x:Bool) (wx:World),(x = true↔namesB c.op = true∧c.dev ∉ owned)→X.Own w S [row b20 [.int .i64 r.a,.int .i64 r.s,.int .i64 r.vcpus,.int .i64 r.lpis,.slice po owned.length co] tRules,row b18 c.cells tCmd,vitsI b s,i] wx →
    zzhf (some ⟨b,0,none⟩) (fun v w'=>∃ L',(∃ p q cc,v = .tuple [.slice q (vdoM s c r owned p).1.length cc,.int .i64 (vdoM s c r owned p).2.2].toArray∧L' = [chs q cc (vdoM s c r owned p).1,vitsI b (vdoM s c r owned p).2.1,i])∧X.Own w S L' w') b18 b20 x wx:=by
    intro x wx hx H
    unfold zzhf
    refine cnd_i (fun h1=>?_) fun h1=>?_
    · exact err _ 240 (by unfold vdoM; rw [if_neg hne,if_pos (hx.1 h1)]) (H.dp)
    have h1:¬ (namesB c.op = true∧c.dev ∉ owned):=fun hh=>by rw [hx.2 hh] at h1; cases h1
    have pre:∀ (p:Nat) (M:List Ch×Vi×Int),(if c.op = 8 then mapdM s c r.s p
     else if c.op = 9 then mapcM s c r.vcpus
     else if c.op = 10 then maptiM s c c.num r.lpis
     else if c.op = 11 then maptiM s c (IntKind.i64.wrap (8192 + c.ev)) r.lpis
     else if c.op = 1 then moviM s c
     else if c.op = 13 then (if (goesM s.colls c.coll).2≠0 then ([],s,(goesM s.colls c.coll).2) else ([⟨8,0,0,0,0,0⟩],s,0))
     else if c.op = 14∨c.op = 5 then (if c.tgt≥r.vcpus∨c.num≥r.vcpus then ([],s,271) else if c.op = 5 then ([],s,0) else ([⟨6,0,0,0,c.tgt,c.num⟩],s,0))
     else eventM s c) = M→vdoM s c r owned p = M:=by
     intro p M hM; unfold vdoM; rw [if_neg hne,if_neg h1]; exact hM
    repeat (first | refine lIa H ?_ | refine lLa H ?_ | refine lBa H ?_ | refine lPa H ?_ | refine lSa H ?_)
    refine cnd_i (fun h2=>?_) fun h2=>?_
    · have h2:c.op = 8:=by simpa using h2
      repeat (first | refine lIa H ?_ | refine lLa H ?_ | refine lBa H ?_ | refine lPa H ?_ | refine lSa H ?_)
      refine call_o H (mapd_t b s c r hbits (by have:=hF.evs c.dev; omega) (by unfold NB; omega)) (by repeat (first | exact Cut.nil | (apply Cut.cons; (repeat (first | exact Pick.here | apply Pick.there))))) fun vx L' wx hq H=>?_
      obtain ⟨p,hq⟩:=hq
      obtain ⟨q,cc,rfl,H⟩:=told_i hq H (i:=i) ⟨_,(by repeat (first | exact Cut.nil | (apply Cut.cons; (repeat (first | exact Pick.here | apply Pick.there)))))⟩
      exact ⟨_,_,_,_,rfl,done wx p _ _ (pre p _ (by rw [if_pos h2])) ⟨q,cc,rfl,H⟩⟩
    have h2:c.op≠8:=by simpa using h2
    refine cnd_i (fun h3=>?_) fun h3=>?_
    · have h3:c.op = 9:=by simpa using h3
      repeat (first | refine lIa H ?_ | refine lLa H ?_ | refine lBa H ?_ | refine lPa H ?_ | refine lSa H ?_)
      refine call_o H (mapc_t b s c r (by unfold NB; omega) (by unfold NC; omega)) (by repeat (first | exact Cut.nil | (apply Cut.cons; (repeat (first | exact Pick.here | apply Pick.there))))) fun vx L' wx hq H=>?_
      obtain ⟨q,cc,rfl,H⟩:=told_i hq H (i:=i) ⟨_,(by repeat (first | exact Cut.nil | (apply Cut.cons; (repeat (first | exact Pick.here | apply Pick.there)))))⟩
      exact ⟨_,_,_,_,rfl,done wx 0 _ _ (pre 0 _ (by rw [if_neg h2,if_pos h3])) ⟨q,cc,rfl,H⟩⟩
    have h3:c.op≠9:=by simpa using h3
    refine cnd_i (fun h4=>?_) fun h4=>?_
    · have h4:c.op = 10:=by simpa using h4
      repeat (first | refine lIa H ?_ | refine lLa H ?_ | refine lBa H ?_ | refine lPa H ?_ | refine lSa H ?_)
      refine call_o H (mapti_t b s c c.num r (hF.bit _) (by have:=hF.evs c.dev; unfold NB; omega)) (by repeat (first | exact Cut.nil | (apply Cut.cons; (repeat (first | exact Pick.here | apply Pick.there))))) fun vx L' wx hq H=>?_
      obtain ⟨q,cc,rfl,H⟩:=told_i hq H (i:=i) ⟨_,(by repeat (first | exact Cut.nil | (apply Cut.cons; (repeat (first | exact Pick.here | apply Pick.there)))))⟩
      exact ⟨_,_,_,_,rfl,done wx 0 _ _ (pre 0 _ (by rw [if_neg h2,if_neg h3,if_pos h4])) ⟨q,cc,rfl,H⟩⟩
    have h4:c.op≠10:=by simpa using h4
    refine cnd_i (fun h5=>?_) fun h5=>?_
    · have h5:c.op = 11:=by simpa using h5
      repeat (first | refine lIa H ?_ | refine lLa H ?_ | refine lBa H ?_ | refine lPa H ?_ | refine lSa H ?_)
      refine call_o H (mapti_t b s c (IntKind.i64.wrap (8192 + c.ev)) r (hF.bit _) (by have:=hF.evs c.dev; unfold NB; omega)) (by repeat (first | exact Cut.nil | (apply Cut.cons; (repeat (first | exact Pick.here | apply Pick.there))))) fun vx L' wx hq H=>?_
      obtain ⟨q,cc,rfl,H⟩:=told_i hq H (i:=i) ⟨_,(by repeat (first | exact Cut.nil | (apply Cut.cons; (repeat (first | exact Pick.here | apply Pick.there)))))⟩
      exact ⟨_,_,_,_,rfl,done wx 0 _ _ (pre 0 _ (by rw [if_neg h2,if_neg h3,if_neg h4,if_pos h5])) ⟨q,cc,rfl,H⟩⟩
    have h5:c.op≠11:=by simpa using h5
    refine cnd_i (fun h6=>?_) fun h6=>?_
    · have h6:c.op = 1:=by simpa using h6
      repeat (first | refine lIa H ?_ | refine lLa H ?_ | refine lBa H ?_ | refine lPa H ?_ | refine lSa H ?_)
      refine call_o H (movi_t b s c (by have:=hF.evs c.dev; unfold NB; omega)) (by repeat (first | exact Cut.nil | (apply Cut.cons; (repeat (first | exact Pick.here | apply Pick.there))))) fun vx L' wx hq H=>?_
      obtain ⟨q,cc,rfl,H⟩:=told_i hq H (i:=i) ⟨_,(by repeat (first | exact Cut.nil | (apply Cut.cons; (repeat (first | exact Pick.here | apply Pick.there)))))⟩
      exact ⟨_,_,_,_,rfl,done wx 0 _ _ (pre 0 _ (by rw [if_neg h2,if_neg h3,if_neg h4,if_neg h5,if_pos h6])) ⟨q,cc,rfl,H⟩⟩
    have h6:c.op≠1:=by simpa using h6
    refine cnd_i (fun h7=>?_) fun h7=>?_
    · have h7:c.op = 13:=by simpa using h7
      repeat (first | refine lIa H ?_ | refine lLa H ?_ | refine lBa H ?_ | refine lPa H ?_ | refine lSa H ?_)
      refine call_pa H (goes_t b s c.coll) fun wx H=>?_
      refine ⟨_,_,rfl,cnd_i (fun h8=>?_) fun h8=>?_⟩
      · have h8:(goesM s.colls c.coll).2≠0:=by simpa using h8
        exact err _ _ (pre 0 _ (by rw [if_neg h2,if_neg h3,if_neg h4,if_neg h5,if_neg h6,if_pos h7,if_pos h8])) (H.dp)
      · have h8:¬ (goesM s.colls c.coll).2≠0:=by simpa using h8
        refine alc_o H fun b161 wx H=>?_
        exact one _ b161 ⟨8,0,0,0,0,0⟩ [] (pre 0 _ (by rw [if_neg h2,if_neg h3,if_neg h4,if_neg h5,if_neg h6,if_pos h7,if_neg h8])) (H.dp)
    have h7:c.op≠13:=by simpa using h7
    refine join_o ?_
    have go3:∀ (x:Bool),(x = true↔(c.op = 14∨c.op = 5))→zzhe (some ⟨b,0,none⟩) (fun v w'=>∃ L',(∃ p q cc,v = .tuple [.slice q (vdoM s c r owned p).1.length cc,.int .i64 (vdoM s c r owned p).2.2].toArray∧L' = [chs q cc (vdoM s c r owned p).1,vitsI b (vdoM s c r owned p).2.1,i])∧X.Own w S L' w') b18 b20 x wx:=by
     intro x hx
     unfold zzhe
     refine cnd_i (fun h8=>join_o ?_) fun h8=>?_
     · have h8:=hx.1 h8
       have go4:∀ (y:Bool),(y = true↔(c.tgt≥r.vcpus∨c.num≥r.vcpus))→zzhd (fun v w'=>∃ L',(∃ p q cc,v = .tuple [.slice q (vdoM s c r owned p).1.length cc,.int .i64 (vdoM s c r owned p).2.2].toArray∧L' = [chs q cc (vdoM s c r owned p).1,vitsI b (vdoM s c r owned p).2.1,i])∧X.Own w S L' w') b18 y wx:=by
        intro y hy
        unfold zzhd
        refine cnd_i (fun h9=>?_) fun h9=>?_
        · exact err _ 271 (pre 0 _ (by rw [if_neg h2,if_neg h3,if_neg h4,if_neg h5,if_neg h6,if_neg h7,if_pos h8,if_pos (hy.1 h9)])) (H.dp)
        have h9:¬ (c.tgt≥r.vcpus∨c.num≥r.vcpus):=fun hh=>by rw [hy.2 hh] at h9; cases h9
        repeat (first | refine lIa H ?_ | refine lLa H ?_ | refine lBa H ?_ | refine lPa H ?_ | refine lSa H ?_)
        refine cnd_i (fun h10=>?_) fun h10=>?_
        · have h10:c.op = 5:=by simpa using h10
          exact err _ 0 (pre 0 _ (by rw [if_neg h2,if_neg h3,if_neg h4,if_neg h5,if_neg h6,if_neg h7,if_pos h8,if_neg h9,if_pos h10])) (H.dp)
        · have h10:c.op≠5:=by simpa using h10
          repeat (first | refine lIa H ?_ | refine lLa H ?_ | refine lBa H ?_ | refine lPa H ?_ | refine lSa H ?_)
          refine alc_o H fun b172 wx H=>?_
          exact one _ b172 ⟨6,0,0,0,c.tgt,c.num⟩ [] (pre 0 _ (by rw [if_neg h2,if_neg h3,if_neg h4,if_neg h5,if_neg h6,if_neg h7,if_pos h8,if_neg h9,if_neg h10])) (H.dp)
       repeat (first | refine lIa H ?_ | refine lLa H ?_ | refine lBa H ?_ | refine lPa H ?_ | refine lSa H ?_)
       refine cnd_i (fun h9=>?_) fun h9=>?_
       · exact go4 true (by simp [of_decide_eq_true h9])
       · have h9:=of_decide_eq_false h9
         repeat (first | refine lIa H ?_ | refine lLa H ?_ | refine lBa H ?_ | refine lPa H ?_ | refine lSa H ?_)
         exact go4 _ (by simp [h9])
     · have h8:¬ (c.op = 14∨c.op = 5):=fun hh=>by rw [hx.2 hh] at h8; cases h8
       repeat (first | refine lIa H ?_ | refine lLa H ?_ | refine lBa H ?_ | refine lPa H ?_ | refine lSa H ?_)
       refine call_o H (event_t b s c) (by repeat (first | exact Cut.nil | (apply Cut.cons; (repeat (first | exact Pick.here | apply Pick.there))))) fun vx L' wx hq H=>?_
       obtain ⟨q,cc,rfl,H⟩:=told_i hq H (i:=i) ⟨_,(by repeat (first | exact Cut.nil | (apply Cut.cons; (repeat (first | exact Pick.here | apply Pick.there)))))⟩
       exact ⟨_,_,_,_,rfl,done wx 0 _ _ (pre 0 _ (by rw [if_neg h2,if_neg h3,if_neg h4,if_neg h5,if_neg h6,if_neg h7,if_neg h8])) ⟨q,cc,rfl,H⟩⟩
    refine cnd_i (fun h8=>?_) fun h8=>?_
    · exact go3 _ (by
                      have:c.op = 14:=by simpa using h8
                      simp [this])
    · have h8:c.op≠14:=by simpa using h8
      exact go3 _ (by simp [h8])
   refine cnd_i (fun h1=>?_) fun h1=>?_
   · repeat (first | refine lIa H ?_ | refine lLa H ?_ | refine lBa H ?_ | refine lPa H ?_ | refine lSa H ?_)
     refine call_p H (contains_t i hi hl c.dev) (by repeat (first | exact Cut.nil | (apply Cut.cons; (repeat (first | exact Pick.here | apply Pick.there))))) fun wx H=>?_
     exact ⟨_,rfl,go2 _ _ (by rw [h1]; simp) (H.dp)⟩
   · exact go2 _ _ (by rw [h1]; simp) (H.dp)
  have hn:∀ x:Bool,(x = true↔(c.op≠9∧c.op≠13∧c.op≠14∧c.op≠5))→x = namesB c.op:=by
   intro x hx
   unfold namesB
   cases x
   · symm
     rw [decide_eq_false_iff_not]
     exact fun h=>by have:=hx.2 h; cases this
   · symm
     rw [decide_eq_true_eq]
     exact hx.1 rfl
  repeat (first | refine lIa H ?_ | refine lLa H ?_ | refine lBa H ?_ | refine lPa H ?_ | refine lSa H ?_)
  refine cnd_i (fun h1=>?_) fun h1=>?_
  · have h1:c.op≠9:=by simpa using h1
    repeat (first | refine lIa H ?_ | refine lLa H ?_ | refine lBa H ?_ | refine lPa H ?_ | refine lSa H ?_)
    refine cnd_i (fun h2=>?_) fun h2=>?_
    · have h2:c.op≠13:=by simpa using h2
      repeat (first | refine lIa H ?_ | refine lLa H ?_ | refine lBa H ?_ | refine lPa H ?_ | refine lSa H ?_)
      refine cnd_i (fun h3=>?_) fun h3=>?_
      · have h3:c.op≠14:=by simpa using h3
        repeat (first | refine lIa H ?_ | refine lLa H ?_ | refine lBa H ?_ | refine lPa H ?_ | refine lSa H ?_)
        exact go _ _ (hn _ (by simp [h1,h2,h3])) (H.dp)
      · have h3:c.op = 14:=by simpa using h3
        exact go _ _ (hn _ (by simp [h3])) (H.dp)
    · have h2:c.op = 13:=by simpa using h2
      exact go _ _ (hn _ (by simp [h2])) (H.dp)
  · have h1:c.op = 9:=by simpa using h1
    exact go _ _ (hn _ (by simp [h1])) (H.dp)
open Go X
abbrev tRow:TypeId:=T.t210
abbrev tRows:TypeId:=T.t167
theorem appRows:appB P tRows tRow 7 56 = true:=by kernel_rfl
theorem zeroRow:zeroC P tRow = some [.int .i64 0,.int .i64 0,.int .i64 0,.int .i64 0,.int .i64 0,.int .i64 0,.int .i64 0]:=by kernel_rfl
abbrev tPlace:TypeId:=T.t100
open Go Go.RowKit X
structure Rw where
 lo:Int
 hi:Int
 wd:Int
 reg:Int
 first:Int
 num:Int
 den:Int
abbrev Rw.cells (r:Rw):List Value:=[.int .i64 r.lo,.int .i64 r.hi,.int .i64 r.wd,.int .i64 r.reg,.int .i64 r.first,.int .i64 r.num,.int .i64 r.den]
noncomputable abbrev EW:El P where
 α:=Rw
 enc:=Rw.cells
 z:=7
 ta:=tRows
 te:=tRow
 bytes:=56
 zs:=[.int .i64 0,.int .i64 0,.int .i64 0,.int .i64 0,.int .i64 0,.int .i64 0,.int .i64 0]
 hT:=appRows
 hZ:=zeroRow
 hz1:=by simp [Value.oneCell']
 hlen:=fun _=>rfl
 h1:=by intro x u hu; simp only [Rw.cells,List.mem_cons,List.not_mem_nil,or_false] at hu; rcases hu with rfl | rfl | rfl | rfl | rfl | rfl | rfl <;> rfl
 hz:=by omega
 hb:=by omega
def wi (n:Int):Int:=IntKind.i64.wrap n
def Rw.meets (r:Rw) (off width:Int):Bool:=!(decide (wi (off + width)≤r.lo) || decide (off≥r.hi))
def plV (x:Int×Int×Int):Value:=.agg [.int .i64 x.1,.int .i64 x.2.1,.int .i64 x.2.2].toArray
def hitM (r:Rw) (off width:Int):(Int×Int×Int)×Int :=
 if width≠r.wd then ((0,0,0),40) else ((r.reg,wi (r.first + wi (Int.tdiv (wi (wi (off - r.lo) * r.num)) r.den)),wi (Int.tdiv (wi (width * r.num)) r.den)),0)
def seekM (off width:Int):List Rw→(Int×Int×Int)×Int
 | []=>((0,0,0),0)
 | r :: l=>if r.meets off width then hitM r off width else seekM off width l
def findM (rows:List Rw) (size off width:Int):(Int×Int×Int)×Int :=
 if width≠4∧width≠8 then ((0,0,0),40) else if Int.tmod off width≠0 then ((0,0,0),41) else if off < 0∨off > wi (size - width) then ((0,0,0),42) else seekM off width rows
theorem seek_drop {off width:Int} {rows:List Rw} {k:Nat} {r:Rw} (h:rows[k]? = some r):seekM off width (rows.drop k) = if r.meets off width then hitM r off width else seekM off width (rows.drop (k + 1)):=by
 obtain ⟨hl,he⟩:=List.getElem?_eq_some_iff.1 h
 rw [List.drop_eq_getElem_cons hl,he]; rfl
theorem els_atF {w w0:World} {S0:Nat→Prop} {E:El P} {L F:List It} {q:Option Addr} {c j:Nat} {xs:List E.α} {x:E.α} (H:X.Own w0 S0 L w) (hp:Pick L (els E q c xs) F) (hx:xs[j]? = some x):∃ d,q = some ⟨d,0,none⟩∧∀ i v,(E.enc x)[i]? = some v→w.cell? ⟨d,j * E.z + i,none⟩ = some v:=by
 have hne:xs≠[]:=by intro e; rw [e] at hx; cases hx
 obtain ⟨d,rest,rfl,hlen,hle,hmx,H2⟩:=els_open H hp hne
 refine ⟨d,rfl,fun i v hv=>?_⟩
 have h1:=El.flat_get hx hv
 rw [(H2.row .here).cell,List.getElem?_append_left (List.getElem?_eq_some_iff.1 h1).1]; exact h1
theorem find_t {p:Option Addr} {cp:Nat} {rows:List Rw} (hr:∀ r∈rows,r.den≠0) (hl:rows.length < 1000000) (size off width:Int) :
 Tri P F.zzg1 [.slice p rows.length cp,.int .i64 size,.int .i64 off,.int .i64 width] [els EW p cp rows] fun v L'=>v = .tuple [plV (findM rows size off width).1,.int .i64 (findM rows size off width).2].toArray∧L' = [els EW p cp rows]:=by
 intro w S hS
 refine zzmu ?_
 unfold zzg1
 have H:=Own.start hS
 refine alc_o H fun b7 wx H=>join_o ?_
 have err:∀ (e:Int) (wx:World) (M:(Int×Int×Int)×Int),M = ((0,0,0),e)→X.Own w S [els EW p cp rows] wx→∃ L',(((.tuple [.agg [.int .i64 0,.int .i64 0,.int .i64 0].toArray,.int .i64 e].toArray:Value) = .tuple [plV M.1,.int .i64 M.2].toArray)∧L' = [els EW p cp rows])∧X.Own w S L' wx:=by
  rintro e wx M rfl H
  exact ⟨_,⟨rfl,rfl⟩,H⟩
 have go:∀ x:Bool,(x = true↔(width≠4∧width≠8))→zzi5 p rows.length size off width (fun v w'=>∃ L',(v = .tuple [plV (findM rows size off width).1,.int .i64 (findM rows size off width).2].toArray∧L' = [els EW p cp rows])∧X.Own w S L' w') b7 x wx:=by
  intro x hx
  unfold zzi5
  refine cnd_i (fun h=>?_) fun h=>?_
  · iterate 3 refine sta H fun wx H=>?_
    repeat (first | refine lIa H ?_ | refine lLa H ?_ | refine lBa H ?_ | refine lPa H ?_ | refine lSa H ?_)
    exact err 40 _ _ (by unfold findM; rw [if_pos (hx.1 h)]) (H.dp)
  have h:¬ (width≠4∧width≠8):=fun hh=>by rw [hx.2 hh] at h; cases h
  refine ⟨by omega,cnd_i (fun h2=>?_) fun h2=>join_o ?_⟩
  · iterate 3 refine sta H fun wx H=>?_
    repeat (first | refine lIa H ?_ | refine lLa H ?_ | refine lBa H ?_ | refine lPa H ?_ | refine lSa H ?_)
    exact err 41 _ _ (by unfold findM; rw [if_neg h,if_pos (by simpa using h2)]) (H.dp)
  have h2:¬ Int.tmod off width≠0:=by simpa using h2
  have go2:∀ x:Bool,(x = true↔(off < 0∨off > wi (size - width)))→zzi4 p rows.length off width (fun v w'=>∃ L',(v = .tuple [plV (findM rows size off width).1,.int .i64 (findM rows size off width).2].toArray∧L' = [els EW p cp rows])∧X.Own w S L' w') b7 x wx:=by
   intro x hx
   unfold zzi4
   refine cnd_i (fun h3=>?_) fun h3=>?_
   · iterate 3 refine sta H fun wx H=>?_
     repeat (first | refine lIa H ?_ | refine lLa H ?_ | refine lBa H ?_ | refine lPa H ?_ | refine lSa H ?_)
     exact err 42 _ _ (by unfold findM; rw [if_neg h,if_neg h2,if_pos (hx.1 h3)]) (H.dp)
   have h3:¬ (off < 0∨off > wi (size - width)):=fun hh=>by rw [hx.2 hh] at h3; cases h3
   have e0:findM rows size off width = seekM off width rows:=by unfold findM; rw [if_neg h,if_neg h2,if_neg h3]
   rw [e0]
   refine loop_o (fun (st:Int) L=>∃ k:Nat,k≤rows.length∧st = k∧seekM off width rows = seekM off width (rows.drop k)∧L = [row b7 [.int .i64 0,.int .i64 0,.int .i64 0] tPlace,els EW p cp rows]) (fun (st:Int)=>((rows.length:Int) - st).toNat) H ⟨0,by omega,rfl,rfl,rfl⟩ ?_
   rintro _ _ wx ⟨k,hk,rfl,hse,rfl⟩ H
   unfold zzli
   refine cnd_i (fun hc=>?_) fun hc=>?_
   · have hc:=of_decide_eq_true hc
     have hkl:k < rows.length:=by omega
     have hx:rows[k]? = some rows[k]:=List.getElem?_eq_getElem hkl
     have hden:=hr rows[k] (List.getElem_mem _)
     generalize hre:rows[k] = r at *
     obtain ⟨d,rfl,hcell⟩:=els_atF (E:=EW) (q:=p) (c:=cp) H (by repeat (first | exact Pick.here | apply Pick.there)) hx
     refine ⟨⟨by omega,by omega⟩,?_⟩
     rw [Int.toNat_natCast]
     dsimp only [nn]
     have hce:∀ i v,r.cells[i]? = some v→wx.cell? (((⟨d,0,none⟩:Addr).add (k * 7)).add i) = some v:=by
      intro i v hv
      rw [add_lit,add_lit,Nat.zero_add]; exact hcell i v hv
     refine ⟨_,by rw [add_lit,Nat.zero_add]; exact hcell 0 _ rfl,_,hce 1 _ rfl,_,hce 2 _ rfl,_,hce 3 _ rfl,_,hce 4 _ rfl,_,hce 5 _ rfl,_,hce 6 _ rfl,alc_o H fun b46 wx H=>?_⟩
     iterate 7 refine sta H fun wx H=>?_
     refine join_o ?_
     have fin:∀ y:Bool,y = !r.meets off width→zzi3 off width (fun v w'=>∃ L',(v = .tuple [plV (seekM off width rows).1,.int .i64 (seekM off width rows).2].toArray∧L' = [els EW (some ⟨d,0,none⟩) cp rows])∧X.Own w S L' w') b7 (k:Int)
      (fun (s':Int) w'=>(∃ L',(∃ k:Nat,k≤rows.length∧s' = (k:Int)∧seekM off width rows = seekM off width (rows.drop k)∧L' = [row b7 [.int .i64 0,.int .i64 0,.int .i64 0] tPlace,els EW (some ⟨d,0,none⟩) cp rows])∧X.Own w S L' w')∧((rows.length:Int) - s').toNat < ((rows.length:Int) - (k:Int)).toNat) b46 y wx:=by
      rintro y hy
      unfold zzi3
      refine cnd_i (fun h4=>?_) fun h4=>?_
      · have hm:r.meets off width = false:=by
         cases hmm:r.meets off width
         · rfl
         · rw [hmm,h4] at hy; cases hy
        rw [W_id (by omega) (by omega)]
        refine ⟨⟨_,⟨k + 1,by omega,by push_cast; rfl,?_,rfl⟩,H.dp⟩,by omega⟩
        rw [hse,seek_drop hx,hm]; rfl
      have hm:r.meets off width = true:=by
       cases hmm:r.meets off width
       · rw [hmm,h4] at hy; cases hy
       · rfl
      rw [hse,seek_drop hx,hm,if_pos rfl]
      repeat (first | refine lIa H ?_ | refine lLa H ?_ | refine lBa H ?_ | refine lPa H ?_ | refine lSa H ?_)
      refine cnd_i (fun h5=>?_) fun h5=>?_
      · iterate 3 refine sta H fun wx H=>?_
        repeat (first | refine lIa H ?_ | refine lLa H ?_ | refine lBa H ?_ | refine lPa H ?_ | refine lSa H ?_)
        exact err 40 _ _ (by unfold hitM; rw [if_pos (by simpa using h5)]) (H.dp)
      have h5:¬ width≠r.wd:=by simpa using h5
      refine drw_o H fun wx H=>?_
      repeat (first | refine lIa H ?_ | refine lLa H ?_ | refine lBa H ?_ | refine lPa H ?_ | refine lSa H ?_)
      refine ⟨hden,alc_o H fun b70 wx H=>⟨?_,?_,?_,?_,?_⟩⟩
      · repeat (first | refine lIa H ?_ | refine lLa H ?_ | refine lBa H ?_ | refine lPa H ?_ | refine lSa H ?_)
        rfl
      · repeat (first | refine lIa H ?_ | refine lLa H ?_ | refine lBa H ?_ | refine lPa H ?_ | refine lSa H ?_)
        rfl
      · repeat (first | refine lIa H ?_ | refine lLa H ?_ | refine lBa H ?_ | refine lPa H ?_ | refine lSa H ?_)
        rfl
      · repeat (first | refine lIa H ?_ | refine lLa H ?_ | refine lBa H ?_ | refine lPa H ?_ | refine lSa H ?_)
        rfl
      iterate 3 refine sta H fun wx H=>?_
      refine drw_o H fun wx H=>?_
      repeat (first | refine lIa H ?_ | refine lLa H ?_ | refine lBa H ?_ | refine lPa H ?_ | refine lSa H ?_)
      refine ⟨hden,?_⟩
      refine sta H fun wx H=>?_
      repeat (first | refine lIa H ?_ | refine lLa H ?_ | refine lBa H ?_ | refine lPa H ?_ | refine lSa H ?_)
      iterate 3 refine sta H fun wx H=>?_
      repeat (first | refine lIa H ?_ | refine lLa H ?_ | refine lBa H ?_ | refine lPa H ?_ | refine lSa H ?_)
      refine ⟨_,⟨?_,rfl⟩,H.dp⟩
      unfold hitM
      rw [if_neg h5]; rfl
     repeat (first | refine lIa H ?_ | refine lLa H ?_ | refine lBa H ?_ | refine lPa H ?_ | refine lSa H ?_)
     refine cnd_i (fun h4=>?_) fun h4=>?_
     · exact fin true (by unfold Rw.meets wi; rw [h4]; rfl)
     · repeat (first | refine lIa H ?_ | refine lLa H ?_ | refine lBa H ?_ | refine lPa H ?_ | refine lSa H ?_)
       exact fin _ (by unfold Rw.meets wi; rw [h4,Bool.false_or,Bool.not_not])
   · have hc:=of_decide_eq_false hc
     have:k = rows.length:=by omega
     subst this
     rw [hse,List.drop_length]
     iterate 3 refine sta H fun wx H=>?_
     repeat (first | refine lIa H ?_ | refine lLa H ?_ | refine lBa H ?_ | refine lPa H ?_ | refine lSa H ?_)
     exact err 0 _ _ rfl (H.dp)
  refine cnd_i (fun h3=>?_) fun h3=>?_
  · exact go2 true (by simp [of_decide_eq_true h3])
  · exact go2 _ (by have h3:=of_decide_eq_false h3; unfold wi; simp [h3])
 refine cnd_i (fun h=>?_) fun h=>?_
 · exact go _ (by
                  have h:width≠4:=by simpa using h
                  simp [h])
 · exact go false (by
                      have h:width = 4:=by simpa using h
                      simp [h])
def itsRows:List Rw:=[⟨0,4,4,1,0,0,1⟩,⟨8,16,8,2,0,0,1⟩,⟨128,136,8,19,0,0,1⟩,⟨136,144,8,20,0,0,1⟩,⟨144,152,8,21,0,0,1⟩]
theorem its_t:Tri P F.zzhE [] [] fun v L'=>∃ p c,v = .slice p itsRows.length c∧L' = [els EW p c itsRows]:=by
 intro w S hS
 refine zzmE ?_
 unfold zzhE
 have H:=Own.start hS
 refine alc_o H fun b1 wx H=>?_
 exact ⟨_,⟨some ⟨b1,0,none⟩,5,rfl,rfl⟩,els_shut (E:=EW) (c:=5) (xs:=itsRows) H rfl rfl (by simp [itsRows]) (by unfold maxLen; omega) rfl⟩
def itsM (off width:Int):(Int×Int×Int)×Int:=findM itsRows 65536 off width
theorem Its_t (off width:Int):Tri P F.zzgL [.int .i64 off,.int .i64 width] [] fun v L'=>v = .tuple [plV (itsM off width).1,.int .i64 (itsM off width).2].toArray∧L' = []:=by
 intro w S hS
 refine zzmA ?_
 unfold zzgL
 have H:=Own.start hS
 refine alc_o H fun b3 wx H=>?_
 refine call_oa H (its_t) fun vx L' wx hq H=>?_
 obtain ⟨p,c,rfl,rfl⟩:=hq
 simp only [List.cons_append,List.nil_append] at H
 refine ⟨_,_,_,rfl,?_⟩
 refine call_p H (find_t (rows:=itsRows) (by intro r hr; simp only [itsRows,List.mem_cons,List.not_mem_nil,or_false] at hr; rcases hr with rfl | rfl | rfl | rfl | rfl <;> simp) (by simp [itsRows]) 65536 off width) (by repeat (first | exact Cut.nil | (apply Cut.cons; (repeat (first | exact Pick.here | apply Pick.there))))) fun wx H=>?_
 refine ⟨_,_,_,_,rfl,?_⟩
 iterate 3 refine sta H fun wx H=>?_
 repeat (first | refine lIa H ?_ | refine lLa H ?_ | refine lBa H ?_ | refine lPa H ?_ | refine lSa H ?_)
 exact ⟨_,⟨rfl,rfl⟩,H.dp⟩
theorem PassV_t (b bd bc:Nat) (s:Vi):Tri P F.zzcu [.pointer (some ⟨b,4,none⟩)] [row b (s.cells bd bc) tVits] fun v L'=>v = .int .i64 (passQ s.q).2∧L' = [row b (({ s with q:=(passQ s.q).1 }:Vi).cells bd bc) tVits]:=by
 intro w S hS
 refine zzkB ?_
 unfold zzcu
 have H:=Own.start hS
 dsimp only [nn]
 simp only [add_lit]
 repeat (first | refine lIa H ?_ | refine lLa H ?_ | refine lBa H ?_ | refine lPa H ?_ | refine lSa H ?_)
 refine call_pa H (Left_t s.q) fun wx H=>?_
 refine ⟨_,rfl,cnd_i (fun h=>?_) fun h=>?_⟩
 · have e:passQ s.q = (s.q,170):=by unfold passQ; rw [if_pos (of_decide_eq_true h)]
   rw [e]
   exact ⟨_,⟨rfl,rfl⟩,H⟩
 have h:=of_decide_eq_false h
 have e:passQ s.q = ({ s.q with r:=nextQ s.q.s s.q.r },0):=by unfold passQ; rw [if_neg h]
 rw [e]
 refine drw_o H fun wx H=>?_
 repeat (first | refine lIa H ?_ | refine lLa H ?_ | refine lBa H ?_ | refine lPa H ?_ | refine lSa H ?_)
 refine call_pa H (zzmc s.q) fun wx H=>?_
 refine ⟨_,_,rfl,by
                       repeat (first | refine lIa H ?_ | refine lLa H ?_ | refine lBa H ?_ | refine lPa H ?_ | refine lSa H ?_)
                       rfl,?_⟩
 refine call_oa H (Next_t s.q.s s.q.r) fun vx L' wx hq H=>?_
 obtain ⟨⟨e,rfl⟩,rfl⟩:=hq
 simp only [List.cons_append,List.nil_append] at H
 refine ⟨_,_,rfl,?_⟩
 refine sta H fun wx H=>?_
 exact ⟨_,⟨rfl,rfl⟩,H⟩
theorem SetWriteV_t (b bd bc:Nat) (s:Vi) (at':Int):Tri P F.zzbs [.pointer (some ⟨b,4,none⟩),.int .i64 at'] [row b (s.cells bd bc) tVits] fun v L'=>v = .int .i64 (setQ s.q at').2∧L' = [row b (({ s with q:=(setQ s.q at').1 }:Vi).cells bd bc) tVits]:=by
 intro w S hS
 refine zzjn ?_
 unfold zzbs
 have H:=Own.start hS
 dsimp only [nn]
 simp only [add_lit]
 repeat (first | refine lIa H ?_ | refine lLa H ?_ | refine lBa H ?_ | refine lPa H ?_ | refine lSa H ?_)
 refine call_pa H (zzmc s.q) fun wx H=>?_
 refine ⟨_,_,rfl,?_⟩
 refine call_pa H (pl_t (rmay_plain s.q.s 32 at')) fun wx H=>?_
 refine ⟨_,rfl,?_⟩
 unfold setQ
 cases mayB s.q.s 32 at'
 · exact cnd_i (fun _=>⟨_,⟨rfl,rfl⟩,H⟩) (fun h=>by cases h)
 · refine cnd_i (fun h=>by cases h) fun _=>?_
   refine sta H fun wx H=>?_
   exact ⟨_,⟨rfl,rfl⟩,H⟩
theorem On_t (b:Nat) (s:Vi):Tri P F.zzeq [ptr b] [vitsI b s] fun v L'=>v = .bool s.on∧L' = [vitsI b s]:=by
 intro w S hS
 refine zzl6 ?_
 unfold zzeq
 have H:=Own.start hS
 obtain ⟨bd,bc,H⟩:=zzag H .here
 dsimp only [nn]
 repeat (first | refine lIa H ?_ | refine lLa H ?_ | refine lBa H ?_ | refine lPa H ?_ | refine lSa H ?_)
 exact ⟨_,⟨rfl,rfl⟩,zzab H⟩
theorem Stalled_t (b:Nat) (s:Vi):Tri P F.zzcf [ptr b] [vitsI b s] fun v L'=>v = .bool s.st∧L' = [vitsI b s]:=by
 intro w S hS
 refine zzjU ?_
 unfold zzcf
 have H:=Own.start hS
 obtain ⟨bd,bc,H⟩:=zzag H .here
 dsimp only [nn]
 repeat (first | refine lIa H ?_ | refine lLa H ?_ | refine lBa H ?_ | refine lPa H ?_ | refine lSa H ?_)
 exact ⟨_,⟨rfl,rfl⟩,zzab H⟩
def vleft (s:Vi):Int:=if s.fit then s.q.left else 0
theorem VLeft_t (b:Nat) (s:Vi):Tri P F.zzdu [ptr b] [vitsI b s] fun v L'=>v = .int .i64 (vleft s)∧L' = [vitsI b s]:=by
 intro w S hS
 refine zzlx ?_
 unfold zzdu
 have H:=Own.start hS
 obtain ⟨bd,bc,H⟩:=zzag H .here
 dsimp only [nn]
 repeat (first | refine lIa H ?_ | refine lLa H ?_ | refine lBa H ?_ | refine lPa H ?_ | refine lSa H ?_)
 refine cnd_i (fun h=>?_) fun h=>?_
 · have h:s.fit = false:=by simpa using h
   exact ⟨_,⟨by unfold vleft; rw [h]; rfl,rfl⟩,zzab H⟩
 · have h:s.fit = true:=by simpa using h
   repeat (first | refine lIa H ?_ | refine lLa H ?_ | refine lBa H ?_ | refine lPa H ?_ | refine lSa H ?_)
   refine call_pa H (Left_t s.q) fun wx H=>?_
   exact ⟨_,rfl,_,⟨by unfold vleft; rw [h]; rfl,rfl⟩,zzab H⟩
def bitI (x:Bool):Int:=if x then 1 else 0
theorem bit_t (x:Bool):Tri P F.zzgM [.bool x] [] fun v L'=>v = .int .u64 (bitI x)∧L' = []:=by
 intro w S hS
 refine zzmB ?_
 unfold zzgM
 have H:=Own.start hS
 cases x
 · exact cnd_i (fun h=>by cases h) fun _=>⟨_,⟨rfl,rfl⟩,H⟩
 · exact cnd_i (fun _=>⟨_,⟨rfl,rfl⟩,H⟩) (fun h=>by cases h)
def vreadM (s:Vi) (off width:Int):Int×Int :=
 if (itsM off width).2≠0 then (0,(itsM off width).2)
 else if (itsM off width).1.1 = 1 then (bitX .or .u64 (bitI s.on) 2147483648,0)
 else if (itsM off width).1.1 = 2 then (254833,0)
 else if (itsM off width).1.1 = 19 then (s.base,0)
 else if (itsM off width).1.1 = 20 then (IntKind.u64.wrap s.q.w,0)
 else if (itsM off width).1.1 = 21 then (bitX .or .u64 (IntKind.u64.wrap s.q.r) (bitI s.st),0)
 else (0,0)
theorem VRead_t (b:Nat) (s:Vi) (off width:Int):Tri P F.zzdv [ptr b,.int .i64 off,.int .i64 width] [vitsI b s] fun v L'=>v = .tuple [.int .u64 (vreadM s off width).1,.int .i64 (vreadM s off width).2].toArray∧L' = [vitsI b s]:=by
 intro w S hS
 refine zzlz ?_
 unfold zzdv
 have H:=Own.start hS
 refine call_pa H (Its_t off width) fun wx H=>?_
 refine ⟨_,_,_,_,rfl,alc_o H fun b10 wx H=>?_⟩
 iterate 3 refine sta H fun wx H=>?_
 unfold vreadM
 refine cnd_i (fun h=>?_) fun h=>?_
 · rw [if_pos (by simpa using h)]
   exact ⟨_,⟨rfl,rfl⟩,H.dp⟩
 rw [if_neg (by simpa using h)]
 repeat (first | refine lIa H ?_ | refine lLa H ?_ | refine lBa H ?_ | refine lPa H ?_ | refine lSa H ?_)
 obtain ⟨bd,bc,H⟩:=zzag H (by repeat (first | exact Pick.here | apply Pick.there))
 refine cnd_i (fun h1=>?_) fun h1=>?_
 · rw [if_pos (by simpa using h1)]
   dsimp only [nn]
   repeat (first | refine lIa H ?_ | refine lLa H ?_ | refine lBa H ?_ | refine lPa H ?_ | refine lSa H ?_)
   refine call_pa H (bit_t s.on) fun wx H=>?_
   exact ⟨_,rfl,_,⟨rfl,rfl⟩,(zzab H).dp⟩
 rw [if_neg (by simpa using h1)]
 refine cnd_i (fun h1=>?_) fun h1=>?_
 · rw [if_pos (by simpa using h1)]
   exact ⟨_,⟨rfl,rfl⟩,(zzab H).dp⟩
 rw [if_neg (by simpa using h1)]
 refine cnd_i (fun h1=>?_) fun h1=>?_
 · rw [if_pos (by simpa using h1)]
   dsimp only [nn]
   repeat (first | refine lIa H ?_ | refine lLa H ?_ | refine lBa H ?_ | refine lPa H ?_ | refine lSa H ?_)
   exact ⟨_,⟨rfl,rfl⟩,(zzab H).dp⟩
 rw [if_neg (by simpa using h1)]
 refine cnd_i (fun h1=>?_) fun h1=>?_
 · rw [if_pos (by simpa using h1)]
   dsimp only [nn]
   simp only [add_lit]
   repeat (first | refine lIa H ?_ | refine lLa H ?_ | refine lBa H ?_ | refine lPa H ?_ | refine lSa H ?_)
   exact ⟨_,⟨rfl,rfl⟩,(zzab H).dp⟩
 rw [if_neg (by simpa using h1)]
 refine cnd_i (fun h1=>?_) fun h1=>?_
 · rw [if_pos (by simpa using h1)]
   dsimp only [nn]
   simp only [add_lit]
   refine drw_o H fun wx H=>?_
   repeat (first | refine lIa H ?_ | refine lLa H ?_ | refine lBa H ?_ | refine lPa H ?_ | refine lSa H ?_)
   refine call_pa H (bit_t s.st) fun wx H=>?_
   refine ⟨_,rfl,trivial,?_,?_⟩
   · repeat (first | refine lIa H ?_ | refine lLa H ?_ | refine lBa H ?_ | refine lPa H ?_ | refine lSa H ?_)
     rfl
   exact ⟨_,⟨rfl,rfl⟩,(zzab H).dp⟩
 · rw [if_neg (by simpa using h1)]
   exact ⟨_,⟨rfl,rfl⟩,(zzab H).dp⟩
def partM (a s x n:Int):(Int×Int)×Int:=if fairB a s && (decide (0≤x) && (decide (0≤n) && (decide (n≤s) && decide (x≤s - n)))) then ((a + x,n),0) else ((0,0),42)
theorem part_t' (a s x n:Int):Tri P F.zzhF [winV a s,.int .i64 x,.int .i64 n] [] fun v L'=>v = .tuple [winV (partM a s x n).1.1 (partM a s x n).1.2,.int .i64 (partM a s x n).2].toArray∧L' = []:=by
 intro w S hS
 refine (tri_plain (Part_plain a s x n) w S hS).mono ?_
 rintro v w' ⟨L',⟨rfl,rfl⟩,H⟩
 refine ⟨_,⟨?_,rfl⟩,H⟩
 unfold partW partM
 split <;> rfl
def baseX (v:Int):Int:=wi (IntKind.u64.wrap ((bitX .and .u64 (Int.fdiv v (2 ^ min (Int.toNat 8) (IntKind.u64.bits))) 1099511627775) * 2 ^ min (Int.toNat 8) (IntKind.u64.bits)))
def baseN (v:Int):Int:=wi ((wi ((wi (bitX .and .u64 v 255)) + 1)) * 256)
def baseB (v:Int):Int:=bitX .and .u64 v 9223653511831486463
def baseV (v:Int):Bool:=(Int.fdiv v (2 ^ min (Int.toNat 63) (IntKind.u64.bits))) == 1
def rebM (s:Vi) (v:Int) (r:Ru):Vi :=
 if (partM r.a r.s (baseX v) (baseN v)).2 = 0∧baseV v = true then
  { s with base:=baseB v,st:=false,q:=(newQ (partM r.a r.s (baseX v) (baseN v)).1.1 (partM r.a r.s (baseX v) (baseN v)).1.2).1,fit:=(newQ (partM r.a r.s (baseX v) (baseN v)).1.1 (partM r.a r.s (baseX v) (baseN v)).1.2).2 == 0 }
 else { s with base:=baseB v,st:=false,q:=⟨0,0,0,0⟩,fit:=false }
theorem rebase_t (b:Nat) (s:Vi) (v:Int) (r:Ru) {po:Option Addr} {no co:Nat}:Tri P F.zzcv [ptr b,.int .u64 v,ruV r po no co] [vitsI b s] fun x L'=>x = .tuple [].toArray∧L' = [vitsI b (rebM s v r)]:=by
 intro w S hS
 refine zzkC ?_
 unfold zzcv
 have H:=Own.start hS
 refine alc_o H fun b10 wx H=>?_
 obtain ⟨bd,bc,H⟩:=zzag H (by repeat (first | exact Pick.here | apply Pick.there))
 dsimp only [nn]
 simp only [add_lit]
 iterate 7 refine sta H fun wx H=>?_
 repeat (first | refine lIa H ?_ | refine lLa H ?_ | refine lBa H ?_ | refine lPa H ?_ | refine lSa H ?_)
 refine ⟨by omega,by omega,?_⟩
 refine call_p H (part_t' r.a r.s (baseX v) (baseN v)) .nil fun wx H=>?_
 refine ⟨_,_,_,rfl,alc_o H fun b30 wx H=>?_⟩
 iterate 2 refine sta H fun wx H=>?_
 refine join_o ?_
 have fin:∀ x:Bool,(x = true↔(partM r.a r.s (baseX v) (baseN v)).2 = 0∧baseV v = true)→zzfa (some ⟨b,0,none⟩) (fun x w'=>∃ L',(x = .tuple [].toArray∧L' = [vitsI b (rebM s v r)])∧X.Own w S L' w') b30 x wx:=by
  intro x hx
  unfold zzfa
  refine cnd_i (fun h=>?_) fun h=>?_
  · have hh:=hx.1 h
    repeat (first | refine lIa H ?_ | refine lLa H ?_ | refine lBa H ?_ | refine lPa H ?_ | refine lSa H ?_)
    refine call_p H (NewQ_t (partM r.a r.s (baseX v) (baseN v)).1.1 (partM r.a r.s (baseX v) (baseN v)).1.2) .nil fun wx H=>?_
    refine ⟨_,_,_,_,_,rfl,alc_o H fun b46 wx H=>?_⟩
    iterate 4 refine sta H fun wx H=>?_
    repeat (first | refine lIa H ?_ | refine lLa H ?_ | refine lBa H ?_ | refine lPa H ?_ | refine lSa H ?_)
    dsimp only [nn]
    simp only [add_lit]
    iterate 5 refine sta H fun wx H=>?_
    unfold rebM
    rw [if_pos hh]
    exact ⟨_,⟨trivial,rfl⟩,zzab (bd:=bd) (bc:=bc) (F:=[]) (H.dp)⟩
  · have hh:¬ ((partM r.a r.s (baseX v) (baseN v)).2 = 0∧baseV v = true):=fun hh=>by rw [hx.2 hh] at h; cases h
    unfold rebM
    rw [if_neg hh]
    exact ⟨_,⟨rfl,rfl⟩,zzab (bd:=bd) (bc:=bc) (F:=[]) (H.dp)⟩
 refine cnd_i (fun h=>⟨by omega,?_⟩) fun h=>?_
 · have h:(partM r.a r.s (baseX v) (baseN v)).2 = 0:=by simpa using h
   exact fin _ ⟨fun hh=>⟨h,hh⟩,fun hh=>hh.2⟩
 · have h:(partM r.a r.s (baseX v) (baseN v)).2≠0:=by simpa using h
   exact fin false (by simp [h])
def stop1 (v:Int) (s:Vi):Vi:={ s with st:=if s.st then (bitX .and .u64 v 1) == 0 else false }
def vwriteM (s:Vi) (off width v:Int) (r:Ru):Vi×Int :=
 if (itsM off width).2≠0 then (s,(itsM off width).2)
 else if (itsM off width).1.1 = 1 then ({ s with on:=(bitX .and .u64 v 1) == 1 },0)
 else if (itsM off width).1.1 = 19 then (if s.on then s else rebM s v r,0)
 else if (itsM off width).1.1 = 20 then (stop1 v (if s.fit then { s with q:=(setQ s.q (wi (bitX .and .u64 v 1048544))).1 } else s),0)
 else (s,0)
theorem VWrite_t (b:Nat) (s:Vi) (off width v:Int) (r:Ru) {po:Option Addr} {no co:Nat}:Tri P F.zzb2 [ptr b,.int .i64 off,.int .i64 width,.int .u64 v,ruV r po no co] [vitsI b s] fun x L'=>x = .int .i64 (vwriteM s off width v r).2∧L' = [vitsI b (vwriteM s off width v r).1]:=by
 intro w S hS
 refine zzk0 ?_
 unfold zzb2
 have H:=Own.start hS
 refine alc_o H fun b12 wx H=>?_
 refine call_pa H (Its_t off width) fun wx H=>?_
 refine ⟨_,_,_,_,rfl,alc_o H fun b20 wx H=>?_⟩
 iterate 3 refine sta H fun wx H=>?_
 unfold vwriteM
 refine cnd_i (fun h=>?_) fun h=>?_
 · rw [if_pos (by simpa using h)]
   exact ⟨_,⟨rfl,rfl⟩,H.dp⟩
 rw [if_neg (by simpa using h)]
 repeat (first | refine lIa H ?_ | refine lLa H ?_ | refine lBa H ?_ | refine lPa H ?_ | refine lSa H ?_)
 refine join_o ?_
 unfold zzhP
 refine cnd_i (fun h1=>?_) fun h1=>?_
 · rw [if_pos (by simpa using h1)]
   obtain ⟨bd,bc,H⟩:=zzag H (by repeat (first | exact Pick.here | apply Pick.there))
   dsimp only [nn]
   refine sta H fun wx H=>?_
   exact ⟨_,⟨rfl,rfl⟩,zzab (bd:=bd) (bc:=bc) (F:=[]) (H.dp)⟩
 rw [if_neg (by simpa using h1)]
 refine cnd_i (fun h1=>?_) fun h1=>?_
 · rw [if_pos (by simpa using h1)]
   obtain ⟨bd,bc,H⟩:=zzag H (by repeat (first | exact Pick.here | apply Pick.there))
   dsimp only [nn]
   repeat (first | refine lIa H ?_ | refine lLa H ?_ | refine lBa H ?_ | refine lPa H ?_ | refine lSa H ?_)
   have H:=zzab H
   cases hon:s.on
   · refine cnd_i (fun _=>?_) (fun h=>by cases h)
     repeat (first | refine lIa H ?_ | refine lLa H ?_ | refine lBa H ?_ | refine lPa H ?_ | refine lSa H ?_)
     refine call_o H (rebase_t b s v r) (by repeat (first | exact Cut.nil | (apply Cut.cons; (repeat (first | exact Pick.here | apply Pick.there))))) fun vx L' wx hq H=>?_
     obtain ⟨rfl,rfl⟩:=hq
     simp only [List.cons_append,List.nil_append] at H
     exact ⟨rfl,_,⟨rfl,rfl⟩,H.dp⟩
   · exact cnd_i (fun h=>by cases h) fun _=>⟨_,⟨rfl,rfl⟩,H.dp⟩
 rw [if_neg (by simpa using h1)]
 refine cnd_i (fun h1=>?_) fun h1=>?_
 · rw [if_pos (by simpa using h1)]
   refine join_o ?_
   have fin:∀ (s1:Vi) (wx:World),X.Own w S [vitsI b s1] wx→zzft (some ⟨b,0,none⟩) v (fun s57 w58=>∃ L',(Value.int .i64 0 = .int .i64 0∧L' = [vitsI b (stop1 v s1)])∧X.Own w S L' w58) wx:=by
    intro s1 wx H
    unfold zzft
    obtain ⟨bd,bc,H⟩:=zzag H (by repeat (first | exact Pick.here | apply Pick.there))
    dsimp only [nn]
    repeat (first | refine lIa H ?_ | refine lLa H ?_ | refine lBa H ?_ | refine lPa H ?_ | refine lSa H ?_)
    cases hst:s1.st
    · refine cnd_i (fun h=>by cases h) fun _=>?_
      refine sta H fun wx H=>?_
      exact ⟨_,⟨rfl,rfl⟩,zzab (bd:=bd) (bc:=bc) (F:=[]) (by unfold stop1; rw [hst]; exact H.dp)⟩
    · refine cnd_i (fun _=>?_) (fun h=>by cases h)
      refine sta H fun wx H=>?_
      exact ⟨_,⟨rfl,rfl⟩,zzab (bd:=bd) (bc:=bc) (F:=[]) (by unfold stop1; rw [hst]; exact H.dp)⟩
   obtain ⟨bd,bc,H⟩:=zzag H (by repeat (first | exact Pick.here | apply Pick.there))
   dsimp only [nn]
   repeat (first | refine lIa H ?_ | refine lLa H ?_ | refine lBa H ?_ | refine lPa H ?_ | refine lSa H ?_)
   refine cnd_i (fun hf=>?_) fun hf=>?_
   rotate_left
   · rw [if_neg (by rw [hf]; simp)]
     exact fin s _ ((zzab H).dp)
   · rw [if_pos hf,add_lit]
     refine call_o H (SetWriteV_t b bd bc s (wi (bitX .and .u64 v 1048544))) (by repeat (first | exact Cut.nil | (apply Cut.cons; (repeat (first | exact Pick.here | apply Pick.there))))) fun vx L' wx hq H=>?_
     obtain ⟨rfl,rfl⟩:=hq
     simp only [List.cons_append,List.nil_append] at H
     exact ⟨_,rfl,fin { s with q:=(setQ s.q (wi (bitX .and .u64 v 1048544))).1 } _ (zzab (bd:=bd) (bc:=bc) (F:=[]) (H.dp))⟩
 · rw [if_neg (by simpa using h1)]
   exact ⟨_,⟨rfl,rfl⟩,H.dp⟩
def vstepM (s:Vi) (bs:List Int) (r:Ru) (owned:List Int) (p:Nat):Cm×List Ch×Vi×Int :=
 if s.on = false then (cm0,[],s,191)
 else if s.st = true then (cm0,[],s,190)
 else if s.fit = false then (cm0,[],{ s with st:=true },241)
 else if (headQ s.q bs).2 = 170 then (cm0,[],s,170)
 else if (headQ s.q bs).2≠0 then (cm0,[],{ s with st:=true },(headQ s.q bs).2)
 else if (vdoM s (headQ s.q bs).1 r owned p).2.2≠0 then (cm0,[],{ (vdoM s (headQ s.q bs).1 r owned p).2.1 with st:=true },(vdoM s (headQ s.q bs).1 r owned p).2.2)
 else ((headQ s.q bs).1,(vdoM s (headQ s.q bs).1 r owned p).1,{ (vdoM s (headQ s.q bs).1 r owned p).2.1 with q:=(passQ (vdoM s (headQ s.q bs).1 r owned p).2.1.q).1 },0)
theorem VStep_t (b m:Nat) (s:Vi) (bs:List Int) (r:Ru) (i:It) {po:Option Addr} {co:Nat} {owned:List Int} {N:Nat} (hi:∀ w S,i.h w S→Sl w po (i64s owned)) (hl:owned.length < 9223372036854775807) (hF:Fits s N) (hN:N < 1099511627776) :
 Tri P F.zzcr [ptr b,ptr m,ruV r po owned.length co] [vitsI b s,memI m bs,i] fun v L'=>∃ p q cc,v = .tuple [cmV (vstepM s bs r owned p).1,.slice q (vstepM s bs r owned p).2.1.length cc,.int .i64 (vstepM s bs r owned p).2.2.2].toArray∧L' = [chs q cc (vstepM s bs r owned p).2.1,vitsI b (vstepM s bs r owned p).2.2.1,memI m bs,i]:=by
 intro w S hS
 refine zzly ?_
 unfold zzcr
 have H:=Own.start hS
 refine alc_o H fun b10 wx H=>alc_o H fun b12 wx H=>?_
 have err:∀ (e:Int) (s1:Vi) (wx:World) (p:Nat),vstepM s bs r owned p = (cm0,[],s1,e)→X.Own w S [vitsI b s1,memI m bs,i] wx →
  ∃ L',(∃ p q cc,(.tuple [.agg [.int .i64 0,.int .i64 0,.int .i64 0,.int .i64 0,.int .i64 0,.int .i64 0,.int .i64 0,.int .i64 0,.bool false].toArray,.slice none 0 0,.int .i64 e].toArray:Value) = .tuple [cmV (vstepM s bs r owned p).1,.slice q (vstepM s bs r owned p).2.1.length cc,.int .i64 (vstepM s bs r owned p).2.2.2].toArray∧L' = [chs q cc (vstepM s bs r owned p).2.1,vitsI b (vstepM s bs r owned p).2.2.1,memI m bs,i])∧X.Own w S L' wx:=by
  intro e s1 wx p h H
  refine ⟨_,⟨p,none,0,?_,rfl⟩,?_⟩
  · rw [h]; rfl
  · rw [h]; exact chs_nil H
 obtain ⟨bd,bc,H⟩:=zzag H (by repeat (first | exact Pick.here | apply Pick.there))
 dsimp only [nn]
 repeat (first | refine lIa H ?_ | refine lLa H ?_ | refine lBa H ?_ | refine lPa H ?_ | refine lSa H ?_)
 refine cnd_i (fun h=>?_) fun h=>?_
 · have h:s.on = false:=by simpa using h
   iterate 9 refine sta H fun wx H=>?_
   repeat (first | refine lIa H ?_ | refine lLa H ?_ | refine lBa H ?_ | refine lPa H ?_ | refine lSa H ?_)
   exact err 191 s _ 0 (by unfold vstepM; rw [if_pos h]) ((zzab (H.perm (L1:=[row b (s.cells bd bc) tVits,bookG ED tBookD bd (mapv DvI.e s.devs),bookG EI tBookI bc s.colls,starI (s.devs.map evI)]) (by repeat (first | exact Cut.nil | (apply Cut.cons; (repeat (first | exact Pick.here | apply Pick.there))))))).dp)
 have hon:¬ s.on = false:=by simpa using h
 repeat (first | refine lIa H ?_ | refine lLa H ?_ | refine lBa H ?_ | refine lPa H ?_ | refine lSa H ?_)
 refine cnd_i (fun h=>?_) fun h=>?_
 · have h:s.st = true:=h
   iterate 9 refine sta H fun wx H=>?_
   repeat (first | refine lIa H ?_ | refine lLa H ?_ | refine lBa H ?_ | refine lPa H ?_ | refine lSa H ?_)
   exact err 190 s _ 0 (by unfold vstepM; rw [if_neg hon,if_pos h]) ((zzab (H.perm (L1:=[row b (s.cells bd bc) tVits,bookG ED tBookD bd (mapv DvI.e s.devs),bookG EI tBookI bc s.colls,starI (s.devs.map evI)]) (by repeat (first | exact Cut.nil | (apply Cut.cons; (repeat (first | exact Pick.here | apply Pick.there))))))).dp)
 have hst:¬ s.st = true:=by rw [h]; simp
 repeat (first | refine lIa H ?_ | refine lLa H ?_ | refine lBa H ?_ | refine lPa H ?_ | refine lSa H ?_)
 refine cnd_i (fun h=>?_) fun h=>?_
 · have h:s.fit = false:=by simpa using h
   iterate 10 refine sta H fun wx H=>?_
   repeat (first | refine lIa H ?_ | refine lLa H ?_ | refine lBa H ?_ | refine lPa H ?_ | refine lSa H ?_)
   exact err 241 { s with st:=true } _ 0 (by unfold vstepM; rw [if_neg hon,if_neg hst,if_pos h]) ((zzab (s:={ s with st:=true }) (bd:=bd) (bc:=bc) (F:=[memI m bs,i]) (H.dp)))
 have hft:¬ s.fit = false:=by simpa using h
 repeat (first | refine lIa H ?_ | refine lLa H ?_ | refine lBa H ?_ | refine lPa H ?_ | refine lSa H ?_)
 refine call_p H (Head_t m s.q bs) (by repeat (first | exact Cut.nil | (apply Cut.cons; (repeat (first | exact Pick.here | apply Pick.there))))) fun wx H=>?_
 refine ⟨_,_,_,_,_,_,_,_,_,_,rfl,alc_o H fun b93 wx H=>?_⟩
 iterate 9 refine sta H fun wx H=>?_
 refine cnd_i (fun h=>?_) fun h=>?_
 · have h:(headQ s.q bs).2 = 170:=by simpa using h
   iterate 9 refine sta H fun wx H=>?_
   repeat (first | refine lIa H ?_ | refine lLa H ?_ | refine lBa H ?_ | refine lPa H ?_ | refine lSa H ?_)
   refine err _ s _ 0 ?_ ((zzab (H.perm (L1:=[row b (s.cells bd bc) tVits,bookG ED tBookD bd (mapv DvI.e s.devs),bookG EI tBookI bc s.colls,starI (s.devs.map evI)]) (by repeat (first | exact Cut.nil | (apply Cut.cons; (repeat (first | exact Pick.here | apply Pick.there))))))).dp)
   unfold vstepM; rw [if_neg hon,if_neg hst,if_neg hft,if_pos h,h]
 have hh1:¬ (headQ s.q bs).2 = 170:=by simpa using h
 have pre:∀ p M,(if (headQ s.q bs).2≠0 then (cm0,[],{ s with st:=true },(headQ s.q bs).2)
  else if (vdoM s (headQ s.q bs).1 r owned p).2.2≠0 then (cm0,[],{ (vdoM s (headQ s.q bs).1 r owned p).2.1 with st:=true },(vdoM s (headQ s.q bs).1 r owned p).2.2)
  else ((headQ s.q bs).1,(vdoM s (headQ s.q bs).1 r owned p).1,{ (vdoM s (headQ s.q bs).1 r owned p).2.1 with q:=(passQ (vdoM s (headQ s.q bs).1 r owned p).2.1.q).1 },0)) = M→vstepM s bs r owned p = M:=by
  intro p M hM
  unfold vstepM; rw [if_neg hon,if_neg hst,if_neg hft,if_neg hh1]; exact hM
 generalize hhd:headQ s.q bs = hd at *
 have H:=zzab (H.perm (L1:=[row b (s.cells bd bc) tVits,bookG ED tBookD bd (mapv DvI.e s.devs),bookG EI tBookI bc s.colls,starI (s.devs.map evI)]) (by repeat (first | exact Cut.nil | (apply Cut.cons; (repeat (first | exact Pick.here | apply Pick.there))))))
 refine join_o ?_
 have fin:∀ (p:Nat) (e:Int) (q:Option Addr) (cc:Nat) (xs:List Ch) (s1:Vi) (wx:World),vstepM s bs r owned p = (if e≠0 then (cm0,[],{ s1 with st:=true },e) else (hd.1,xs,{ s1 with q:=(passQ s1.q).1 },0))→X.Own w S [chs q cc xs,vitsI b s1,row b93 hd.1.cells tCmd,row b12 [.int .i64 0,.int .i64 0,.int .i64 0,.int .i64 0,.int .i64 0,.int .i64 0,.int .i64 0,.int .i64 0,.bool false] tCmd,memI m bs,i] wx →
  zzga (some ⟨b,0,none⟩) (fun v w'=>∃ L',(∃ p q cc,v = .tuple [cmV (vstepM s bs r owned p).1,.slice q (vstepM s bs r owned p).2.1.length cc,.int .i64 (vstepM s bs r owned p).2.2.2].toArray∧L' = [chs q cc (vstepM s bs r owned p).2.1,vitsI b (vstepM s bs r owned p).2.2.1,memI m bs,i])∧X.Own w S L' w') b12 b93 e q xs.length cc wx:=by
  intro p e q cc xs s1 wx hM H
  unfold zzga
  obtain ⟨bd,bc,H⟩:=zzag H (by repeat (first | exact Pick.here | apply Pick.there))
  dsimp only [nn]
  refine cnd_i (fun h=>?_) fun h=>?_
  · have h:e≠0:=by simpa using h
    rw [if_pos h] at hM
    iterate 10 refine sta H fun wx H=>?_
    repeat (first | refine lIa H ?_ | refine lLa H ?_ | refine lBa H ?_ | refine lPa H ?_ | refine lSa H ?_)
    exact err e { s1 with st:=true } _ p hM (zzab (s:={ s1 with st:=true }) (bd:=bd) (bc:=bc) (F:=[memI m bs,i]) (H.dp))
  · have h:¬ e≠0:=by simpa using h
    rw [if_neg h] at hM
    simp only [add_lit]
    refine call_o H (PassV_t b bd bc s1) (by repeat (first | exact Cut.nil | (apply Cut.cons; (repeat (first | exact Pick.here | apply Pick.there))))) fun vx L' wx hq H=>?_
    obtain ⟨rfl,rfl⟩:=hq
    simp only [List.cons_append,List.nil_append] at H
    refine ⟨_,rfl,?_⟩
    repeat (first | refine lIa H ?_ | refine lLa H ?_ | refine lBa H ?_ | refine lPa H ?_ | refine lSa H ?_)
    iterate 9 refine sta H fun wx H=>?_
    repeat (first | refine lIa H ?_ | refine lLa H ?_ | refine lBa H ?_ | refine lPa H ?_ | refine lSa H ?_)
    refine ⟨_,⟨p,q,cc,?_,rfl⟩,?_⟩
    · rw [hM]; rfl
    · rw [hM]
      have H:=zzab (s:={ s1 with q:=(passQ s1.q).1 }) (bd:=bd) (bc:=bc) (F:=[chs q cc xs,memI m bs,i]) (H.dp)
      exact H.dp
 refine cnd_i (fun h=>?_) fun h=>?_
 · have h:hd.2 = 0:=by simpa using h
   repeat (first | refine lIa H ?_ | refine lLa H ?_ | refine lBa H ?_ | refine lPa H ?_ | refine lSa H ?_)
   refine call_o H (VDo_t b s hd.1 r i hi hl hF hN) (by repeat (first | exact Cut.nil | (apply Cut.cons; (repeat (first | exact Pick.here | apply Pick.there))))) fun vx L' wx hq H=>?_
   obtain ⟨p,q,cc,rfl,rfl⟩:=hq
   simp only [List.cons_append,List.nil_append] at H
   refine ⟨_,_,_,_,rfl,?_⟩
   exact fin p _ q cc _ _ wx (pre p _ (by rw [if_neg (by rw [h]; simp)])) (H.dp)
 · have h:hd.2≠0:=by simpa using h
   have H:=chs_nil H
   exact fin 0 hd.2 none 0 [] s _ (pre 0 _ (by rw [if_pos h,if_pos h])) (H.dp)
open Go X
abbrev tRr:TypeId:=T.t199
abbrev tRrs:TypeId:=T.t131
theorem appRrs:appB P tRrs tRr 4 32 = true:=by kernel_rfl
theorem zeroRr:zeroC P tRr = some [.int .i64 0,.int .i64 0,.int .i64 0,.int .i64 0]:=by kernel_rfl
abbrev tRc:TypeId:=T.t73
abbrev tRcs:TypeId:=T.t74
theorem appRcs:appB P tRcs tRc 6 48 = true:=by kernel_rfl
theorem zeroRc:zeroC P tRc = some [.int .i64 0,.int .i64 0,.int .i64 0,.int .i64 0,.int .i64 0,.int .i64 0]:=by kernel_rfl
abbrev tRv:TypeId:=T.t134
abbrev tRru:TypeId:=T.t38
open Go Go.RowKit X
structure Rr where
 dev:Int
 ev:Int
 num:Int
 coll:Int
abbrev Rr.cells (x:Rr):List Value:=[.int .i64 x.dev,.int .i64 x.ev,.int .i64 x.num,.int .i64 x.coll]
def rr0:Rr:=⟨0,0,0,0⟩
noncomputable abbrev EQ:El P where
 α:=Rr
 enc:=Rr.cells
 z:=4
 ta:=tRrs
 te:=tRr
 bytes:=32
 zs:=[.int .i64 0,.int .i64 0,.int .i64 0,.int .i64 0]
 hT:=appRrs
 hZ:=zeroRr
 hz1:=by simp [Value.oneCell']
 hlen:=fun _=>rfl
 h1:=by intro x u hu; simp only [Rr.cells,List.mem_cons,List.not_mem_nil,or_false] at hu; rcases hu with rfl | rfl | rfl | rfl <;> rfl
 hz:=by omega
 hb:=by omega
noncomputable abbrev ED2:El P where
 α:=Ch
 enc:=Ch.cells
 z:=6
 ta:=tRcs
 te:=tRc
 bytes:=48
 zs:=[.int .i64 0,.int .i64 0,.int .i64 0,.int .i64 0,.int .i64 0,.int .i64 0]
 hT:=appRcs
 hZ:=zeroRc
 hz1:=by simp [Value.oneCell']
 hlen:=fun _=>rfl
 h1:=by intro x u hu; simp only [Ch.cells,List.mem_cons,List.not_mem_nil,or_false] at hu; rcases hu with rfl | rfl | rfl | rfl | rfl | rfl <;> rfl
 hz:=by omega
 hb:=by omega
noncomputable abbrev rcs (p:Option Addr) (c:Nat) (xs:List Ch):It:=els ED2 p c xs
structure Rv where
 on:Bool
 st:Bool
 fit:Bool
 base:Int
 q:Qu
 devs:List Int
 bits:List Int
 routes:List Rr
 colls:List Int
structure Sls where
 (p1:Option Addr) (c1:Nat) (p2:Option Addr) (c2:Nat) (p3:Option Addr) (c3:Nat)
abbrev Rv.cells (d:Rv) (a:Sls):List Value:=.bool d.on :: .bool d.st :: .bool d.fit :: .int .u64 d.base :: .int .i64 d.q.a :: .int .i64 d.q.s :: .int .i64 d.q.r :: .int .i64 d.q.w ::
 .slice a.p1 d.devs.length a.c1 :: .slice a.p2 d.bits.length a.c2 :: .slice a.p3 d.routes.length a.c3 :: i64s d.colls
noncomputable abbrev rL (b:Nat) (d:Rv) (a:Sls):List It:=[row b (d.cells a) tRv,nums a.p1 a.c1 d.devs,nums a.p2 a.c2 d.bits,els EQ a.p3 a.c3 d.routes]
noncomputable def refI (b:Nat) (d:Rv):It:=exI (fun _:Sls=>d.colls.length = 8) (rL b d)
section
variable {w w0:World} {S0:Nat→Prop}
theorem ref_open {L F:List It} {b:Nat} {d:Rv} (H:X.Own w0 S0 L w) (hp:Pick L (refI b d) F):∃ a:Sls,d.colls.length = 8∧X.Own w0 S0 (row b (d.cells a) tRv :: nums a.p1 a.c1 d.devs :: nums a.p2 a.c2 d.bits :: els EQ a.p3 a.c3 d.routes :: F) w:=by
 obtain ⟨a,h,H⟩:=ex_open H hp
 exact ⟨a,h,H⟩
theorem ref_shut {F:List It} {b:Nat} {d:Rv} {a:Sls} (h:d.colls.length = 8) (H:X.Own w0 S0 (row b (d.cells a) tRv :: nums a.p1 a.c1 d.devs :: nums a.p2 a.c2 d.bits :: els EQ a.p3 a.c3 d.routes :: F) w):X.Own w0 S0 (refI b d :: F) w :=
 ex_shut (f:=rL b d) a h H
end
def posL {α:Type} (p:α→Bool) (l:List α):Int:=if l.findIdx p < l.length then (l.findIdx p:Int) else -1
theorem posL_hit {α:Type} {p:α→Bool} {l:List α} {k:Nat} (hk:k < l.length) (h:p l[k] = true) (hno:∀ x∈l.take k,p x = false):posL p l = k:=by
 have:l.findIdx p = k:=by
  rw [List.findIdx_eq hk]
  refine ⟨h,fun j hj=>?_⟩
  have hjl:j < l.length:=by omega
  have:=hno l[j] (List.mem_iff_getElem?.2 ⟨j,by rw [List.getElem?_take,if_pos hj,List.getElem?_eq_getElem hjl]⟩)
  exact this
 unfold posL
 rw [this,if_pos hk]
theorem posL_none {α:Type} {p:α→Bool} {l:List α} (h:∀ x∈l,p x = false):posL p l = -1:=by
 unfold posL
 rw [if_neg]
 have:=List.findIdx_eq_length (p:=p) (xs:=l)
 rw [this.2 h]; omega
theorem posL_cases {α:Type} (p:α→Bool) (l:List α):(posL p l = -1∧∀ x∈l,p x = false)∨∃ k:Nat,posL p l = k∧∃ h:k < l.length,p l[k] = true∧∀ x∈l.take k,p x = false:=by
 by_cases h:l.findIdx p < l.length
 · right
   refine ⟨l.findIdx p,by unfold posL; rw [if_pos h],h,List.findIdx_getElem (w:=h),?_⟩
   intro x hx
   obtain ⟨j,hj⟩:=List.mem_iff_getElem?.1 hx
   rw [List.getElem?_take] at hj
   split at hj
   · rename_i hlt
     have hjl:j < l.length:=by omega
     rw [List.getElem?_eq_getElem hjl] at hj
     cases hj
     exact List.not_of_lt_findIdx hlt
   · cases hj
 · left
   refine ⟨by unfold posL; rw [if_neg h],?_⟩
   have:l.findIdx p = l.length:=by have:=List.findIdx_le_length (p:=p) (xs:=l); omega
   exact List.findIdx_eq_length.1 this
def atR (d:Rv) (dev:Int):Int:=posL (fun x=>x == dev) d.devs
def findR (d:Rv) (dev ev:Int):Int:=posL (fun x:Rr=>x.dev == dev && x.ev == ev) d.routes
def Rv.Small (d:Rv):Prop:=d.devs.length < 2199023255552∧d.bits.length < 2199023255552∧d.routes.length < 2199023255552
theorem at_t (b:Nat) (d:Rv) (dev:Int) (hs:d.Small):Tri P F.zzaW [ptr b,.int .i64 dev] [refI b d] fun v L'=>v = .int .i64 (atR d dev)∧L' = [refI b d]:=by
 intro w S hS
 refine zzjQ ?_
 unfold zzaW
 have H:=Own.start hS
 obtain ⟨a,hc8,H⟩:=ref_open H .here
 obtain ⟨hs1,-,-⟩:=hs
 refine loop_o (fun (st:Int) L=>∃ k:Nat,k≤d.devs.length∧st = k∧(∀ x∈d.devs.take k,(x == dev) = false)∧L = rL b d a) (fun (st:Int)=>((d.devs.length:Int) - st).toNat) H ⟨0,by omega,rfl,by simp,rfl⟩ ?_
 rintro _ _ wx ⟨k,hk,rfl,hno,rfl⟩ H
 unfold zzg4
 dsimp only [nn]
 repeat (first | refine lIa H ?_ | refine lLa H ?_ | refine lBa H ?_ | refine lPa H ?_ | refine lSa H ?_)
 refine cnd_i (fun h=>?_) fun h=>?_
 · have h:=of_decide_eq_true h
   have hkl:k < d.devs.length:=by omega
   repeat (first | refine lIa H ?_ | refine lLa H ?_ | refine lBa H ?_ | refine lPa H ?_ | refine lSa H ?_)
   refine ⟨⟨by omega,by omega⟩,?_⟩
   rw [Int.toNat_natCast]
   obtain ⟨dd,hp,hcell⟩:=els_at (E:=EI) (q:=a.p1) (c:=a.c1) H (by repeat (first | exact Pick.here | apply Pick.there)) (List.getElem?_eq_getElem hkl)
   rw [hp]
   dsimp only [nn]
   refine ⟨_,by rw [add_lit,Nat.zero_add]; exact hcell 0 _ rfl,cnd_i (fun he=>?_) fun he=>?_⟩
   · refine ⟨_,⟨?_,rfl⟩,ref_shut hc8 H⟩
     unfold atR
     rw [posL_hit hkl he hno]
   · rw [W_id (by omega) (by omega)]
     refine ⟨⟨_,⟨k + 1,by omega,by push_cast; rfl,?_,rfl⟩,H⟩,by omega⟩
     intro x hx
     rw [List.take_succ_eq_append_getElem hkl] at hx
     rcases List.mem_append.1 hx with hx | hx
     · exact hno x hx
     · rw [List.mem_singleton.1 hx]; exact he
 · have h:=of_decide_eq_false h
   rw [List.take_of_length_le (by omega)] at hno
   refine ⟨_,⟨?_,rfl⟩,ref_shut hc8 H⟩
   unfold atR
   rw [posL_none hno]
theorem rfind_t (b:Nat) (d:Rv) (dev ev:Int) (hs:d.Small):Tri P F.zzap [ptr b,.int .i64 dev,.int .i64 ev] [refI b d] fun v L'=>v = .int .i64 (findR d dev ev)∧L' = [refI b d]:=by
 intro w S hS
 refine zzjy ?_
 unfold zzap
 have H:=Own.start hS
 obtain ⟨a,hc8,H⟩:=ref_open H .here
 obtain ⟨-,-,hs1⟩:=hs
 refine loop_o (fun (st:Int) L=>∃ k:Nat,k≤d.routes.length∧st = k∧(∀ x∈d.routes.take k,(x.dev == dev && x.ev == ev) = false)∧L = rL b d a) (fun (st:Int)=>((d.routes.length:Int) - st).toNat) H ⟨0,by omega,rfl,by simp,rfl⟩ ?_
 rintro _ _ wx ⟨k,hk,rfl,hno,rfl⟩ H
 unfold zzf8
 dsimp only [nn]
 repeat (first | refine lIa H ?_ | refine lLa H ?_ | refine lBa H ?_ | refine lPa H ?_ | refine lSa H ?_)
 refine cnd_i (fun h=>join_o ?_) fun h=>?_
 · have h:=of_decide_eq_true h
   have hkl:k < d.routes.length:=by omega
   have fin:∀ x:Bool,x = (d.routes[k].dev == dev && d.routes[k].ev == ev)→zzec (fun v w'=>∃ L',(v = .int .i64 (findR d dev ev)∧L' = [refI b d])∧X.Own w S L' w') (k:Int)
    (fun (s':Int) w'=>(∃ L',(∃ k:Nat,k≤d.routes.length∧s' = (k:Int)∧(∀ x∈d.routes.take k,(x.dev == dev && x.ev == ev) = false)∧L' = rL b d a)∧X.Own w S L' w')∧((d.routes.length:Int) - s').toNat < ((d.routes.length:Int) - (k:Int)).toNat) x wx:=by
    rintro x hx
    unfold zzec
    refine cnd_i (fun he=>?_) fun he=>?_
    · refine ⟨_,⟨?_,rfl⟩,ref_shut hc8 H⟩
      unfold findR
      rw [posL_hit (p:=fun x:Rr=>x.dev == dev && x.ev == ev) hkl (by rw [← hx]; exact he) hno]
    · rw [W_id (by omega) (by omega)]
      refine ⟨⟨_,⟨k + 1,by omega,by push_cast; rfl,?_,rfl⟩,H⟩,by omega⟩
      intro x' hx'
      rw [List.take_succ_eq_append_getElem hkl] at hx'
      rcases List.mem_append.1 hx' with hx' | hx'
      · exact hno x' hx'
      · rw [List.mem_singleton.1 hx',← hx]; exact he
   repeat (first | refine lIa H ?_ | refine lLa H ?_ | refine lBa H ?_ | refine lPa H ?_ | refine lSa H ?_)
   refine ⟨⟨by omega,by omega⟩,?_⟩
   rw [Int.toNat_natCast]
   obtain ⟨dd,hp,hcell⟩:=els_at (E:=EQ) (q:=a.p3) (c:=a.c3) H (by repeat (first | exact Pick.here | apply Pick.there)) (List.getElem?_eq_getElem hkl)
   rw [hp]
   dsimp only [nn]
   refine ⟨_,by rw [add_lit,Nat.zero_add]; exact hcell 0 _ rfl,cnd_i (fun he=>?_) fun he=>?_⟩
   · refine ldL_o H (by repeat (first | exact Pick.here | apply Pick.there)) (by rfl) ⟨⟨by omega,by omega⟩,?_⟩
     rw [Int.toNat_natCast,hp]
     dsimp only [nn]
     refine ⟨_,by rw [add_lit,add_lit,Nat.zero_add]; exact hcell 1 _ rfl,fin _ (by rw [he,Bool.true_and])⟩
   · exact fin _ (by rw [he,Bool.false_and])
 · have h:=of_decide_eq_false h
   rw [List.take_of_length_le (by omega)] at hno
   refine ⟨_,⟨?_,rfl⟩,ref_shut hc8 H⟩
   unfold findR
   rw [posL_none (p:=fun x:Rr=>x.dev == dev && x.ev == ev) hno]
def goesR (d:Rv) (c:Int):Int×Int:=if 0≤c∧c < 8∧0≤d.colls.getD c.toNat 0 then (d.colls.getD c.toNat 0,0) else (0,183)
theorem colls_at {d:Rv} {a:Sls} {j:Nat} (h8:d.colls.length = 8) (hj:j < 8):(d.cells a)[11 + j]? = some (.int .i64 (d.colls.getD j 0)):=by
 show (_ :: _ :: _ :: _ :: _ :: _ :: _ :: _ :: _ :: _ :: _ :: i64s d.colls)[11 + j]? = _
 rw [show 11 + j = j + 11 by omega]
 simp only [List.getElem?_cons_succ]
 rw [i64s_get (by omega),List.getD_eq_getElem?_getD,List.getElem?_eq_getElem (by omega)]; rfl
theorem rgoes_t (b:Nat) (d:Rv) (c:Int):Tri P F.zzaD [ptr b,.int .i64 c] [refI b d] fun v L'=>v = .tuple [.int .i64 (goesR d c).1,.int .i64 (goesR d c).2].toArray∧L' = [refI b d]:=by
 intro w S hS
 refine zzju ?_
 unfold zzaD
 have H:=Own.start hS
 obtain ⟨a,hc8,H⟩:=ref_open H .here
 refine join_o ?_
 unfold zzf1
 dsimp only [nn]
 refine cnd_i (fun h=>cnd_i (fun _=>?_) (fun h=>by cases h)) fun h=>cnd_i (fun h2=>cnd_i (fun _=>?_) (fun h=>by cases h)) fun h2=>?_
 · have h:=of_decide_eq_true h
   exact ⟨_,⟨by unfold goesR; rw [if_neg (by omega)],rfl⟩,ref_shut hc8 H⟩
 · have h2:=of_decide_eq_true h2
   exact ⟨_,⟨by unfold goesR; rw [if_neg (by omega)],rfl⟩,ref_shut hc8 H⟩
 have h:=of_decide_eq_false h
 have h2:=of_decide_eq_false h2
 obtain ⟨j,rfl⟩:=Int.eq_ofNat_of_zero_le (show 0≤c by omega)
 have hj:j < 8:=by omega
 have hcell:=colls_at (a:=a) hc8 hj
 refine ix_i hj ?_
 rw [add_lit,add_lit,Nat.mul_one,Nat.zero_add]
 refine ldI_o H .here hcell (cnd_i (fun h3=>?_) fun h3=>ix_i hj ?_)
 · have h3:=of_decide_eq_true h3
   exact ⟨_,⟨by unfold goesR; rw [Int.toNat_natCast,if_neg (by omega)],rfl⟩,ref_shut hc8 H⟩
 · have h3:=of_decide_eq_false h3
   rw [Nat.mul_one,add_lit]
   refine ldI_o H .here hcell ?_
   exact ⟨_,⟨by unfold goesR; rw [Int.toNat_natCast,if_pos (by omega)],rfl⟩,ref_shut hc8 H⟩
def eventR (d:Rv) (dev ev:Int):Rr×Int:=if atR d dev < 0 then (rr0,181) else if findR d dev ev < 0 then (rr0,182) else (d.routes.getD (findR d dev ev).toNat rr0,0)
theorem revent_t (b:Nat) (d:Rv) (dev ev:Int) (hs:d.Small):Tri P F.zzaS [ptr b,.int .i64 dev,.int .i64 ev] [refI b d] fun v L'=>v = .tuple [.agg (eventR d dev ev).1.cells.toArray,.int .i64 (eventR d dev ev).2].toArray∧L' = [refI b d]:=by
 intro w S hS
 refine zzjh ?_
 unfold zzaS
 have H:=Own.start hS
 refine alc_o H fun b4 wx H=>?_
 refine call_pa H (at_t b d dev hs) fun wx H=>?_
 refine ⟨_,rfl,cnd_i (fun h=>?_) fun h=>?_⟩
 · iterate 4 refine sta H fun wx H=>?_
   repeat (first | refine lIa H ?_ | refine lLa H ?_ | refine lBa H ?_ | refine lPa H ?_ | refine lSa H ?_)
   exact ⟨_,⟨by unfold eventR; rw [if_pos (of_decide_eq_true h)]; rfl,rfl⟩,H.dp⟩
 have h:=of_decide_eq_false h
 refine call_pa H (rfind_t b d dev ev hs) fun wx H=>?_
 refine ⟨_,rfl,cnd_i (fun h2=>?_) fun h2=>?_⟩
 · iterate 4 refine sta H fun wx H=>?_
   repeat (first | refine lIa H ?_ | refine lLa H ?_ | refine lBa H ?_ | refine lPa H ?_ | refine lSa H ?_)
   exact ⟨_,⟨by unfold eventR; rw [if_neg h,if_pos (of_decide_eq_true h2)]; rfl,rfl⟩,H.dp⟩
 have h2:=of_decide_eq_false h2
 rcases posL_cases (fun x:Rr=>x.dev == dev && x.ev == ev) d.routes with ⟨h3,_⟩ | ⟨k,h3,hkl,h4,h5⟩
 · exact absurd h3 (by unfold findR at h2; omega)
 have h3:findR d dev ev = k:=h3
 have he:eventR d dev ev = (d.routes[k],0):=by
  unfold eventR
  rw [if_neg h,if_neg h2,h3,Int.toNat_natCast,List.getD_eq_getElem?_getD,List.getElem?_eq_getElem hkl]; rfl
 rw [he,h3]
 obtain ⟨a,hc8,H⟩:=ref_open H (by repeat (first | exact Pick.here | apply Pick.there))
 dsimp only [nn]
 repeat (first | refine lIa H ?_ | refine lLa H ?_ | refine lBa H ?_ | refine lPa H ?_ | refine lSa H ?_)
 refine ⟨⟨by omega,by omega⟩,?_⟩
 rw [Int.toNat_natCast]
 obtain ⟨dd,hp,hcell⟩:=els_at (E:=EQ) (q:=a.p3) (c:=a.c3) H (by repeat (first | exact Pick.here | apply Pick.there)) (List.getElem?_eq_getElem hkl)
 have H:=ref_shut hc8 H
 rw [hp]
 dsimp only [nn]
 have hce:∀ i v,(d.routes[k]).cells[i]? = some v→wx.cell? (((⟨dd,0,none⟩:Addr).add (k * 4)).add i) = some v:=by
  intro i v hv
  rw [add_lit,add_lit,Nat.zero_add]; exact hcell i v hv
 refine ⟨_,by rw [add_lit,Nat.zero_add]; exact hcell 0 _ rfl,_,hce 1 _ rfl,_,hce 2 _ rfl,_,hce 3 _ rfl,?_⟩
 iterate 4 refine sta H fun wx H=>?_
 repeat (first | refine lIa H ?_ | refine lLa H ?_ | refine lBa H ?_ | refine lPa H ?_ | refine lSa H ?_)
 exact ⟨_,⟨rfl,rfl⟩,H.dp⟩
def routeR (d:Rv) (dev ev:Int):RtE×Int×Int :=
 if (eventR d dev ev).2≠0 then (rt0,0,(eventR d dev ev).2)
 else if (goesR d (eventR d dev ev).1.coll).2≠0 then (rt0,0,(goesR d (eventR d dev ev).1.coll).2)
 else (⟨(eventR d dev ev).1.num,(eventR d dev ev).1.coll,true⟩,(goesR d (eventR d dev ev).1.coll).1,0)
theorem rRoute_t (b:Nat) (d:Rv) (dev ev:Int) (hs:d.Small):Tri P F.zzaJ [ptr b,.int .i64 dev,.int .i64 ev] [refI b d] fun v L'=>v = .tuple [rtV (routeR d dev ev).1,.int .i64 (routeR d dev ev).2.1,.int .i64 (routeR d dev ev).2.2].toArray∧L' = [refI b d]:=by
 intro w S hS
 refine zziY ?_
 unfold zzaJ
 have H:=Own.start hS
 refine alc_o H fun b4 wx H=>?_
 refine call_pa H (revent_t b d dev ev hs) fun wx H=>?_
 refine ⟨_,_,_,_,_,rfl,alc_o H fun b13 wx H=>?_⟩
 iterate 4 refine sta H fun wx H=>?_
 unfold routeR
 refine cnd_i (fun h=>?_) fun h=>?_
 · rw [if_pos (by simpa using h)]
   iterate 3 refine sta H fun wx H=>?_
   repeat (first | refine lIa H ?_ | refine lLa H ?_ | refine lBa H ?_ | refine lPa H ?_ | refine lSa H ?_)
   exact ⟨_,⟨rfl,rfl⟩,H.dp⟩
 rw [if_neg (by simpa using h)]
 repeat (first | refine lIa H ?_ | refine lLa H ?_ | refine lBa H ?_ | refine lPa H ?_ | refine lSa H ?_)
 refine call_pa H (rgoes_t b d (eventR d dev ev).1.coll) fun wx H=>?_
 refine ⟨_,_,rfl,cnd_i (fun h=>?_) fun h=>?_⟩
 · rw [if_pos (by simpa using h)]
   iterate 3 refine sta H fun wx H=>?_
   repeat (first | refine lIa H ?_ | refine lLa H ?_ | refine lBa H ?_ | refine lPa H ?_ | refine lSa H ?_)
   exact ⟨_,⟨rfl,rfl⟩,H.dp⟩
 rw [if_neg (by simpa using h)]
 repeat (first | refine lIa H ?_ | refine lLa H ?_ | refine lBa H ?_ | refine lPa H ?_ | refine lSa H ?_)
 iterate 3 refine sta H fun wx H=>?_
 repeat (first | refine lIa H ?_ | refine lLa H ?_ | refine lBa H ?_ | refine lPa H ?_ | refine lSa H ?_)
 exact ⟨_,⟨rfl,rfl⟩,H.dp⟩
def bindR (d:Rv) (dev ev:Int):Ch :=
 if (routeR d dev ev).2.2≠0 then ⟨2,dev,ev,0,0,0⟩ else ⟨1,dev,ev,(routeR d dev ev).1.num,0,(routeR d dev ev).2.1⟩
theorem rbind_t (b:Nat) (d:Rv) (dev ev:Int) (hs:d.Small):Tri P F.zzas [ptr b,.int .i64 dev,.int .i64 ev] [refI b d] fun v L'=>v = chV (bindR d dev ev)∧L' = [refI b d]:=by
 intro w S hS
 refine zzii ?_
 unfold zzas
 have H:=Own.start hS
 refine alc_o H fun b4 wx H=>?_
 refine call_pa H (rRoute_t b d dev ev hs) fun wx H=>?_
 refine ⟨_,_,_,_,_,rfl,alc_o H fun b13 wx H=>?_⟩
 iterate 3 refine sta H fun wx H=>?_
 unfold bindR
 refine cnd_i (fun h=>?_) fun h=>?_
 · rw [if_pos (by simpa using h)]
   iterate 6 refine sta H fun wx H=>?_
   repeat (first | refine lIa H ?_ | refine lLa H ?_ | refine lBa H ?_ | refine lPa H ?_ | refine lSa H ?_)
   exact ⟨_,⟨rfl,rfl⟩,H.dp⟩
 · rw [if_neg (by simpa using h)]
   repeat (first | refine lIa H ?_ | refine lLa H ?_ | refine lBa H ?_ | refine lPa H ?_ | refine lSa H ?_)
   iterate 6 refine sta H fun wx H=>?_
   repeat (first | refine lIa H ?_ | refine lLa H ?_ | refine lBa H ?_ | refine lPa H ?_ | refine lSa H ?_)
   exact ⟨_,⟨rfl,rfl⟩,H.dp⟩
def dropAt {α:Type} (i:Int) (l:List α):List α:=if i < 0 then l else l.eraseIdx i.toNat
theorem dropAt_next {α:Type} {i:Int} {l:List α} {k:Nat} {x:α} (h:l[k]? = some x):dropAt i (l.take (k + 1)) = dropAt i (l.take k) ++ if (k:Int) = i then [] else [x]:=by
 have hl:=(List.getElem?_eq_some_iff.1 h).1
 have e:l.take (k + 1) = l.take k ++ [x]:=by rw [List.take_add_one,h]; rfl
 have hlen:(l.take k).length = k:=by rw [List.length_take]; omega
 unfold dropAt
 rw [e]
 by_cases hi:i < 0
 · rw [if_pos hi,if_pos hi,if_neg (by omega)]
 · rw [if_neg hi,if_neg hi]
   obtain ⟨j,rfl⟩:=Int.eq_ofNat_of_zero_le (show 0≤i by omega)
   rw [Int.toNat_natCast]
   by_cases hk:k = j
   · subst hk
     rw [if_pos rfl,List.append_nil,List.eraseIdx_append_of_length_le (by omega),hlen,List.eraseIdx_of_length_le (k:=k) (l:=l.take k) (by omega)]
     simp
   · rw [if_neg (by omega)]
     by_cases hj:j < k
     · rw [List.eraseIdx_append_of_lt_length (by omega)]
     · rw [List.eraseIdx_of_length_le (by simp; omega),List.eraseIdx_of_length_le (by omega)]
theorem dropAt_len {α:Type} (i:Int) (l:List α):(dropAt i l).length≤l.length:=by
 unfold dropAt
 split
 · exact Nat.le_refl _
 · rw [List.length_eraseIdx]; split <;> omega
def rforgS (d:Rv) (dev ev:Int):Rv:={ d with routes:=dropAt (findR d dev ev) d.routes }
def rforgC (d:Rv) (dev ev:Int):List Ch :=
 (if (routeR d dev ev).2.2 = 0 then [⟨4,0,0,(routeR d dev ev).1.num,(routeR d dev ev).2.1,0⟩] else []) ++ [bindR (rforgS d dev ev) dev ev]
theorem app_rc {w w0:World} {S0:Nat→Prop} {L F F2:List It} {p:Option Addr} {c b:Nat} {xs:List Ch} {x:Ch} {t ty:TypeId} {c2:Nat} (H:X.Own w0 S0 L w) (hp:Pick L (rcs p c xs) F) (hq:Pick L (row b x.cells t) F2) (hl:xs.length < NC) {K:Option Addr→Nat→Nat→World→Prop}
 (k:∀ p' c' w',X.Own w0 S0 (rcs p' c' (xs ++ [x]) :: F) w'→K p' (xs ++ [x]).length c' w') :
 runS P (Builtin.append_ #[tRcs,tRcs] ty [.slice p xs.length c,.slice (some ⟨b,0,none⟩) 1 c2].toArray) w K:=by
 unfold NC at hl
 refine app_els (E:=ED2) (ys:=[x]) H hp (F2:=F2) (b:=b) (t:=t) ?_ rfl ?_ ?_ k
 · show Pick L (row b (x.cells ++ []) t) F2
   rw [List.append_nil]; exact hq
 · show (xs.length + 1) * 48≤_; omega
 · show xs.length + 1≤NB; unfold NB; omega
theorem app_rr {w w0:World} {S0:Nat→Prop} {L F F2:List It} {p:Option Addr} {c b:Nat} {xs:List Rr} {x:Rr} {t ty:TypeId} {c2:Nat} (H:X.Own w0 S0 L w) (hp:Pick L (els EQ p c xs) F) (hq:Pick L (row b x.cells t) F2) (hl:xs.length < NC) {K:Option Addr→Nat→Nat→World→Prop}
 (k:∀ p' c' w',X.Own w0 S0 (els EQ p' c' (xs ++ [x]) :: F) w'→K p' (xs ++ [x]).length c' w') :
 runS P (Builtin.append_ #[tRrs,tRrs] ty [.slice p xs.length c,.slice (some ⟨b,0,none⟩) 1 c2].toArray) w K:=by
 unfold NC at hl
 refine app_els (E:=EQ) (ys:=[x]) H hp (F2:=F2) (b:=b) (t:=t) ?_ rfl ?_ ?_ k
 · show Pick L (row b (x.cells ++ []) t) F2
   rw [List.append_nil]; exact hq
 · show (xs.length + 1) * 32≤_; omega
 · show xs.length + 1≤NB; unfold NB; omega
theorem app_i64 {w w0:World} {S0:Nat→Prop} {L F F2:List It} {p:Option Addr} {c b:Nat} {xs:List Int} {x:Int} {t ty:TypeId} {c2:Nat} (H:X.Own w0 S0 L w) (hp:Pick L (nums p c xs) F) (hq:Pick L (row b [.int .i64 x] t) F2) (hl:xs.length < NB) {K:Option Addr→Nat→Nat→World→Prop}
 (k:∀ p' c' w',X.Own w0 S0 (nums p' c' (xs ++ [x]) :: F) w'→K p' (xs ++ [x]).length c' w') :
 runS P (Builtin.append_ #[tInts,tInts] ty [.slice p xs.length c,.slice (some ⟨b,0,none⟩) 1 c2].toArray) w K:=by
 unfold NB at hl
 refine app_els (E:=EI) (ys:=[x]) H hp (F2:=F2) (b:=b) (t:=t) hq rfl ?_ ?_ k
 · show (xs.length + 1) * 8≤_; omega
 · show xs.length + 1≤NB; unfold NB; omega
theorem Rv.Small.forg {d:Rv} (hs:d.Small) (dev ev:Int):(rforgS d dev ev).Small:=by
 obtain ⟨h1,h2,h3⟩:=hs
 refine ⟨h1,h2,?_⟩
 have:=dropAt_len (findR d dev ev) d.routes
 show (dropAt _ _).length < _
 omega
theorem rforget_t (b:Nat) (d:Rv) (dev ev:Int) (hs:d.Small):Tri P F.zzaE [ptr b,.int .i64 dev,.int .i64 ev] [refI b d] fun v L'=>∃ p c,v = .slice p (rforgC d dev ev).length c∧L' = [rcs p c (rforgC d dev ev),refI b (rforgS d dev ev)]:=by
 intro w S hS
 refine zziM ?_
 unfold zzaE
 have H:=Own.start hS
 have fin:∀ (p:Option Addr) (c:Nat) (wx:World) (xs:List Ch),xs = (if (routeR d dev ev).2.2 = 0 then [⟨4,0,0,(routeR d dev ev).1.num,(routeR d dev ev).2.1,0⟩] else [])→X.Own w S [rcs p c xs,refI b d] wx →
  zzdo (some ⟨b,0,none⟩) dev ev (fun v w'=>∃ L',(∃ p c,v = .slice p (rforgC d dev ev).length c∧L' = [rcs p c (rforgC d dev ev),refI b (rforgS d dev ev)])∧X.Own w S L' w') p xs.length c wx:=by
  intro p c wx xs hxs H
  have hxl:xs.length≤1:=by rw [hxs]; split <;> simp
  unfold zzdo
  refine call_pa H (rfind_t b d dev ev hs) fun wx H=>?_
  refine ⟨_,rfl,?_⟩
  obtain ⟨a,hc8,H⟩:=ref_open H (by repeat (first | exact Pick.here | apply Pick.there))
  have H:=own_nil (e:=EQ.te) (size:=EQ.z) H
  have H:=H.drop (L1:=[els EQ none 0 [],rcs p c xs,row b (d.cells a) tRv,nums a.p1 a.c1 d.devs,nums a.p2 a.c2 d.bits,els EQ a.p3 a.c3 d.routes]) (by repeat (first | exact Cut.nil | (apply Cut.cons; (repeat (first | exact Pick.here | apply Pick.there)))))
  have hs3:=hs.2.2
  refine loop_o (fun (st:(Option Addr×Nat×Nat)×Int) L=>∃ (k:Nat) (q:Option Addr) (cq:Nat),k≤d.routes.length∧st = ((q,(dropAt (findR d dev ev) (d.routes.take k)).length,cq),(k:Int))∧L = els EQ q cq (dropAt (findR d dev ev) (d.routes.take k)) :: rcs p c xs :: rL b d a)
   (fun (st:(Option Addr×Nat×Nat)×Int)=>((d.routes.length:Int) - st.2).toNat) H ⟨0,none,0,by omega,by simp [dropAt],by simp [dropAt]⟩ ?_
  rintro _ _ wx ⟨k,q,cq,hk,rfl,rfl⟩ H
  unfold zzfn
  dsimp only [nn]
  repeat (first | refine lIa H ?_ | refine lLa H ?_ | refine lBa H ?_ | refine lPa H ?_ | refine lSa H ?_)
  refine cnd_i (fun h=>join_o ?_) fun h=>?_
  · have h:=of_decide_eq_true h
    have hkl:k < d.routes.length:=by omega
    have hx:d.routes[k]? = some d.routes[k]:=List.getElem?_eq_getElem hkl
    have hnx:=dropAt_next (i:=findR d dev ev) hx
    have hdl:=dropAt_len (findR d dev ev) (d.routes.take k)
    rw [List.length_take] at hdl
    unfold zzfm
    rw [W_id (by omega) (by omega)]
    refine cnd_i (fun he=>?_) fun he=>?_
    · have he:¬ (k:Int) = findR d dev ev:=by simpa using he
      rw [if_neg he] at hnx
      repeat (first | refine lIa H ?_ | refine lLa H ?_ | refine lBa H ?_ | refine lPa H ?_ | refine lSa H ?_)
      refine ⟨⟨by omega,by omega⟩,?_⟩
      rw [Int.toNat_natCast]
      obtain ⟨dd,hp,hcell⟩:=els_at (E:=EQ) (q:=a.p3) (c:=a.c3) H (.there (.there (.there (.there (.there .here))))) hx
      rw [hp]
      dsimp only [nn]
      have hce:∀ i v,(d.routes[k]).cells[i]? = some v→wx.cell? (((⟨dd,0,none⟩:Addr).add (k * 4)).add i) = some v:=by
       intro i v hv
       rw [add_lit,add_lit,Nat.zero_add]; exact hcell i v hv
      refine ⟨_,by rw [add_lit,Nat.zero_add]; exact hcell 0 _ rfl,_,hce 1 _ rfl,_,hce 2 _ rfl,_,hce 3 _ rfl,?_⟩
      refine alc_o H fun b58 wx H=>?_
      refine app_rr (x:=d.routes[k]) H (xs:=dropAt (findR d dev ev) (d.routes.take k)) (.there .here) .here (by unfold NC; omega) fun p' c' wx H=>?_
      rw [← hnx] at H ⊢
      refine ⟨⟨_,⟨k + 1,p',c',by omega,rfl,rfl⟩,H.dp⟩,?_⟩
      show ((d.routes.length:Int) - ((k:Int) + 1)).toNat < ((d.routes.length:Int) - (k:Int)).toNat
      omega
    · have he:(k:Int) = findR d dev ev:=by simpa using he
      rw [if_pos he,List.append_nil] at hnx
      rw [← hnx] at H ⊢
      refine ⟨⟨_,⟨k + 1,q,cq,by omega,rfl,rfl⟩,H⟩,?_⟩
      show ((d.routes.length:Int) - ((k:Int) + 1)).toNat < ((d.routes.length:Int) - (k:Int)).toNat
      omega
  · have h:=of_decide_eq_false h
    have hkk:k = d.routes.length:=by omega
    subst hkk
    rw [List.take_length] at H ⊢
    refine sta H fun wx H=>?_
    have H:=H.drop (L1:=[row b ((rforgS d dev ev).cells ⟨a.p1,a.c1,a.p2,a.c2,q,cq⟩) tRv,nums a.p1 a.c1 d.devs,nums a.p2 a.c2 d.bits,els EQ q cq (dropAt (findR d dev ev) d.routes),rcs p c xs]) (by repeat (first | exact Cut.nil | (apply Cut.cons; (repeat (first | exact Pick.here | apply Pick.there)))))
    have H:=ref_shut (d:=rforgS d dev ev) (a:=⟨a.p1,a.c1,a.p2,a.c2,q,cq⟩) hc8 H
    refine call_p H (rbind_t b (rforgS d dev ev) dev ev (hs.forg dev ev)) (by repeat (first | exact Cut.nil | (apply Cut.cons; (repeat (first | exact Pick.here | apply Pick.there))))) fun wx H=>?_
    refine ⟨_,_,_,_,_,_,rfl,alc_o H fun b76 wx H=>?_⟩
    refine app_rc (x:=bindR (rforgS d dev ev) dev ev) H (xs:=xs) (by repeat (first | exact Pick.here | apply Pick.there)) (by repeat (first | exact Pick.here | apply Pick.there)) (by unfold NC; omega) fun p' c' wx H=>?_
    have e:xs ++ [bindR (rforgS d dev ev) dev ev] = rforgC d dev ev:=by rw [hxs]; rfl
    rw [e] at H ⊢
    exact ⟨_,⟨p',c',rfl,rfl⟩,H.dp⟩
 refine call_pa H (rRoute_t b d dev ev hs) fun wx H=>?_
 refine ⟨_,_,_,_,_,rfl,alc_o H fun b11 wx H=>?_⟩
 iterate 3 refine sta H fun wx H=>?_
 refine join_o (cnd_i (fun h2=>?_) fun h2=>?_)
 · have h2:(routeR d dev ev).2.2 = 0:=by simpa using h2
   repeat (first | refine lIa H ?_ | refine lLa H ?_ | refine lBa H ?_ | refine lPa H ?_ | refine lSa H ?_)
   refine alc_o H fun b57 wx H=>?_
   have H:X.Own w S (rcs none 0 [] :: _) wx:=own_nil H
   refine app_rc (x:=⟨4,0,0,(routeR d dev ev).1.num,(routeR d dev ev).2.1,0⟩) (xs:=[]) H .here (by repeat (first | exact Pick.here | apply Pick.there)) (by unfold NC; simp) fun p' c' w' H=>?_
   exact fin p' c' w' _ (by rw [if_pos h2]; rfl) (H.dp)
 · have h2:¬ (routeR d dev ev).2.2 = 0:=by simpa using h2
   have H:X.Own w S (rcs none 0 [] :: _) wx:=own_nil H
   exact fin none 0 _ [] (by rw [if_neg h2]) (H.dp)
def rsetS (d:Rv) (x:Rr):Rv:={ d with routes:=if 0≤findR d x.dev x.ev then d.routes.set (findR d x.dev x.ev).toNat x else d.routes ++ [x] }
theorem splice4 {L:List Value} {i:Nat} {a b c d:Value} (h:i + 3 < L.length):(((L.set i a).set (i + 1) b).set (i + 2) c).set (i + 3) d = splice L i [a,b,c,d]:=by
 unfold splice
 apply List.ext_getElem?
 intro j
 simp only [List.getElem?_set,List.length_set,List.append_assoc,List.getElem?_append,List.length_take,List.getElem?_take,List.length_cons,List.length_nil,List.getElem?_drop]
 by_cases h1:j < i
 · rw [if_neg (by omega),if_neg (by omega),if_neg (by omega),if_neg (by omega),if_pos (by omega),if_pos h1]
 · by_cases h2:j = i
   · subst h2
     rw [if_neg (by omega),if_neg (by omega),if_neg (by omega),if_pos rfl,if_pos (by omega),if_neg (by omega),if_pos (by omega)]
     simp [show min j L.length = j by omega]
   · by_cases h3:j = i + 1
     · subst h3
       rw [if_neg (by omega),if_neg (by omega),if_pos rfl,if_pos (by omega),if_neg (by omega),if_pos (by omega)]
       simp [show min i L.length = i by omega]
     · by_cases h4:j = i + 2
       · subst h4
         rw [if_neg (by omega),if_pos rfl,if_pos (by omega),if_neg (by omega),if_pos (by omega)]
         simp [show min i L.length = i by omega]
       · by_cases h5:j = i + 3
         · subst h5
           rw [if_pos rfl,if_pos (by omega),if_neg (by omega),if_pos (by omega)]
           simp [show min i L.length = i by omega]
         · rw [if_neg (by omega),if_neg (by omega),if_neg (by omega),if_neg (by omega),if_neg (by omega),if_neg (by omega)]
           congr 1; omega
theorem rset_t (b:Nat) (d:Rv) (x:Rr) (hs:d.Small):Tri P F.zzba [ptr b,.agg x.cells.toArray] [refI b d] fun v L'=>v = .tuple [].toArray∧L' = [refI b (rsetS d x)]:=by
 intro w S hS
 refine zzjI ?_
 unfold zzba
 have H:=Own.start hS
 refine alc_o H fun b6 wx H=>?_
 repeat (first | refine lIa H ?_ | refine lLa H ?_ | refine lBa H ?_ | refine lPa H ?_ | refine lSa H ?_)
 refine call_pa H (rfind_t b d x.dev x.ev hs) fun wx H=>?_
 have hs3:=hs.2.2
 refine ⟨_,rfl,cnd_i (fun h=>?_) fun h=>?_⟩
 · have h:=of_decide_eq_true h
   rcases posL_cases (fun y:Rr=>y.dev == x.dev && y.ev == x.ev) d.routes with ⟨h3,_⟩ | ⟨k,h3,hkl,h4,h5⟩
   · exact absurd h3 (by unfold findR at h; omega)
   have h3:findR d x.dev x.ev = k:=h3
   have e:rsetS d x = { d with routes:=d.routes.set k x }:=by unfold rsetS; rw [if_pos h,h3,Int.toNat_natCast]
   rw [e,h3]
   obtain ⟨a,hc8,H⟩:=ref_open H (by repeat (first | exact Pick.here | apply Pick.there))
   refine drw_o H fun wx H=>?_
   dsimp only [nn]
   repeat (first | refine lIa H ?_ | refine lLa H ?_ | refine lBa H ?_ | refine lPa H ?_ | refine lSa H ?_)
   refine ⟨⟨by omega,by omega⟩,?_⟩
   rw [Int.toNat_natCast]
   have H:=H.perm (L1:=[els EQ a.p3 a.c3 d.routes]) (by repeat (first | exact Cut.nil | (apply Cut.cons; (repeat (first | exact Pick.here | apply Pick.there)))))
   simp only [List.cons_append,List.nil_append] at H
   obtain ⟨dd,rest,hp,hlen2,hle,hmx,H⟩:=els_open H .here (by intro e; rw [e] at hkl; simp at hkl)
   rw [hp]
   dsimp only [nn]
   have hfit:k * 4 + 3 < (EQ.flat d.routes ++ rest).length:=by
    rw [List.length_append,El.flat_len]
    have:(k + 1) * 4≤d.routes.length * 4:=Nat.mul_le_mul_right _ hkl
    show _ < d.routes.length * 4 + _
    omega
   rw [add_lit,Nat.zero_add]
   refine st1_o H .here (by omega) fun wx H=>?_
   rw [add_lit]
   refine st1_o H .here (by simp only [List.length_set]; omega) fun wx H=>?_
   rw [add_lit]
   refine st1_o H .here (by simp only [List.length_set]; omega) fun wx H=>?_
   rw [add_lit]
   refine st1_o H .here (by simp only [List.length_set]; omega) fun wx H=>?_
   rw [splice4 (L:=EQ.flat d.routes ++ rest) (i:=k * 4) (by omega)] at H
   have H:=els_put (E:=EQ) (xs:=d.routes) (j:=k) (y:=x) H hlen2 hle hmx hkl
   rw [← hp] at H
   have H:=ref_shut (d:={ d with routes:=d.routes.set k x }) (a:=a) (F:=[]) hc8 (by
    have:Rv.cells { d with routes:=d.routes.set k x } a = d.cells a:=by
     show _ :: _ = _ :: _
     simp only [List.length_set]
    rw [this]
    exact H.dp)
   exact ⟨_,⟨rfl,rfl⟩,H⟩
 · have h:=of_decide_eq_false h
   have e:rsetS d x = { d with routes:=d.routes ++ [x] }:=by unfold rsetS; rw [if_neg (by omega)]
   rw [e]
   obtain ⟨a,hc8,H⟩:=ref_open H (by repeat (first | exact Pick.here | apply Pick.there))
   refine drw_o H fun wx H=>?_
   dsimp only [nn]
   repeat (first | refine lIa H ?_ | refine lLa H ?_ | refine lBa H ?_ | refine lPa H ?_ | refine lSa H ?_)
   refine alc_o H fun b37 wx H=>⟨?_,?_⟩
   · repeat (first | refine lIa H ?_ | refine lLa H ?_ | refine lBa H ?_ | refine lPa H ?_ | refine lSa H ?_)
     rfl
   refine app_rr (x:=x) H (xs:=d.routes) (by repeat (first | exact Pick.here | apply Pick.there)) .here (by unfold NC; omega) fun p' c' wx H=>?_
   refine sta H fun wx H=>?_
   have H:=H.drop (L1:=[row b (Rv.cells { d with routes:=d.routes ++ [x] } ⟨a.p1,a.c1,a.p2,a.c2,p',c'⟩) tRv,nums a.p1 a.c1 d.devs,nums a.p2 a.c2 d.bits,els EQ p' c' (d.routes ++ [x])]) (by repeat (first | exact Cut.nil | (apply Cut.cons; (repeat (first | exact Pick.here | apply Pick.there)))))
   exact ⟨_,⟨rfl,rfl⟩,ref_shut (d:={ d with routes:=d.routes ++ [x] }) (a:=⟨a.p1,a.c1,a.p2,a.c2,p',c'⟩) hc8 H⟩
def fgR (dev:Int) (a:List Ch×Rv) (ev:Nat):List Ch×Rv:=if 0≤findR a.2 dev ev then (a.1 ++ rforgC a.2 dev ev,rforgS a.2 dev ev) else a
def allR (d:Rv) (dev:Int) (n:Nat):List Ch×Rv:=(List.range n).foldl (fgR dev) ([],d)
theorem allR_succ (d:Rv) (dev:Int) (n:Nat):allR d dev (n + 1) = fgR dev (allR d dev n) n:=by unfold allR; rw [List.range_succ,List.foldl_append]; rfl
theorem rforgC_len (d:Rv) (dev ev:Int):(rforgC d dev ev).length≤2:=by unfold rforgC; split <;> simp
theorem allR_inv {d:Rv} {dev:Int} (hs:d.Small):∀ n,(allR d dev n).1.length≤2 * n∧(allR d dev n).2.Small∧(allR d dev n).2.devs = d.devs∧(allR d dev n).2.bits = d.bits
 | 0=>⟨by simp [allR],hs,rfl,rfl⟩
 | n + 1=>by
  obtain ⟨h1,h2,h3,h4⟩:=allR_inv hs n
  rw [allR_succ]
  unfold fgR
  split
  · refine ⟨?_,h2.forg _ _,h3,h4⟩
    have:=rforgC_len (allR d dev n).2 dev n
    rw [List.length_append]; omega
  · exact ⟨by omega,h2,h3,h4⟩
def dropR (d:Rv) (i:Int):Rv:={ d with devs:=dropAt i d.devs,bits:=dropAt i d.bits }
def goneR (d:Rv) (dev:Int):List Ch×Rv:=if 0≤atR d dev then ((allR d dev 16).1,dropR (allR d dev 16).2 (atR d dev)) else ([],d)
def mapdRE (c:Cm) (size:Int):Int :=
 if evN c.bits > 16 then 181 else if c.val = true∧(size < wi (8 * evN c.bits)∨c.addr > wi (size - wi (8 * evN c.bits))) then 241 else 0
def mapdR (d:Rv) (c:Cm) (size:Int):List Ch×Rv×Int :=
 if mapdRE c size≠0 then ([],d,mapdRE c size)
 else ((goneR d c.dev).1,(if c.val then { (goneR d c.dev).2 with devs:=(goneR d c.dev).2.devs ++ [c.dev],bits:=(goneR d c.dev).2.bits ++ [c.bits] } else (goneR d c.dev).2),0)
def RTold (b:Nat) (M:List Ch×Rv×Int) (v:Value) (L':List It):Prop:=∃ p c,v = .tuple [.slice p M.1.length c,.int .i64 M.2.2].toArray∧L' = [rcs p c M.1,refI b M.2.1]
theorem rcs_nil {w w0:World} {S0:Nat→Prop} {L:List It} (H:X.Own w0 S0 L w):X.Own w0 S0 (rcs none 0 [] :: L) w:=own_nil H
theorem rtold_err {b:Nat} {d:Rv} {e:Int} {w w0:World} {S0:Nat→Prop} (H:X.Own w0 S0 [refI b d] w):∃ L',RTold b ([],d,e) (.tuple [.slice none 0 0,.int .i64 e].toArray) L'∧X.Own w0 S0 L' w:=⟨_,⟨none,0,rfl,rfl⟩,rcs_nil H⟩
theorem rtold_one {b b1:Nat} {d:Rv} {x:Ch} {w w0:World} {S0:Nat→Prop} {L:List It} (H:X.Own w0 S0 L w) (hp:Pick L (row b1 x.cells tRc) [refI b d]):∃ L',RTold b ([x],d,0) (.tuple [.slice (some ⟨b1,0,none⟩) 1 1,.int .i64 0].toArray) L'∧X.Own w0 S0 L' w:=by
 refine ⟨_,⟨some ⟨b1,0,none⟩,1,rfl,rfl⟩,?_⟩
 have H1:X.Own w0 S0 (row b1 x.cells tRc :: [refI b d]) w:=let ⟨S,h1,h2⟩:=H; ⟨S,hp.iff.1 h1,h2⟩
 exact els_shut (E:=ED2) (c:=1) (xs:=[x]) H1 rfl rfl (by simp) (by unfold maxLen; omega) rfl
theorem pow_le32 {k:Nat} (hk:k≤32):(2:Int) ^ k≤4294967296∧0 < (2:Int) ^ k:=by
 have h1:(2:Nat) ^ k≤2 ^ 32:=Nat.pow_le_pow_right (by omega) hk
 have h3:(2:Nat) ^ 32 = 4294967296:=rfl
 have h2:((2 ^ k:Nat):Int) = (2:Int) ^ k:=Int.natCast_pow 2 k
 rw [h3] at h1
 rw [← h2]
 exact ⟨by omega,by have:=Nat.pow_pos (n:=k) (show 0 < 2 by omega); omega⟩
theorem evN_eq {k:Nat} (hk:k < 32):evN (k:Int) = 2 * 2 ^ k:=by
 unfold evN
 rw [Int.toNat_natCast,show min k IntKind.i64.bits = k by show min k 64 = k; omega]
 have:=pow_le32 (show k≤32 by omega)
 exact W_id (by omega) (by omega)
theorem pow_next {k:Nat} (hk:k < 31):IntKind.i64.wrap (2 * (2 * 2 ^ k)) = 2 * 2 ^ (k + 1):=by
 have:=pow_le32 (show k≤32 by omega)
 rw [W_id (by omega) (by omega),Int.pow_succ]; omega
theorem mapdR_t (b:Nat) (d:Rv) (c:Cm) (r:Ru) {po:Option Addr} {no co:Nat} (hb:0≤c.bits∧c.bits < 32) (hs:d.Small) (hR:d.devs.length = d.bits.length) :
 Tri P F.zzbz [ptr b,cmV c,ruV r po no co] [refI b d] (RTold b (mapdR d c r.s)):=by
 intro w S hS
 refine zzjv ?_
 unfold zzbz
 have H:=Own.start hS
 obtain ⟨n,hn⟩:=Int.eq_ofNat_of_zero_le hb.1
 have hn32:n < 32:=by omega
 refine alc_o H fun b18 wx H=>alc_o H fun b20 wx H=>?_
 refine loop_o (fun (st:Int×Int) L=>∃ k:Nat,k≤n∧st = (2 * 2 ^ k,(k:Int))∧L = [row b20 [.int .i64 r.a,.int .i64 r.s,.int .i64 r.vcpus,.int .i64 r.lpis,.slice po no co] tRru,row b18 c.cells tCmd,refI b d])
  (fun (st:Int×Int)=>((n:Int) - st.2).toNat) H ⟨0,by omega,rfl,rfl⟩ ?_
 rintro _ _ wx ⟨k,hk,rfl,rfl⟩ H
 unfold zzf7
 dsimp only
 repeat (first | refine lIa H ?_ | refine lLa H ?_ | refine lBa H ?_ | refine lPa H ?_ | refine lSa H ?_)
 refine cnd_i (fun h=>?_) fun h=>?_
 · have h:=of_decide_eq_true h
   have hkn:k < n:=by omega
   rw [pow_next (by omega),W_id (by omega) (by omega)]
   exact ⟨⟨_,⟨k + 1,by omega,by push_cast; rfl,rfl⟩,H⟩,by show ((n:Int) - ((k:Int) + 1)).toNat < ((n:Int) - (k:Int)).toNat; omega⟩
 have h:=of_decide_eq_false h
 have hkn:k = n:=by omega
 subst hkn
 have hev:evN c.bits = 2 * 2 ^ k:=by rw [hn]; exact evN_eq hn32
 rw [← hev]
 have err:∀ (e:Int) (wx:World),e≠0→mapdRE c r.s = e→X.Own w S [refI b d] wx→∃ L',RTold b (mapdR d c r.s) (.tuple [.slice none 0 0,.int .i64 e].toArray) L'∧X.Own w S L' wx:=by
  intro e wx h1 h2 H
  have:mapdR d c r.s = ([],d,e):=by unfold mapdR; rw [h2,if_pos h1]
  rw [this]
  exact rtold_err H
 refine cnd_i (fun h1=>?_) fun h1=>join_o ?_
 · have h1:evN c.bits > 16:=of_decide_eq_true h1
   exact err 181 _ (by omega) (by unfold mapdRE; rw [if_pos h1]) (H.dp)
 have h1:¬ evN c.bits > 16:=of_decide_eq_false h1
 have go:∀ (x:Bool) (wx:World),(x = true↔(c.val = true∧(r.s < wi (8 * evN c.bits)∨c.addr > wi (r.s - wi (8 * evN c.bits)))))→X.Own w S [row b18 c.cells tCmd,refI b d] wx →
  zzd7 (some ⟨b,0,none⟩) (fun v w'=>∃ L',RTold b (mapdR d c r.s) v L'∧X.Own w S L' w') b18 x wx:=by
  intro x wx hx H
  unfold zzd7
  refine cnd_i (fun h2=>?_) fun h2=>?_
  · exact err 241 _ (by omega) (by unfold mapdRE; rw [if_neg h1,if_pos (hx.1 h2)]) (H.dp)
  have h2:¬ (c.val = true∧(r.s < wi (8 * evN c.bits)∨c.addr > wi (r.s - wi (8 * evN c.bits)))):=fun hh=>by rw [hx.2 hh] at h2; cases h2
  have h0:mapdRE c r.s = 0:=by unfold mapdRE; rw [if_neg h1,if_neg h2]
  have e0:mapdR d c r.s = ((goneR d c.dev).1,(if c.val then { (goneR d c.dev).2 with devs:=(goneR d c.dev).2.devs ++ [c.dev],bits:=(goneR d c.dev).2.bits ++ [c.bits] } else (goneR d c.dev).2),0):=by unfold mapdR; rw [h0,if_neg (by simp)]
  have last:∀ (wx:World) (p:Option Addr) (cc:Nat) (M:List Ch×Rv),goneR d c.dev = M→M.2.devs.length < NB→M.2.bits.length < NB→X.Own w S [rcs p cc M.1,refI b M.2,row b18 c.cells tCmd] wx →
   zzd6 (some ⟨b,0,none⟩) (fun v w'=>∃ L',RTold b (mapdR d c r.s) v L'∧X.Own w S L' w') b18 p M.1.length cc wx:=by
   rintro wx p cc M hM g1 g2 H
   unfold zzd6
   refine join_o ?_
   unfold zzf2
   rw [e0,hM]
   repeat (first | refine lIa H ?_ | refine lLa H ?_ | refine lBa H ?_ | refine lPa H ?_ | refine lSa H ?_)
   refine cnd_i (fun hv=>?_) fun hv=>?_
   · rw [if_pos hv]
     obtain ⟨a,hc8,H⟩:=ref_open H (by repeat (first | exact Pick.here | apply Pick.there))
     refine drw_o H fun wx H=>?_
     dsimp only [nn]
     repeat (first | refine lIa H ?_ | refine lLa H ?_ | refine lBa H ?_ | refine lPa H ?_ | refine lSa H ?_)
     refine alc_o H fun b52 wx H=>⟨?_,?_⟩
     · repeat (first | refine lIa H ?_ | refine lLa H ?_ | refine lBa H ?_ | refine lPa H ?_ | refine lSa H ?_)
       rfl
     refine app_i64 (x:=c.dev) H (xs:=M.2.devs) (by repeat (first | exact Pick.here | apply Pick.there)) .here g1 fun p1 c1 wx H=>?_
     refine sta H fun wx H=>?_
     refine drw_o H fun wx H=>?_
     repeat (first | refine lIa H ?_ | refine lLa H ?_ | refine lBa H ?_ | refine lPa H ?_ | refine lSa H ?_)
     refine alc_o H fun b69 wx H=>⟨?_,?_⟩
     · repeat (first | refine lIa H ?_ | refine lLa H ?_ | refine lBa H ?_ | refine lPa H ?_ | refine lSa H ?_)
       rfl
     refine app_i64 (x:=c.bits) H (xs:=M.2.bits) (by repeat (first | exact Pick.here | apply Pick.there)) .here g2 fun p2 c2 wx H=>?_
     refine sta H fun wx H=>?_
     have H:=H.drop (L1:=[row b (Rv.cells { M.2 with devs:=M.2.devs ++ [c.dev],bits:=M.2.bits ++ [c.bits] } ⟨p1,c1,p2,c2,a.p3,a.c3⟩) tRv,nums p1 c1 (M.2.devs ++ [c.dev]),nums p2 c2 (M.2.bits ++ [c.bits]),els EQ a.p3 a.c3 M.2.routes,rcs p cc M.1]) (by repeat (first | exact Cut.nil | (apply Cut.cons; (repeat (first | exact Pick.here | apply Pick.there)))))
     have H:=ref_shut (d:={ M.2 with devs:=M.2.devs ++ [c.dev],bits:=M.2.bits ++ [c.bits] }) (a:=⟨p1,c1,p2,c2,a.p3,a.c3⟩) hc8 H
     exact ⟨_,⟨p,cc,rfl,rfl⟩,H.dp⟩
   · rw [if_neg (by rw [hv]; simp)]
     exact ⟨_,⟨p,cc,rfl,rfl⟩,H.dp⟩
  repeat (first | refine lIa H ?_ | refine lLa H ?_ | refine lBa H ?_ | refine lPa H ?_ | refine lSa H ?_)
  refine call_pa H (at_t b d c.dev hs) fun wx H=>?_
  refine ⟨_,rfl,join_o (cnd_i (fun h3=>?_) fun h3=>?_)⟩
  · have h3:0≤atR d c.dev:=of_decide_eq_true h3
    have hg:goneR d c.dev = ((allR d c.dev 16).1,dropR (allR d c.dev 16).2 (atR d c.dev)):=by unfold goneR; rw [if_pos h3]
    have H:=rcs_nil H
    refine loop_o (fun (st:(Option Addr×Nat×Nat)×Int) L=>∃ (k:Nat) (p:Option Addr) (cc:Nat),k≤16∧st = ((p,(allR d c.dev k).1.length,cc),(k:Int))∧L = [rcs p cc (allR d c.dev k).1,refI b (allR d c.dev k).2,row b18 c.cells tCmd])
     (fun (st:(Option Addr×Nat×Nat)×Int)=>(16 - st.2).toNat) (H.drop (L1:=[rcs none 0 [],refI b d,row b18 c.cells tCmd]) (by repeat (first | exact Cut.nil | (apply Cut.cons; (repeat (first | exact Pick.here | apply Pick.there)))))) ⟨0,none,0,by omega,rfl,rfl⟩ ?_
    rintro _ _ wx ⟨k,p,cc,hk16,rfl,rfl⟩ H
    unfold zzf6
    dsimp only
    obtain ⟨a1,a2,a3,a4⟩:=allR_inv (dev:=c.dev) hs k
    refine cnd_i (fun h4=>join_o ?_) fun h4=>?_
    · have h4:=of_decide_eq_true h4
      unfold zzf3
      repeat (first | refine lIa H ?_ | refine lLa H ?_ | refine lBa H ?_ | refine lPa H ?_ | refine lSa H ?_)
      refine call_pa H (rfind_t b (allR d c.dev k).2 c.dev k a2) fun wx H=>?_
      refine ⟨_,rfl,?_⟩
      rw [W_id (by omega) (by omega)]
      refine cnd_i (fun h5=>?_) fun h5=>?_
      · have h5:0≤findR (allR d c.dev k).2 c.dev k:=of_decide_eq_true h5
        have en:allR d c.dev (k + 1) = ((allR d c.dev k).1 ++ rforgC (allR d c.dev k).2 c.dev k,rforgS (allR d c.dev k).2 c.dev k):=by rw [allR_succ]; unfold fgR; rw [if_pos h5]
        repeat (first | refine lIa H ?_ | refine lLa H ?_ | refine lBa H ?_ | refine lPa H ?_ | refine lSa H ?_)
        refine call_oa H (rforget_t b (allR d c.dev k).2 c.dev k a2) fun vx L' wx hq H=>?_
        obtain ⟨p2,c2,rfl,rfl⟩:=hq
        simp only [List.cons_append,List.nil_append] at H
        have hfl:=rforgC_len (allR d c.dev k).2 c.dev k
        refine ⟨_,_,_,rfl,?_⟩
        refine app_els2 (E:=ED2) (xs:=(allR d c.dev k).1) (ys:=rforgC (allR d c.dev k).2 c.dev k) H (by repeat (first | exact Pick.here | apply Pick.there)) .here rfl (by show (_ + _) * 48≤_; omega) (by unfold NB; omega) fun p3 c3 wx H=>?_
        refine ⟨⟨[rcs p3 c3 (allR d c.dev (k + 1)).1,refI b (allR d c.dev (k + 1)).2,row b18 c.cells tCmd],⟨k + 1,p3,c3,by omega,by rw [en]; rfl,rfl⟩,?_⟩,by show (16 - ((k:Int) + 1)).toNat < (16 - (k:Int)).toNat; omega⟩
        rw [en]
        exact H.dp
      · have h5:¬ 0≤findR (allR d c.dev k).2 c.dev k:=of_decide_eq_false h5
        have en:allR d c.dev (k + 1) = allR d c.dev k:=by rw [allR_succ]; unfold fgR; rw [if_neg h5]
        refine ⟨⟨[rcs p cc (allR d c.dev (k + 1)).1,refI b (allR d c.dev (k + 1)).2,row b18 c.cells tCmd],⟨k + 1,p,cc,by omega,by rw [en]; rfl,rfl⟩,?_⟩,by show (16 - ((k:Int) + 1)).toNat < (16 - (k:Int)).toNat; omega⟩
        rw [en]
        exact H.dp
    · have h4:=of_decide_eq_false h4
      have hk:k = 16:=by omega
      subst hk
      generalize hd2:allR d c.dev 16 = D at *
      obtain ⟨a,hc8,H⟩:=ref_open H (by repeat (first | exact Pick.here | apply Pick.there))
      have H:X.Own w S (nums none 0 [] :: _) wx:=own_nil H
      have H:X.Own w S (nums none 0 [] :: _) wx:=own_nil H
      obtain ⟨s1,s2,s3⟩:=a2
      have hRl:D.2.devs.length = D.2.bits.length:=by rw [a3,a4]; exact hR
      refine loop_o (fun (st:(Option Addr×Nat×Nat)×(Option Addr×Nat×Nat)×Int) L=>∃ (j:Nat) (p1:Option Addr) (c1:Nat) (p2:Option Addr) (c2:Nat),j≤D.2.devs.length∧st = ((p1,(dropAt (atR d c.dev) (D.2.devs.take j)).length,c1),(p2,(dropAt (atR d c.dev) (D.2.bits.take j)).length,c2),(j:Int)) ∧
       L = nums p1 c1 (dropAt (atR d c.dev) (D.2.devs.take j)) :: nums p2 c2 (dropAt (atR d c.dev) (D.2.bits.take j)) :: rcs p cc D.1 :: row b18 c.cells tCmd :: rL b D.2 a)
       (fun (st:(Option Addr×Nat×Nat)×(Option Addr×Nat×Nat)×Int)=>((D.2.devs.length:Int) - st.2.2).toNat) (H.drop (L1:=nums none 0 [] :: nums none 0 [] :: rcs p cc D.1 :: row b18 c.cells tCmd :: rL b D.2 a) (by repeat (first | exact Cut.nil | (apply Cut.cons; (repeat (first | exact Pick.here | apply Pick.there)))))) ⟨0,none,0,none,0,by omega,by simp [dropAt],by simp [dropAt]⟩ ?_
      rintro _ _ wx ⟨j,p1,c1,p2,c2,hj,rfl,rfl⟩ H
      unfold zzf5
      dsimp only [nn]
      repeat (first | refine lIa H ?_ | refine lLa H ?_ | refine lBa H ?_ | refine lPa H ?_ | refine lSa H ?_)
      refine cnd_i (fun h6=>join_o ?_) fun h6=>?_
      · have h6:=of_decide_eq_true h6
        have hjl:j < D.2.devs.length:=by omega
        have hjb:j < D.2.bits.length:=by omega
        have hx1:D.2.devs[j]? = some D.2.devs[j]:=List.getElem?_eq_getElem hjl
        have hx2:D.2.bits[j]? = some D.2.bits[j]:=List.getElem?_eq_getElem hjb
        have hn1:=dropAt_next (i:=atR d c.dev) hx1
        have hn2:=dropAt_next (i:=atR d c.dev) hx2
        have hd1:=dropAt_len (atR d c.dev) (D.2.devs.take j)
        have hd2':=dropAt_len (atR d c.dev) (D.2.bits.take j)
        rw [List.length_take] at hd1 hd2'
        unfold zzf4
        rw [W_id (by omega) (by omega)]
        refine cnd_i (fun he=>?_) fun he=>?_
        · have he:¬ (j:Int) = atR d c.dev:=by simpa using he
          rw [if_neg he] at hn1 hn2
          repeat (first | refine lIa H ?_ | refine lLa H ?_ | refine lBa H ?_ | refine lPa H ?_ | refine lSa H ?_)
          refine ⟨⟨by omega,by omega⟩,?_⟩
          rw [Int.toNat_natCast]
          obtain ⟨dd,hp,hcell⟩:=els_at (E:=EI) (q:=a.p1) (c:=a.c1) H (by repeat (first | exact Pick.here | apply Pick.there)) hx1
          rw [hp]
          dsimp only [nn]
          refine ⟨_,by rw [add_lit,Nat.zero_add]; exact hcell 0 _ rfl,alc_o H fun b158 wx H=>?_⟩
          refine app_i64 (x:=D.2.devs[j]) H (xs:=dropAt (atR d c.dev) (D.2.devs.take j)) (.there .here) .here (by unfold NB; omega) fun p1' c1' wx H=>?_
          repeat (first | refine lIa H ?_ | refine lLa H ?_ | refine lBa H ?_ | refine lPa H ?_ | refine lSa H ?_)
          refine ⟨⟨by omega,by omega⟩,?_⟩
          rw [Int.toNat_natCast]
          obtain ⟨dd2,hp2,hcell2⟩:=els_at (E:=EI) (q:=a.p2) (c:=a.c2) H (by repeat (first | exact Pick.here | apply Pick.there)) hx2
          rw [hp2]
          dsimp only [nn]
          refine ⟨_,by rw [add_lit,Nat.zero_add]; exact hcell2 0 _ rfl,alc_o H fun b171 wx H=>?_⟩
          refine app_i64 (x:=D.2.bits[j]) H (xs:=dropAt (atR d c.dev) (D.2.bits.take j)) (.there (.there (.there .here))) .here (by unfold NB; omega) fun p2' c2' wx H=>?_
          rw [← hn1,← hn2] at *
          refine ⟨⟨_,⟨j + 1,p1',c1',p2',c2',by omega,rfl,rfl⟩,H.dp⟩,?_⟩
          show ((D.2.devs.length:Int) - ((j:Int) + 1)).toNat < ((D.2.devs.length:Int) - (j:Int)).toNat
          omega
        · have he:(j:Int) = atR d c.dev:=by simpa using he
          rw [if_pos he,List.append_nil] at hn1 hn2
          rw [← hn1,← hn2] at H ⊢
          refine ⟨⟨_,⟨j + 1,p1,c1,p2,c2,by omega,rfl,rfl⟩,H⟩,?_⟩
          show ((D.2.devs.length:Int) - ((j:Int) + 1)).toNat < ((D.2.devs.length:Int) - (j:Int)).toNat
          omega
      · have h6:=of_decide_eq_false h6
        have hj:j = D.2.devs.length:=by omega
        subst hj
        have hb2:D.2.bits.take D.2.devs.length = D.2.bits:=List.take_of_length_le (by omega)
        rw [List.take_length,hb2] at H ⊢
        iterate 2 refine sta H fun wx H=>?_
        have H:=H.drop (L1:=[row b (Rv.cells (dropR D.2 (atR d c.dev)) ⟨p1,c1,p2,c2,a.p3,a.c3⟩) tRv,nums p1 c1 (dropAt (atR d c.dev) D.2.devs),nums p2 c2 (dropAt (atR d c.dev) D.2.bits),els EQ a.p3 a.c3 D.2.routes,rcs p cc D.1,row b18 c.cells tCmd]) (by repeat (first | exact Cut.nil | (apply Cut.cons; (repeat (first | exact Pick.here | apply Pick.there)))))
        have H:=ref_shut (d:=dropR D.2 (atR d c.dev)) (a:=⟨p1,c1,p2,c2,a.p3,a.c3⟩) hc8 H
        have hd1:=dropAt_len (atR d c.dev) D.2.devs
        have hd2':=dropAt_len (atR d c.dev) D.2.bits
        exact last _ p cc (D.1,dropR D.2 (atR d c.dev)) hg (by unfold NB; show (dropAt _ _).length < _; omega) (by unfold NB; show (dropAt _ _).length < _; omega) (H.dp)
  · have h3:¬ 0≤atR d c.dev:=of_decide_eq_false h3
    have hg:goneR d c.dev = ([],d):=by unfold goneR; rw [if_neg h3]
    have H:=rcs_nil H
    have:=hs.1
    have:=hs.2.1
    exact last _ none 0 ([],d) hg (by unfold NB; show d.devs.length < _; omega) (by unfold NB; show d.bits.length < _; omega) (H.dp)
 repeat (first | refine lIa H ?_ | refine lLa H ?_ | refine lBa H ?_ | refine lPa H ?_ | refine lSa H ?_)
 refine cnd_i (fun hv=>?_) fun hv=>?_
 · repeat (first | refine lIa H ?_ | refine lLa H ?_ | refine lBa H ?_ | refine lPa H ?_ | refine lSa H ?_)
   refine cnd_i (fun ha=>?_) fun ha=>?_
   · exact go true _ (by have ha:=of_decide_eq_true ha; unfold wi; simp [hv,ha]) (H.dp)
   · have ha:=of_decide_eq_false ha
     repeat (first | refine lIa H ?_ | refine lLa H ?_ | refine lBa H ?_ | refine lPa H ?_ | refine lSa H ?_)
     exact go _ _ (by rw [hv]; unfold wi; simp [ha]) (H.dp)
 · exact go false _ (by simp [hv]) (H.dp)
end Go.Proofs.YtidcijbnbdemeaaGreat
