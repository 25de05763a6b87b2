/-
  The walks and the laws beneath the statement: part 9.
-/
import Derived.Test.YtidcijbnbdemeaaGreatFoh
set_option maxRecDepth 100000
set_option linter.unusedVariables false
set_option linter.unusedSimpArgs false
set_option maxHeartbeats 4000000
namespace Go.Proofs.YtidcijbnbdemeaaGreat
open Go Go.RowKit X
def awR:Ru:=⟨1024,1024,2,8⟩
def awC1:Cm:=⟨9,0,0,0,1,1,0,0,true⟩
def awC2:Cm:=⟨8,3,0,0,0,0,1,256,true⟩
def awC3:Cm:=⟨10,3,2,8195,1,0,0,0,false⟩
def awC4:Cm:=⟨3,3,2,0,0,0,0,0,false⟩
def awC5:Cm:=⟨15,3,2,0,0,0,0,0,false⟩
def awC6:Cm:=⟨8,4,0,0,0,0,0,0,true⟩
def awC7:Cm:=⟨8,3,0,0,0,0,0,1024,true⟩
def awS1:Vi:=⟨false,false,0,false,⟨0,0,0,0⟩,[],[(1,1)]⟩
def awS2 (p:Nat):Vi:=⟨false,false,0,false,⟨0,0,0,0⟩,[(3,⟨1,p,[]⟩)],[(1,1)]⟩
def awS3 (p:Nat):Vi:=⟨false,false,0,false,⟨0,0,0,0⟩,[(3,⟨1,p,[(2,⟨8195,1,true⟩)]⟩)],[(1,1)]⟩
def awL3:List Ch:=[⟨1,3,2,8195,0,1⟩,⟨7,0,0,8195,0,0⟩]
def awL4:List Ch:=[⟨3,0,0,8195,0,1⟩]
def awL5:List Ch:=[⟨4,0,0,8195,1,0⟩,⟨2,3,2,0,0,0⟩]
theorem aw1 (p:Nat):vdoM vi0 awC1 awR [3] p = ([],awS1,0):=by kernel_rfl
theorem aw2 (p:Nat):vdoM awS1 awC2 awR [3] p = ([],awS2 p,0):=by kernel_rfl
theorem aw3 (p q:Nat):vdoM (awS2 p) awC3 awR [3] q = (awL3,awS3 p,0):=by kernel_rfl
theorem aw4 (p q:Nat):vdoM (awS3 p) awC4 awR [3] q = (awL4,awS3 p,0):=by kernel_rfl
theorem aw5 (p q:Nat):vdoM (awS3 p) awC5 awR [3] q = (awL5,awS2 p,0):=by kernel_rfl
theorem aw6 (p q:Nat):vdoM (awS2 p) awC6 awR [3] q = ([],awS2 p,240):=by kernel_rfl
theorem aw7 (p q:Nat):vdoM (awS2 p) awC7 awR [3] q = ([],awS2 p,241):=by kernel_rfl
theorem vdo_at {b:Nat} {s:Vi} {c:Cm} {r:Ru} {i:It} {po:Option Addr} {co:Nat} {owned:List Int} {l:List Ch} {e:Int} {s':Nat→Vi} (h:∀ p,vdoM s c r owned p = (l,s' p,e)) (g:VGood s) (hi:∀ w S,i.h w S→Sl w po (i64s owned)) (hl:owned.length < 9223372036854775807) :
 Tri P F.zzax [ptr b,cmV c,ruV r po owned.length co] [vitsI b s,i] fun v L'=>∃ p q cc,v = .tuple [.slice q l.length cc,.int .i64 e].toArray∧L' = [chs q cc l,vitsI b (s' p),i]:=by
 intro w S hS
 refine (VDo_t b s c r i hi hl g.fits (by omega) w S hS).mono ?_
 rintro v w' ⟨L',⟨p,q,cc,rfl,rfl⟩,H⟩
 rw [h] at H
 exact ⟨_,⟨p,q,cc,by rw [h],rfl⟩,H⟩
theorem aw_good1:VGood awS1:=by have:=vgood0.vdo (c:=awC1) (r:=awR) (owned:=[3]) (p:=0); rw [aw1] at this; exact this
theorem aw_good2 (p:Nat):VGood (awS2 p):=by have:=aw_good1.vdo (c:=awC2) (r:=awR) (owned:=[3]) (p:=p); rw [aw2] at this; exact this
theorem aw_good3 (p:Nat):VGood (awS3 p):=by have:=(aw_good2 p).vdo (c:=awC3) (r:=awR) (owned:=[3]) (p:=0); rw [aw3] at this; exact this
theorem same_aw (l:List Ch):decide (l = l) = true:=by simp
theorem aw_all:∃ (s0 s1:Vi) (s2 s3:Nat→Vi),s0 = vi0∧VGood s0∧VGood s1∧(∀ p,VGood (s2 p))∧(∀ p,VGood (s3 p))∧(∀ p,vdoM s0 awC1 awR [3] p = ([],s1,0))∧(∀ p,vdoM s1 awC2 awR [3] p = ([],s2 p,0))∧(∀ p q,vdoM (s2 p) awC3 awR [3] q = (awL3,s3 p,0)) ∧
 (∀ p q,vdoM (s3 p) awC4 awR [3] q = (awL4,s3 p,0))∧(∀ p q,vdoM (s3 p) awC5 awR [3] q = (awL5,s2 p,0))∧(∀ p q,vdoM (s2 p) awC6 awR [3] q = ([],s2 p,240))∧∀ p q,vdoM (s2 p) awC7 awR [3] q = ([],s2 p,241) :=
 ⟨vi0,awS1,awS2,awS3,rfl,vgood0,aw_good1,aw_good2,aw_good3,aw1,aw2,aw3,aw4,aw5,aw6,aw7⟩
theorem awake_t:Tri P F.zzcn [] [] fun v L'=>v = .bool true∧L' = []:=by
 intro w S hS
 refine zzj5 ?_
 unfold zzcn
 have H:=Own.start hS
 obtain ⟨s0,s1,s2,s3,e0,g0,g1,g2,g3,a1,a2,a3,a4,a5,a6,a7⟩:=aw_all
 refine call_oa H (VNew_t) fun vx L' wx hq H=>?_
 obtain ⟨b,rfl,rfl⟩:=hq
 simp only [List.cons_append,List.nil_append] at H
 rw [← e0] at H
 refine ⟨_,rfl,cnd_i (fun h=>by cases h) fun _=>alc_o H fun b4 wx H=>alc_o H fun b6 wx H=>?_⟩
 iterate 5 refine sta H fun wx H=>?_
 simp only [List.set_cons_zero,List.set_cons_succ] at H
 have hi:∀ w S,(row b4 [.int .i64 3] T.t3).h w S→Sl w (some ⟨b4,0,none⟩) (i64s [3]):=fun w S h=>row_sl (xs:=[3]) w S h
 repeat (first | refine lIa H ?_ | refine lLa H ?_ | refine lBa H ?_ | refine lPa H ?_ | refine lSa H ?_)
 refine call_oa H (vdo_at (b:=b) (c:=awC1) (r:=awR) (i:=row b4 [.int .i64 3] T.t3) (po:=some ⟨b4,0,none⟩) (co:=1) (owned:=[3]) a1 g0 hi (by show 1 < _; omega)) fun vx L' wx hq H=>?_
 obtain ⟨p1,q1,k1,rfl,rfl⟩:=hq
 simp only [List.cons_append,List.nil_append] at H
 refine ⟨_,_,_,_,rfl,?_⟩
 repeat (first | refine lIa H ?_ | refine lLa H ?_ | refine lBa H ?_ | refine lPa H ?_ | refine lSa H ?_)
 refine call_oa H (vdo_at (b:=b) (c:=awC2) (r:=awR) (i:=row b4 [.int .i64 3] T.t3) (po:=some ⟨b4,0,none⟩) (co:=1) (owned:=[3]) a2 g1 hi (by show 1 < _; omega)) fun vx L' wx hq H=>?_
 obtain ⟨p2,q2,k2,rfl,rfl⟩:=hq
 simp only [List.cons_append,List.nil_append] at H
 refine ⟨_,_,_,_,rfl,?_⟩
 repeat (first | refine lIa H ?_ | refine lLa H ?_ | refine lBa H ?_ | refine lPa H ?_ | refine lSa H ?_)
 refine call_oa H (vdo_at (b:=b) (c:=awC3) (r:=awR) (i:=row b4 [.int .i64 3] T.t3) (po:=some ⟨b4,0,none⟩) (co:=1) (owned:=[3]) (a3 p2) (g2 p2) hi (by show 1 < _; omega)) fun vx L' wx hq H=>?_
 obtain ⟨p3,q3,k3,rfl,rfl⟩:=hq
 simp only [List.cons_append,List.nil_append] at H
 refine ⟨_,_,_,_,rfl,?_⟩
 repeat (first | refine lIa H ?_ | refine lLa H ?_ | refine lBa H ?_ | refine lPa H ?_ | refine lSa H ?_)
 refine call_oa H (vdo_at (b:=b) (c:=awC4) (r:=awR) (i:=row b4 [.int .i64 3] T.t3) (po:=some ⟨b4,0,none⟩) (co:=1) (owned:=[3]) (a4 p2) (g3 p2) hi (by show 1 < _; omega)) fun vx L' wx hq H=>?_
 obtain ⟨p4,q4,k4,rfl,rfl⟩:=hq
 simp only [List.cons_append,List.nil_append] at H
 refine ⟨_,_,_,_,rfl,?_⟩
 repeat (first | refine lIa H ?_ | refine lLa H ?_ | refine lBa H ?_ | refine lPa H ?_ | refine lSa H ?_)
 refine call_oa H (vdo_at (b:=b) (c:=awC5) (r:=awR) (i:=row b4 [.int .i64 3] T.t3) (po:=some ⟨b4,0,none⟩) (co:=1) (owned:=[3]) (a5 p2) (g3 p2) hi (by show 1 < _; omega)) fun vx L' wx hq H=>?_
 obtain ⟨p5,q5,k5,rfl,rfl⟩:=hq
 simp only [List.cons_append,List.nil_append] at H
 refine ⟨_,_,_,_,rfl,?_⟩
 repeat (first | refine lIa H ?_ | refine lLa H ?_ | refine lBa H ?_ | refine lPa H ?_ | refine lSa H ?_)
 refine call_oa H (vdo_at (b:=b) (c:=awC6) (r:=awR) (i:=row b4 [.int .i64 3] T.t3) (po:=some ⟨b4,0,none⟩) (co:=1) (owned:=[3]) (a6 p2) (g2 p2) hi (by show 1 < _; omega)) fun vx L' wx hq H=>?_
 obtain ⟨p6,q6,k6,rfl,rfl⟩:=hq
 simp only [List.cons_append,List.nil_append] at H
 refine ⟨_,_,_,_,rfl,?_⟩
 repeat (first | refine lIa H ?_ | refine lLa H ?_ | refine lBa H ?_ | refine lPa H ?_ | refine lSa H ?_)
 refine call_oa H (vdo_at (b:=b) (c:=awC7) (r:=awR) (i:=row b4 [.int .i64 3] T.t3) (po:=some ⟨b4,0,none⟩) (co:=1) (owned:=[3]) (a7 p2) (g2 p2) hi (by show 1 < _; omega)) fun vx L' wx hq H=>?_
 obtain ⟨p7,q7,k7,rfl,rfl⟩:=hq
 simp only [List.cons_append,List.nil_append] at H
 refine ⟨_,_,_,_,rfl,alc_o H fun b104 wx H=>?_⟩
 have H:X.Own w S [rcs (some ⟨b104,0,none⟩) 2 awL3,chs q3 k3 awL3,chs q4 k4 awL4,chs q5 k5 awL5] wx:=els_shut (E:=ED2) (c:=2) (xs:=awL3) (F:=[chs q3 k3 awL3,chs q4 k4 awL4,chs q5 k5 awL5]) (H.dp) rfl rfl (by decide) (by unfold maxLen; omega) rfl
 refine call_oa H (same_t (p:=q3) (q:=some ⟨b104,0,none⟩) (c:=k3) (e:=2) (xs:=awL3) (ys:=awL3) (by show 2 < _; omega)) fun vx L' wx hq H=>?_
 obtain ⟨rfl,rfl⟩:=hq
 simp only [List.cons_append,List.nil_append] at H
 refine ⟨_,rfl,join_o (alc_o H fun b119 wx H=>?_)⟩
 have H:X.Own w S [rcs (some ⟨b119,0,none⟩) 1 awL4,chs q4 k4 awL4,chs q5 k5 awL5] wx:=els_shut (E:=ED2) (c:=1) (xs:=awL4) (F:=[chs q4 k4 awL4,chs q5 k5 awL5]) (H.dp) rfl rfl (by decide) (by unfold maxLen; omega) rfl
 refine call_oa H (same_t (p:=q4) (q:=some ⟨b119,0,none⟩) (c:=k4) (e:=1) (xs:=awL4) (ys:=awL4) (by show 1 < _; omega)) fun vx L' wx hq H=>?_
 obtain ⟨rfl,rfl⟩:=hq
 simp only [List.cons_append,List.nil_append] at H
 refine ⟨_,rfl,cnd_i (fun _=>alc_o H fun b124 wx H=>?_) (by simp)⟩
 have H:X.Own w S [rcs (some ⟨b124,0,none⟩) 2 awL5,chs q5 k5 awL5] wx:=els_shut (E:=ED2) (c:=2) (xs:=awL5) (F:=[chs q5 k5 awL5]) (H.dp) rfl rfl (by decide) (by unfold maxLen; omega) rfl
 refine call_oa H (same_t (p:=q5) (q:=some ⟨b124,0,none⟩) (c:=k5) (e:=2) (xs:=awL5) (ys:=awL5) (by show 2 < _; omega)) fun vx L' wx hq H=>?_
 obtain ⟨rfl,rfl⟩:=hq
 simp only [List.cons_append,List.nil_append] at H
 refine ⟨_,rfl,?_⟩
 unfold zzhi zzhh
 rw [same_aw,same_aw]
 exact ⟨_,⟨rfl,rfl⟩,H.dp⟩
theorem ch_at {w w0:World} {S0:Nat→Prop} {L F:List It} {p:Option Addr} {c k:Nat} {xs:List Ch} {x:Ch} (H:X.Own w0 S0 L w) (hp:Pick L (chs p c xs) F) (hx:xs[k]? = some x) :
 ∃ a,p = some a∧w.cell? (a.add (k * 6)) = some (.int .i64 x.k)∧w.cell? ((a.add (k * 6)).add 1) = some (.int .i64 x.d)∧w.cell? ((a.add (k * 6)).add 2) = some (.int .i64 x.e) ∧
  w.cell? ((a.add (k * 6)).add 3) = some (.int .i64 x.n)∧w.cell? ((a.add (k * 6)).add 4) = some (.int .i64 x.f)∧w.cell? ((a.add (k * 6)).add 5) = some (.int .i64 x.t):=by
 obtain ⟨d,rfl,hcell⟩:=els_at (E:=EC) (q:=p) (c:=c) H hp hx
 have hce:∀ i v,x.cells[i]? = some v→w.cell? (((⟨d,0,none⟩:Addr).add (k * 6)).add i) = some v:=by
  intro i v hv
  rw [add_lit,add_lit,Nat.zero_add]; exact hcell i v hv
 refine ⟨_,rfl,?_,hce 1 _ rfl,hce 2 _ rfl,hce 3 _ rfl,hce 4 _ rfl,hce 5 _ rfl⟩
 rw [add_lit,Nat.zero_add]; exact hcell 0 _ rfl
abbrev lowB (num v:Int) (x:Ch):Bool:=x.k == 4 && (x.n == num && x.f == v)
abbrev unbB (dev ev:Int) (x:Ch):Bool:=x.k == 2 && (x.d == dev && x.e == ev)
theorem any_next {α:Type} {f:α→Bool} {l:List α} {k:Nat} {x:α} (h:l[k]? = some x):(l.take (k + 1)).any f = ((l.take k).any f || f x):=by rw [take_next h]; simp
theorem vitsForgets_cv {W:World} {a b:Int} (ha:0≤a∧a≤255) (hb:0≤b∧b≤255) {p:Option Addr} {c:Nat} {owned:List Int} (ho:Sl W p (i64s owned)) (hl:owned.length * 8≤140737488355328)
 {q2:Option Addr} {c2:Nat} {ys:List Ac} (hq2:Slots W q2 13 (ys.map Ac.cells)) (hy:∀ y∈ys,y.Fit) (hl2:ys.length≤9223372036854775807) (dev ev:Int) :
 CV P F.zzbF [.int .u8 a,.int .u8 b,.slice p owned.length c,.slice q2 ys.length c2,.int .i64 dev,.int .i64 ev] W fun r w'=>r = .bool true∧Below W.heap.size W w':=by
 refine zzif ?_
 unfold zzbF
 have H:=keep_start W
 refine call_oa H (awake_t) fun vx L' wx hq H=>?_
 obtain ⟨rfl,rfl⟩:=hq
 simp only [List.cons_append,List.nil_append] at H
 refine ⟨_,rfl,cnd_i (fun h=>by cases h) fun _=>?_⟩
 refine call_oa H (played_t (p:=p) (c:=c) (q2:=q2) (c2:=c2) ha hb ho hl hq2 hy hl2) fun vx L' wx hq H=>?_
 obtain ⟨bs,bm,bd,bn,q,cq,t,hok,rfl,rfl⟩:=hq
 simp only [sdL,List.cons_append,List.nil_append] at H
 refine ⟨_,_,_,_,_,_,_,_,_,_,_,_,_,_,_,_,_,_,_,rfl,alc_o H fun b48 wx H=>?_⟩
 iterate 14 refine sta H fun wx H=>?_
 simp only [List.set_cons_zero,List.set_cons_succ] at H
 refine join_o (cnd_i (fun h=>by cases h) fun _=>?_)
 unfold zzfe
 refine cnd_i (fun h=>by cases h) fun _=>?_
 have hlo:owned.length < 9223372036854775807:=by omega
 repeat (first | refine lIa H ?_ | refine lLa H ?_ | refine lBa H ?_ | refine lPa H ?_ | refine lSa H ?_)
 refine call_pa H (Route_t bs t.s dev ev) fun wx H=>?_
 have hgo:(routeM t.s dev ev).2.2 = 0→go t.s dev ev = some ((routeM t.s dev ev).1.num,(routeM t.s dev ev).2.1):=go_route
 unfold routeV
 generalize routeM t.s dev ev = R at *
 obtain ⟨⟨num,coll,val⟩,v,e⟩:=R
 refine ⟨_,_,_,_,_,rfl,alc_o H fun b62 wx H=>?_⟩
 iterate 3 refine sta H fun wx H=>?_
 simp only [List.set_cons_zero,List.set_cons_succ] at H
 repeat (first | refine lIa H ?_ | refine lLa H ?_ | refine lBa H ?_ | refine lPa H ?_ | refine lSa H ?_)
 refine call_oa H (VDo_t bs t.s ⟨8,dev,0,0,0,0,0,0,false⟩ (ruA a b) (nums q cq owned) nums_sl hlo hok.vg.fits (by omega)) fun vx L' wx hq H=>?_
 obtain ⟨pp,q1,k1,rfl,rfl⟩:=hq
 simp only [List.cons_append,List.nil_append] at H
 have hlen:=vdo_len (c:=⟨8,dev,0,0,0,0,0,0,false⟩) (r:=ruA a b) (owned:=owned) (p:=pp) hok.vg
 have herr:=vdo_err (s:=t.s) (c:=⟨8,dev,0,0,0,0,0,0,false⟩) (r:=ruA a b) (owned:=owned) (p:=pp)
 have hfo:=vdo_forgets (c:=⟨8,dev,0,0,0,0,0,0,false⟩) (r:=ruA a b) (owned:=owned) (p:=pp) hok.vg rfl rfl
 generalize vdoM t.s ⟨8,dev,0,0,0,0,0,0,false⟩ (ruA a b) owned pp = M at *
 refine ⟨_,_,_,_,rfl,cnd_i (fun h0=>?_) fun h0=>?_⟩
 · have h0:M.2.2≠0:=by simpa using h0
   rw [(herr h0).1]
   exact ⟨rfl,keep_done H (by repeat (first | exact Pick.here | apply Pick.there))⟩
 have h0:M.2.2 = 0:=by simpa using h0
 obtain ⟨h181,hlow⟩:=hfo h0
 refine ldP_o H (b:=b48) (i:=0) (by repeat (first | exact Pick.here | apply Pick.there)) (by rfl) ?_
 refine call_pa H (Route_t bs M.2.1 dev ev) fun wx H=>?_
 have h181:=h181 ev
 dsimp only at h181 hlow
 unfold routeV
 generalize routeM M.2.1 dev ev = R2 at *
 obtain ⟨⟨num2,coll2,val2⟩,v2,e2⟩:=R2
 dsimp only at h181
 subst h181
 refine ⟨_,_,_,_,_,rfl,alc_o H fun b89 wx H=>?_⟩
 iterate 3 refine sta H fun wx H=>?_
 refine loop_o (fun (st:Bool×Bool×Int) L=>∃ i:Nat,i≤M.1.length∧st = ((M.1.take i).any (lowB num v),(M.1.take i).any (unbB dev ev),(i:Int))∧L = [chs q1 k1 M.1,row b62 [.int .i64 num,.int .i64 coll,.bool val] T.t44,keep W]) (fun (st:Bool×Bool×Int)=>((M.1.length:Int) - st.2.2).toNat) (H.dp) ⟨0,by omega,rfl,rfl⟩ ?_
 rintro _ _ wx ⟨i,hi,rfl,rfl⟩ H
 unfold zzfd
 dsimp only
 refine cnd_i (fun hcc=>?_) fun hcc=>?_
 · have hcc:=of_decide_eq_true hcc
   have hil:i < M.1.length:=by omega
   have hk:M.1[i]? = some M.1[i]:=List.getElem?_eq_getElem hil
   generalize M.1[i] = x at *
   refine join_o (join_o ?_)
   refine drw_o H fun wx H=>?_
   obtain ⟨a1,rfl,e0,e1,e3,e4,e5,e6⟩:=ch_at H (p:=q1) (c:=k1) (xs:=M.1) (by repeat (first | exact Pick.here | apply Pick.there)) hk
   have last:∀ lo un:Bool,lo = (M.1.take (i + 1)).any (lowB num v)→un = (M.1.take (i + 1)).any (unbB dev ev) →
    zzbU (i:Int) (fun (s':Bool×Bool×Int) w'=>(∃ L',(∃ i:Nat,i≤M.1.length∧s' = ((M.1.take i).any (lowB num v),(M.1.take i).any (unbB dev ev),(i:Int))∧L' = [chs (some a1) k1 M.1,row b62 [.int .i64 num,.int .i64 coll,.bool val] T.t44,keep W])∧X.Own W (fun k=>k < W.heap.size) L' w')∧((M.1.length:Int) - s'.2.2).toNat < ((M.1.length:Int) - (((M.1.take i).any (lowB num v),(M.1.take i).any (unbB dev ev),(i:Int)):Bool×Bool×Int).2.2).toNat) lo un wx:=by
    rintro lo un rfl rfl
    unfold zzbU
    rw [W_id (by omega) (by omega)]
    exact ⟨⟨_,⟨i + 1,by omega,by push_cast; rfl,rfl⟩,H.dp⟩,by show ((M.1.length:Int) - ((i:Int) + 1)).toNat < ((M.1.length:Int) - (i:Int)).toNat; omega⟩
   have k1':∀ lo:Bool,lo = (M.1.take (i + 1)).any (lowB num v)→zzc6 dev ev (some a1) M.1.length ((M.1.take i).any (unbB dev ev)) (i:Int) (fun (s':Bool×Bool) w'=>zzbU (i:Int) (fun (s':Bool×Bool×Int) w'=>(∃ L',(∃ i:Nat,i≤M.1.length∧s' = ((M.1.take i).any (lowB num v),(M.1.take i).any (unbB dev ev),(i:Int))∧L' = [chs (some a1) k1 M.1,row b62 [.int .i64 num,.int .i64 coll,.bool val] T.t44,keep W])∧X.Own W (fun k=>k < W.heap.size) L' w')∧((M.1.length:Int) - s'.2.2).toNat < ((M.1.length:Int) - (((M.1.take i).any (lowB num v),(M.1.take i).any (unbB dev ev),(i:Int)):Bool×Bool×Int).2.2).toNat) s'.1 s'.2 w') lo wx:=by
    intro lo hlo
    unfold zzc6
    have hun:=any_next (f:=unbB dev ev) hk
    refine cnd_i (fun hb=>last _ _ hlo (by rw [hun,hb]; rfl)) fun hb=>?_
    rw [hb,Bool.false_or] at hun
    refine ix_i hil ⟨_,e0,cnd_i (fun c1=>ix_i hil ⟨_,e1,cnd_i (fun c2=>ix_i hil ⟨_,e3,last _ _ hlo ?_⟩) fun c2=>last _ _ hlo ?_⟩) fun c1=>last _ _ hlo ?_⟩
    · rw [hun]; unfold unbB; rw [c1,c2]; rfl
    · rw [hun]; unfold unbB; rw [c1,c2]; rfl
    · rw [hun]; unfold unbB; rw [c1]; rfl
   have hlo:=any_next (f:=lowB num v) hk
   refine cnd_i (fun hb=>k1' _ (by rw [hlo,hb]; rfl)) fun hb=>?_
   rw [hb,Bool.false_or] at hlo
   refine ix_i hil ⟨_,e0,cnd_i (fun c1=>ix_i hil ⟨_,e4,ldI_o H (b:=b62) (i:=0) (by repeat (first | exact Pick.here | apply Pick.there)) (by rfl) (cnd_i (fun c2=>ix_i hil ⟨_,e5,k1' _ ?_⟩) fun c2=>k1' _ ?_)⟩) fun c1=>k1' _ ?_⟩
   · rw [hlo]; unfold lowB; rw [c1,c2]; rfl
   · rw [hlo]; unfold lowB; rw [c1,c2]; rfl
   · rw [hlo]; unfold lowB; rw [c1]; rfl
 · have hcc:=of_decide_eq_false hcc
   have hie:i = M.1.length:=by omega
   subst hie
   refine join_o (cnd_i (fun _=>?_) (fun h=>by cases h))
   have fin:∀ x:Bool,x = true→zzc7 (fun r w'=>r = .bool true∧Below W.heap.size W w') x wx:=by
    rintro x rfl
    unfold zzc7
    exact ⟨rfl,keep_done H (by repeat (first | exact Pick.here | apply Pick.there))⟩
   refine cnd_i (fun _=>fin _ rfl) fun he=>?_
   have he:e = 0:=by simpa using he
   obtain ⟨m1,m2⟩:=hlow ev num v (hgo he)
   have a1:(M.1.take M.1.length).any (lowB num v) = true:=by
    rw [List.take_length,List.any_eq_true]
    exact ⟨_,m1,by simp [lowB]⟩
   have a2:(M.1.take M.1.length).any (unbB dev ev) = true:=by
    rw [List.take_length,List.any_eq_true]
    exact ⟨_,m2,by simp [unbB]⟩
   exact cnd_i (fun _=>fin _ a2) fun h=>absurd (a1.symm.trans h) (by simp)
end Go.Proofs.YtidcijbnbdemeaaGreat
