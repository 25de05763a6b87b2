/-
  The walks and the laws beneath the statement: part 9.
-/
import Derived.Test.YtidcijbnbdemeaaGreatSah
set_option maxRecDepth 100000
set_option linter.unusedVariables false
set_option linter.unusedSimpArgs false
set_option maxHeartbeats 4000000
namespace Go.Proofs.YtidcijbnbdemeaaGreat
open Go Go.RowKit X
def awR:Ru:=⟨1024,1024,2,8⟩
def awC1:Cm:=⟨9,0,0,0,1,1,0,0,true⟩
def awC2:Cm:=⟨8,3,0,0,0,0,1,256,true⟩
def awC3:Cm:=⟨10,3,2,8195,1,0,0,0,false⟩
def awC4:Cm:=⟨3,3,2,0,0,0,0,0,false⟩
def awC5:Cm:=⟨15,3,2,0,0,0,0,0,false⟩
def awC6:Cm:=⟨8,4,0,0,0,0,0,0,true⟩
def awC7:Cm:=⟨8,3,0,0,0,0,0,1024,true⟩
def awS1:Vi:=⟨false,false,0,false,⟨0,0,0,0⟩,[],[(1,1)]⟩
def awS2 (p:Nat):Vi:=⟨false,false,0,false,⟨0,0,0,0⟩,[(3,⟨1,p,[]⟩)],[(1,1)]⟩
def awS3 (p:Nat):Vi:=⟨false,false,0,false,⟨0,0,0,0⟩,[(3,⟨1,p,[(2,⟨8195,1,true⟩)]⟩)],[(1,1)]⟩
def awL3:List Ch:=[⟨1,3,2,8195,0,1⟩,⟨7,0,0,8195,0,0⟩]
def awL4:List Ch:=[⟨3,0,0,8195,0,1⟩]
def awL5:List Ch:=[⟨4,0,0,8195,1,0⟩,⟨2,3,2,0,0,0⟩]
theorem aw1 (p:Nat):vdoM vi0 awC1 awR [3] p = ([],awS1,0):=by kernel_rfl
theorem aw2 (p:Nat):vdoM awS1 awC2 awR [3] p = ([],awS2 p,0):=by kernel_rfl
theorem aw3 (p q:Nat):vdoM (awS2 p) awC3 awR [3] q = (awL3,awS3 p,0):=by kernel_rfl
theorem aw4 (p q:Nat):vdoM (awS3 p) awC4 awR [3] q = (awL4,awS3 p,0):=by kernel_rfl
theorem aw5 (p q:Nat):vdoM (awS3 p) awC5 awR [3] q = (awL5,awS2 p,0):=by kernel_rfl
theorem aw6 (p q:Nat):vdoM (awS2 p) awC6 awR [3] q = ([],awS2 p,240):=by kernel_rfl
theorem aw7 (p q:Nat):vdoM (awS2 p) awC7 awR [3] q = ([],awS2 p,241):=by kernel_rfl
theorem vdo_at {b:Nat} {s:Vi} {c:Cm} {r:Ru} {i:It} {po:Option Addr} {co:Nat} {owned:List Int} {l:List Ch} {e:Int} {s':Nat→Vi} (h:∀ p,vdoM s c r owned p = (l,s' p,e)) (g:VGood s) (hi:∀ w S,i.h w S→Sl w po (i64s owned)) (hl:owned.length < 9223372036854775807) :
 Tri P F.zzaD [ptr b,cmV c,ruV r po owned.length co] [vitsI b s,i] fun v L'=>∃ p q cc,v = .tuple [.slice q l.length cc,.int .i64 e].toArray∧L' = [chs q cc l,vitsI b (s' p),i]:=by
 intro w S hS
 refine (VDo_t b s c r i hi hl g.fits (by omega) w S hS).mono ?_
 rintro v w' ⟨L',⟨p,q,cc,rfl,rfl⟩,H⟩
 rw [h] at H
 exact ⟨_,⟨p,q,cc,by rw [h],rfl⟩,H⟩
theorem aw_good1:VGood awS1:=by have:=vgood0.vdo (c:=awC1) (r:=awR) (owned:=[3]) (p:=0); rw [aw1] at this; exact this
theorem aw_good2 (p:Nat):VGood (awS2 p):=by have:=aw_good1.vdo (c:=awC2) (r:=awR) (owned:=[3]) (p:=p); rw [aw2] at this; exact this
theorem aw_good3 (p:Nat):VGood (awS3 p):=by have:=(aw_good2 p).vdo (c:=awC3) (r:=awR) (owned:=[3]) (p:=0); rw [aw3] at this; exact this
theorem same_aw (l:List Ch):decide (l = l) = true:=by simp
theorem aw_all:∃ (s0 s1:Vi) (s2 s3:Nat→Vi),s0 = vi0∧VGood s0∧VGood s1∧(∀ p,VGood (s2 p))∧(∀ p,VGood (s3 p))∧(∀ p,vdoM s0 awC1 awR [3] p = ([],s1,0))∧(∀ p,vdoM s1 awC2 awR [3] p = ([],s2 p,0))∧(∀ p q,vdoM (s2 p) awC3 awR [3] q = (awL3,s3 p,0)) ∧
 (∀ p q,vdoM (s3 p) awC4 awR [3] q = (awL4,s3 p,0))∧(∀ p q,vdoM (s3 p) awC5 awR [3] q = (awL5,s2 p,0))∧(∀ p q,vdoM (s2 p) awC6 awR [3] q = ([],s2 p,240))∧∀ p q,vdoM (s2 p) awC7 awR [3] q = ([],s2 p,241) :=
 ⟨vi0,awS1,awS2,awS3,rfl,vgood0,aw_good1,aw_good2,aw_good3,aw1,aw2,aw3,aw4,aw5,aw6,aw7⟩
theorem awake_t:Tri P F.zzcn [] [] fun v L'=>v = .bool true∧L' = []:=by
 intro w S hS
 refine zzkd ?_
 unfold zzcn
 have H:=Own.start hS
 obtain ⟨s0,s1,s2,s3,e0,g0,g1,g2,g3,a1,a2,a3,a4,a5,a6,a7⟩:=aw_all
 refine call_oa H (VNew_t) fun vx L' wx hq H=>?_
 obtain ⟨b,rfl,rfl⟩:=hq
 simp only [List.cons_append,List.nil_append] at H
 rw [← e0] at H
 refine ⟨_,rfl,cnd_i (fun h=>by cases h) fun _=>alc_o H fun b4 wx H=>alc_o H fun b6 wx H=>?_⟩
 iterate 5 refine sta H fun wx H=>?_
 simp only [List.set_cons_zero,List.set_cons_succ] at H
 have hi:∀ w S,(row b4 [.int .i64 3] T.t3).h w S→Sl w (some ⟨b4,0,none⟩) (i64s [3]):=fun w S h=>row_sl (xs:=[3]) w S h
 repeat (first | refine lIa H ?_ | refine lLa H ?_ | refine lBa H ?_ | refine lPa H ?_ | refine lSa H ?_)
 refine call_oa H (vdo_at (b:=b) (c:=awC1) (r:=awR) (i:=row b4 [.int .i64 3] T.t3) (po:=some ⟨b4,0,none⟩) (co:=1) (owned:=[3]) a1 g0 hi (by show 1 < _; omega)) fun vx L' wx hq H=>?_
 obtain ⟨p1,q1,k1,rfl,rfl⟩:=hq
 simp only [List.cons_append,List.nil_append] at H
 refine ⟨_,_,_,_,rfl,?_⟩
 repeat (first | refine lIa H ?_ | refine lLa H ?_ | refine lBa H ?_ | refine lPa H ?_ | refine lSa H ?_)
 refine call_oa H (vdo_at (b:=b) (c:=awC2) (r:=awR) (i:=row b4 [.int .i64 3] T.t3) (po:=some ⟨b4,0,none⟩) (co:=1) (owned:=[3]) a2 g1 hi (by show 1 < _; omega)) fun vx L' wx hq H=>?_
 obtain ⟨p2,q2,k2,rfl,rfl⟩:=hq
 simp only [List.cons_append,List.nil_append] at H
 refine ⟨_,_,_,_,rfl,?_⟩
 repeat (first | refine lIa H ?_ | refine lLa H ?_ | refine lBa H ?_ | refine lPa H ?_ | refine lSa H ?_)
 refine call_oa H (vdo_at (b:=b) (c:=awC3) (r:=awR) (i:=row b4 [.int .i64 3] T.t3) (po:=some ⟨b4,0,none⟩) (co:=1) (owned:=[3]) (a3 p2) (g2 p2) hi (by show 1 < _; omega)) fun vx L' wx hq H=>?_
 obtain ⟨p3,q3,k3,rfl,rfl⟩:=hq
 simp only [List.cons_append,List.nil_append] at H
 refine ⟨_,_,_,_,rfl,?_⟩
 repeat (first | refine lIa H ?_ | refine lLa H ?_ | refine lBa H ?_ | refine lPa H ?_ | refine lSa H ?_)
 refine call_oa H (vdo_at (b:=b) (c:=awC4) (r:=awR) (i:=row b4 [.int .i64 3] T.t3) (po:=some ⟨b4,0,none⟩) (co:=1) (owned:=[3]) (a4 p2) (g3 p2) hi (by show 1 < _; omega)) fun vx L' wx hq H=>?_
 obtain ⟨p4,q4,k4,rfl,rfl⟩:=hq
 simp only [List.cons_append,List.nil_append] at H
 refine ⟨_,_,_,_,rfl,?_⟩
 repeat (first | refine lIa H ?_ | refine lLa H ?_ | refine lBa H ?_ | refine lPa H ?_ | refine lSa H ?_)
 refine call_oa H (vdo_at (b:=b) (c:=awC5) (r:=awR) (i:=row b4 [.int .i64 3] T.t3) (po:=some ⟨b4,0,none⟩) (co:=1) (owned:=[3]) (a5 p2) (g3 p2) hi (by show 1 < _; omega)) fun vx L' wx hq H=>?_
 obtain ⟨p5,q5,k5,rfl,rfl⟩:=hq
 simp only [List.cons_append,List.nil_append] at H
 refine ⟨_,_,_,_,rfl,?_⟩
 repeat (first | refine lIa H ?_ | refine lLa H ?_ | refine lBa H ?_ | refine lPa H ?_ | refine lSa H ?_)
 refine call_oa H (vdo_at (b:=b) (c:=awC6) (r:=awR) (i:=row b4 [.int .i64 3] T.t3) (po:=some ⟨b4,0,none⟩) (co:=1) (owned:=[3]) (a6 p2) (g2 p2) hi (by show 1 < _; omega)) fun vx L' wx hq H=>?_
 obtain ⟨p6,q6,k6,rfl,rfl⟩:=hq
 simp only [List.cons_append,List.nil_append] at H
 refine ⟨_,_,_,_,rfl,?_⟩
 repeat (first | refine lIa H ?_ | refine lLa H ?_ | refine lBa H ?_ | refine lPa H ?_ | refine lSa H ?_)
 refine call_oa H (vdo_at (b:=b) (c:=awC7) (r:=awR) (i:=row b4 [.int .i64 3] T.t3) (po:=some ⟨b4,0,none⟩) (co:=1) (owned:=[3]) (a7 p2) (g2 p2) hi (by show 1 < _; omega)) fun vx L' wx hq H=>?_
 obtain ⟨p7,q7,k7,rfl,rfl⟩:=hq
 simp only [List.cons_append,List.nil_append] at H
 refine ⟨_,_,_,_,rfl,alc_o H fun b104 wx H=>?_⟩
 have H:X.Own w S [rcs (some ⟨b104,0,none⟩) 2 awL3,chs q3 k3 awL3,chs q4 k4 awL4,chs q5 k5 awL5] wx:=els_shut (E:=ED2) (c:=2) (xs:=awL3) (F:=[chs q3 k3 awL3,chs q4 k4 awL4,chs q5 k5 awL5]) (H.dp) rfl rfl (by decide) (by unfold maxLen; omega) rfl
 refine call_oa H (same_t (p:=q3) (q:=some ⟨b104,0,none⟩) (c:=k3) (e:=2) (xs:=awL3) (ys:=awL3) (by show 2 < _; omega)) fun vx L' wx hq H=>?_
 obtain ⟨rfl,rfl⟩:=hq
 simp only [List.cons_append,List.nil_append] at H
 refine ⟨_,rfl,join_o (alc_o H fun b119 wx H=>?_)⟩
 have H:X.Own w S [rcs (some ⟨b119,0,none⟩) 1 awL4,chs q4 k4 awL4,chs q5 k5 awL5] wx:=els_shut (E:=ED2) (c:=1) (xs:=awL4) (F:=[chs q4 k4 awL4,chs q5 k5 awL5]) (H.dp) rfl rfl (by decide) (by unfold maxLen; omega) rfl
 refine call_oa H (same_t (p:=q4) (q:=some ⟨b119,0,none⟩) (c:=k4) (e:=1) (xs:=awL4) (ys:=awL4) (by show 1 < _; omega)) fun vx L' wx hq H=>?_
 obtain ⟨rfl,rfl⟩:=hq
 simp only [List.cons_append,List.nil_append] at H
 refine ⟨_,rfl,cnd_i (fun _=>alc_o H fun b124 wx H=>?_) (by simp)⟩
 have H:X.Own w S [rcs (some ⟨b124,0,none⟩) 2 awL5,chs q5 k5 awL5] wx:=els_shut (E:=ED2) (c:=2) (xs:=awL5) (F:=[chs q5 k5 awL5]) (H.dp) rfl rfl (by decide) (by unfold maxLen; omega) rfl
 refine call_oa H (same_t (p:=q5) (q:=some ⟨b124,0,none⟩) (c:=k5) (e:=2) (xs:=awL5) (ys:=awL5) (by show 2 < _; omega)) fun vx L' wx hq H=>?_
 obtain ⟨rfl,rfl⟩:=hq
 simp only [List.cons_append,List.nil_append] at H
 refine ⟨_,rfl,?_⟩
 unfold zzhp zzho
 rw [same_aw,same_aw]
 exact ⟨_,⟨rfl,rfl⟩,H.dp⟩
theorem vitsStalls_cv {W:World} {a b:Int} (ha:0≤a∧a≤255) (hb:0≤b∧b≤255) {p:Option Addr} {c:Nat} {owned:List Int} (ho:Sl W p (i64s owned)) (hl:owned.length * 8≤140737488355328)
 {q2:Option Addr} {c2:Nat} {ys:List Ac} (hq2:Slots W q2 13 (ys.map Ac.cells)) (hy:∀ y∈ys,y.Fit) (hl2:ys.length≤9223372036854775807) :
 CV P F.zzbQ [.int .u8 a,.int .u8 b,.slice p owned.length c,.slice q2 ys.length c2] W fun r w'=>r = .bool true∧Below W.heap.size W w':=by
 refine zziJ ?_
 unfold zzbQ
 have H:=keep_start W
 refine call_oa H (awake_t) fun vx L' wx hq H=>?_
 obtain ⟨rfl,rfl⟩:=hq
 simp only [List.cons_append,List.nil_append] at H
 refine ⟨_,rfl,cnd_i (fun h=>by cases h) fun _=>?_⟩
 refine call_oa H (played_t (p:=p) (c:=c) (q2:=q2) (c2:=c2) ha hb ho hl hq2 hy hl2) fun vx L' wx hq H=>?_
 obtain ⟨bs,bm,bd,bn,q,cq,t,hok,rfl,rfl⟩:=hq
 simp only [sdL,List.cons_append,List.nil_append] at H
 refine ⟨_,_,_,_,_,_,_,_,_,_,_,_,_,_,_,_,_,_,_,rfl,alc_o H fun b48 wx H=>?_⟩
 iterate 14 refine sta H fun wx H=>?_
 simp only [List.set_cons_zero,List.set_cons_succ] at H
 refine join_o (cnd_i (fun h=>by cases h) fun _=>?_)
 unfold zzfq
 refine cnd_i (fun h=>by cases h) fun _=>?_
 have hlo:owned.length < 9223372036854775807:=by omega
 have Q1:∀ (x:Bool) (wx:World) (L F:List It),x = true→X.Own W (fun k=>k < W.heap.size) L wx→Pick L (keep W) F→(fun (r:Value) (w':World)=>r = .bool true∧Below W.heap.size W w') (.bool x) wx:=by
  rintro x wx L F rfl H hp
  exact ⟨rfl,keep_done H hp⟩
 repeat (first | refine lIa H ?_ | refine lLa H ?_ | refine lBa H ?_ | refine lPa H ?_ | refine lSa H ?_)
 refine call_pa H (VLeft_t bs t.s) fun wx H=>?_
 refine ⟨_,rfl,?_⟩
 repeat (first | refine lIa H ?_ | refine lLa H ?_ | refine lBa H ?_ | refine lPa H ?_ | refine lSa H ?_)
 refine call_oa H (VStep_t bs bm t.s t.m (ruA a b) (nums q cq owned) nums_sl hlo hok.vg.fits (by omega)) fun vx L' wx hq H=>?_
 obtain ⟨pp,q1,k1,rfl,rfl⟩:=hq
 simp only [List.cons_append,List.nil_append] at H
 have hlen:=step_len (bs:=t.m) (r:=ruA a b) (owned:=owned) (p:=pp) hok.vg
 have hg:VGood (vstepM t.s t.m (ruA a b) owned pp).2.2.1:=hok.vg.step
 have h_ok:=step_ok (bs:=t.m) (r:=ruA a b) (owned:=owned) (p:=pp) hok.vq
 have h_qu:=step_quiet (s:=t.s) (bs:=t.m) (r:=ruA a b) (owned:=owned) (p:=pp)
 have h_st:=fun h0 h1 h2 p2 p3=>stalls (bs:=t.m) (r:=ruA a b) (owned:=owned) (p1:=pp) (p2:=p2) (p3:=p3) hok.vq h0 h1 h2
 generalize vstepM t.s t.m (ruA a b) owned pp = V at *
 obtain ⟨c1,l1,s1,e1⟩:=V
 dsimp only at *
 refine ⟨_,_,_,_,_,_,_,_,_,_,_,_,_,rfl,alc_o H fun b80 wx H=>?_⟩
 iterate 9 refine sta H fun wx H=>?_
 simp only [List.set_cons_zero,List.set_cons_succ] at H
 refine cnd_i (fun h=>?_) fun h=>?_
 · have h:e1 = 0:=by simpa using h
   obtain ⟨hl1,hs1⟩:=h_ok h
   refine join_o ?_
   refine ldP_o H (b:=b48) (i:=0) (by repeat (first | exact Pick.here | apply Pick.there)) (by rfl) ?_
   refine call_pa H (VLeft_t bs s1) fun wx H=>?_
   refine ⟨_,rfl,?_⟩
   rw [hl1]
   unfold zzfm
   refine cnd_i (fun _=>?_) (by simp)
   refine ldP_o H (b:=b48) (i:=0) (by repeat (first | exact Pick.here | apply Pick.there)) (by rfl) ?_
   refine call_pa H (Stalled_t bs s1) fun wx H=>?_
   refine ⟨_,rfl,?_⟩
   rw [hs1]
   exact ⟨rfl,keep_done H (by repeat (first | exact Pick.here | apply Pick.there))⟩
 have h0:e1≠0:=by simpa using h
 obtain ⟨rfl,rfl,hle⟩:=h_qu h0
 refine join_o ?_
 have go4:∀ x:Bool,x = decide (e1 = 191∨e1 = 170)→zzdC (fun r w'=>r = .bool true∧Below W.heap.size W w') b48 (vleft t.s) ([]:List Ch).length e1 b80 x wx:=by
  rintro x hx
  unfold zzdC
  refine cnd_i (fun hb=>?_) fun hb=>?_
  · refine join_o ?_
    repeat (first | refine lIa H ?_ | refine lLa H ?_ | refine lBa H ?_ | refine lPa H ?_ | refine lSa H ?_)
    refine cm_eq (c:=cm0) (d:=cm0) ?_
    refine cnd_i (fun _=>cnd_i (fun _=>?_) (by simp)) (by simp)
    refine ldP_o H (b:=b48) (i:=0) (by repeat (first | exact Pick.here | apply Pick.there)) (by rfl) ?_
    refine call_pa H (VLeft_t bs s1) fun wx H=>?_
    refine ⟨_,rfl,?_⟩
    unfold zzfn
    rw [hle]
    exact Q1 _ _ _ _ (by simp) H (by repeat (first | exact Pick.here | apply Pick.there))
  · rw [hb] at hx
    have hx:=of_decide_eq_false hx.symm
    have h1:e1≠191:=fun h=>hx (.inl h)
    have h2:e1≠170:=fun h=>hx (.inr h)
    have h_st:=h_st h0 h1 h2
    refine join_o ?_
    refine ldP_o H (b:=b48) (i:=0) (by repeat (first | exact Pick.here | apply Pick.there)) (by rfl) ?_
    refine call_pa H (Stalled_t bs s1) fun wx H=>?_
    refine ⟨_,rfl,?_⟩
    rw [(h_st 0 0).1]
    refine cnd_i (fun h=>by cases h) fun _=>?_
    refine ldP_o H (b:=b48) (i:=0) (by repeat (first | exact Pick.here | apply Pick.there)) (by rfl) ?_
    refine call_pa H (VLeft_t bs s1) fun wx H=>?_
    refine ⟨_,rfl,?_⟩
    rw [hle]
    refine cnd_i (by simp) fun _=>?_
    repeat (first | refine lIa H ?_ | refine lLa H ?_ | refine lBa H ?_ | refine lPa H ?_ | refine lSa H ?_)
    refine cm_ne (c:=cm0) (d:=cm0) ?_
    refine cnd_i (by simp) fun _=>?_
    unfold zzfp
    refine cnd_i (by simp) fun _=>?_
    repeat (first | refine lIa H ?_ | refine lLa H ?_ | refine lBa H ?_ | refine lPa H ?_ | refine lSa H ?_)
    refine call_oa H (VStep_t bs bm s1 t.m (ruA a b) (nums q cq owned) nums_sl hlo hg.fits (by omega)) fun vx L' wx hq H=>?_
    obtain ⟨p2,q2',k2,rfl,rfl⟩:=hq
    simp only [List.cons_append,List.nil_append] at H
    rw [(h_st p2 0).2.2.1] at H
    have e2:=(h_st p2 0).2.1
    generalize vstepM s1 t.m (ruA a b) owned p2 = V2 at *
    obtain ⟨c2',l2,s2,e2'⟩:=V2
    dsimp only at e2 H ⊢
    subst e2
    refine ⟨_,_,_,_,_,_,_,_,_,_,_,_,_,rfl,alc_o H fun b155 wx H=>?_⟩
    iterate 9 refine sta H fun wx H=>?_
    refine ldP_o H (b:=b48) (i:=0) (by repeat (first | exact Pick.here | apply Pick.there)) (by rfl) ?_
    refine call_pa H (VRead_t bs s1 136 8) fun wx H=>?_
    refine ⟨_,_,rfl,?_⟩
    repeat (first | refine lIa H ?_ | refine lLa H ?_ | refine lBa H ?_ | refine lPa H ?_ | refine lSa H ?_)
    refine call_oa H (VWrite_t bs s1 136 8 (bitX .or .u64 (vreadM s1 136 8).1 1) (ruA a b) (po:=q) (no:=owned.length) (co:=cq)) fun vx L' wx hq H=>?_
    obtain ⟨rfl,rfl⟩:=hq
    simp only [List.cons_append,List.nil_append] at H
    rw [(h_st 0 0).2.2.2.1] at H
    refine ⟨_,rfl,?_⟩
    refine ldP_o H (b:=b48) (i:=0) (by repeat (first | exact Pick.here | apply Pick.there)) (by rfl) ?_
    have g3:VGood ({ t.s with st:=false }:Vi):=hok.vg.like rfl rfl
    have h_l3:=fun p3=>(h_st 0 p3).2.2.2.2
    clear h_st
    generalize hs3:({ t.s with st:=false }:Vi) = s3 at *
    have hst3:s3.st = false:=by rw [← hs3]
    refine call_pa H (Stalled_t bs s3) fun wx H=>?_
    refine ⟨_,rfl,?_⟩
    rw [hst3]
    repeat (first | refine lIa H ?_ | refine lLa H ?_ | refine lBa H ?_ | refine lPa H ?_ | refine lSa H ?_)
    refine call_oa H (VStep_t bs bm s3 t.m (ruA a b) (nums q cq owned) nums_sl hlo g3.fits (by omega)) fun vx L' wx hq H=>?_
    obtain ⟨p3,q3,k3,rfl,rfl⟩:=hq
    simp only [List.cons_append,List.nil_append] at H
    have h_l3:=h_l3 p3
    generalize vstepM s3 t.m (ruA a b) owned p3 = V3 at *
    obtain ⟨c3,l3,s4,e3⟩:=V3
    dsimp only at h_l3 H ⊢
    refine ⟨_,_,_,_,_,_,_,_,_,_,_,_,_,rfl,alc_o H fun b210 wx H=>?_⟩
    iterate 9 refine sta H fun wx H=>?_
    refine join_o (cnd_i (fun _=>cnd_i (fun _=>?_) (fun h=>by cases h)) (fun h=>by cases h))
    refine ldP_o H (b:=b48) (i:=0) (by repeat (first | exact Pick.here | apply Pick.there)) (by rfl) ?_
    refine call_pa H (VLeft_t bs s4) fun wx H=>?_
    refine ⟨_,rfl,cnd_i (fun _=>?_) fun h=>absurd h_l3.1 (of_decide_eq_false h)⟩
    unfold zzfo
    refine cnd_i (fun _=>Q1 _ _ _ _ rfl H (by repeat (first | exact Pick.here | apply Pick.there))) fun h=>?_
    have h:e1≠190:=by simpa using h
    have h:=h_l3.2.resolve_left h
    exact Q1 _ _ _ _ (by simp [h]) H (by repeat (first | exact Pick.here | apply Pick.there))
 refine cnd_i (fun h=>go4 _ ?_) fun h=>go4 _ ?_
 · have h:e1 = 191:=by simpa using h
   simp [h]
 · have h:e1≠191:=by simpa using h
   by_cases h2:e1 = 170
   · simp [h2]
   · simp [h,h2]
end Go.Proofs.YtidcijbnbdemeaaGreat
