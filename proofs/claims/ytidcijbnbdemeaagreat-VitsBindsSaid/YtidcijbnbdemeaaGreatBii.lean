/-
  The walks and the laws beneath the statement: part 9.
-/
import Derived.Test.YtidcijbnbdemeaaGreatBih
set_option maxRecDepth 100000
set_option linter.unusedVariables false
set_option linter.unusedSimpArgs false
set_option maxHeartbeats 4000000
namespace Go.Proofs.YtidcijbnbdemeaaGreat
open Go Go.RowKit X
theorem act_at {w:World} {q:Option Addr} {xs:List Ac} (h:Slots w q 13 (xs.map Ac.cells)) {k:Nat} {x:Ac} (hk:xs[k]? = some x) :
 ∃ a,q = some a∧w.cell? (a.add (k * 13)) = some (.int .i64 x.d)∧w.cell? ((a.add (k * 13)).add 1) = some (.int .i64 x.at') ∧
  w.cell? ((a.add (k * 13)).add 2) = some (.int .i64 x.c.op)∧w.cell? ((a.add (k * 13)).add 3) = some (.int .i64 x.c.dev)∧w.cell? ((a.add (k * 13)).add 4) = some (.int .i64 x.c.ev)∧w.cell? ((a.add (k * 13)).add 5) = some (.int .i64 x.c.num) ∧
  w.cell? ((a.add (k * 13)).add 6) = some (.int .i64 x.c.coll)∧w.cell? ((a.add (k * 13)).add 7) = some (.int .i64 x.c.tgt)∧w.cell? ((a.add (k * 13)).add 8) = some (.int .i64 x.c.bits)∧w.cell? ((a.add (k * 13)).add 9) = some (.int .i64 x.c.addr) ∧
  w.cell? ((a.add (k * 13)).add 10) = some (.bool x.c.val)∧w.cell? ((a.add (k * 13)).add 11) = some (.bool x.is)∧w.cell? ((a.add (k * 13)).add 12) = some (.int .u64 x.v):=by
 obtain ⟨a,ha,e0,e⟩:=slot_cells h hk
 exact ⟨a,ha,e0 _ rfl,e 1 _ rfl,e 2 _ rfl,e 3 _ rfl,e 4 _ rfl,e 5 _ rfl,e 6 _ rfl,e 7 _ rfl,e 8 _ rfl,e 9 _ rfl,e 10 _ rfl,e 11 _ rfl,e 12 _ rfl⟩
theorem played_t {W:World} {a b:Int} (ha:0≤a∧a≤255) (hb:0≤b∧b≤255) {p:Option Addr} {c:Nat} {owned:List Int} (ho:Sl W p (i64s owned)) (hl:owned.length * 8≤140737488355328)
 {q2:Option Addr} {c2:Nat} {ys:List Ac} (hq2:Slots W q2 13 (ys.map Ac.cells)) (hy:∀ y∈ys,y.Fit) (hl2:ys.length≤9223372036854775807) :
 Tri P F.zzce [.int .u8 a,.int .u8 b,.slice p owned.length c,.slice q2 ys.length c2] [keep W] fun v L'=>∃ bs bm bd bn q cq,∃ t:Sd,SdOk (ruA a b) t∧v = .tuple [.agg (sideV bs bm bd bn (ruA a b) q p owned.length cq c).toArray,.bool true].toArray ∧
  L' = sdL bs bm bd bn t ++ [nums q cq owned,keep W]:=by
 intro w Sp hS
 refine zzjJ ?_
 unfold zzce
 have H:=Own.start hS
 have hr:=ruA_vcpus ha hb
 have hvp:0 < (ruA a b).vcpus:=by omega
 refine alc_o H fun b9 wx H=>?_
 refine call_oa H (begun_t a b (keep W) (p:=p) (c:=c) (keep_sl ho) hl) fun vx L' wx hq H=>?_
 obtain ⟨bs,bm,bd,bn,q,cq,rfl,rfl⟩:=hq
 simp only [List.cons_append,List.nil_append] at H
 refine ⟨_,_,_,_,_,_,_,_,_,_,_,_,_,_,_,_,_,_,_,rfl,alc_o H fun b32 wx H=>?_⟩
 iterate 14 refine sta H fun wx H=>?_
 simp only [List.set_cons_zero,List.set_cons_succ] at H
 refine loop_o (fun (st:Int) L=>∃ (i:Nat) (t:Sd),i≤ys.length∧st = i∧SdOk (ruA a b) t∧L = row b32 (sideV bs bm bd bn (ruA a b) q p owned.length cq c) T.t40 :: (sdL bs bm bd bn t ++ [nums q cq owned,keep W,row b9 [.pointer none,.pointer none,.int .i64 0,.int .i64 0,.int .i64 0,.int .i64 0,.slice none 0 0,.pointer none,.pointer none,.int .i64 0,.int .i64 0,.int .i64 0,.int .i64 0,.slice none 0 0] T.t40])) (fun (st:Int)=>((ys.length:Int) - st).toNat) (H.dp)
  ⟨0,sd0,by omega,rfl,sdok0 _,rfl⟩ ?_
 rintro _ _ wx ⟨i,t,hi,rfl,hok,rfl⟩ H
 simp only [sdL,List.cons_append,List.nil_append] at H
 unfold zzg8
 refine join_o (cnd_i (fun _=>?_) (fun h=>by cases h))
 unfold zzg7
 refine cnd_i (fun hcc=>?_) fun hcc=>?_
 · have hcc:=of_decide_eq_true hcc
   have hil:i < ys.length:=by omega
   have hk:ys[i]? = some ys[i]:=List.getElem?_eq_getElem hil
   refine drw_o H fun wx H=>?_
   repeat (first | refine lIa H ?_ | refine lLa H ?_ | refine lBa H ?_ | refine lPa H ?_ | refine lSa H ?_)
   refine ix_i hil ?_
   obtain ⟨a1,rfl,e0,e1,e2,e3,e4,e5,e6,e7,e8,e9,e10,e11,e12⟩:=act_at (Own.rdS H (i:=keep W) (by repeat (first | exact Pick.here | apply Pick.there)) (keep_slots hq2)) hk
   refine ⟨_,e0,_,e1,_,e2,_,e3,_,e4,_,e5,_,e6,_,e7,_,e8,_,e9,_,e10,_,e11,_,e12,?_⟩
   have hfit:=hy _ (List.getElem_mem hil)
   have hlo:owned.length < 9223372036854775807:=by omega
   refine call_oa H (does_t bs bm bd bn t (ruA a b) (keep W) (q:=q) (p:=p) (cq:=cq) (c:=c) (owned:=owned) ys[i] (keep_sl ho) hlo hok.vg hok.rg hfit.2.2.1.2.2.2.2.2.2.2) fun vx L' wx hq H=>?_
   obtain ⟨pp,rfl,rfl⟩:=hq
   simp only [sdL,List.cons_append,List.nil_append] at H
   rw [W_id (by omega) (by omega)]
   exact ⟨_,rfl,⟨_,⟨i + 1,_,by omega,by push_cast; rfl,hok.does (p:=pp) (owned:=owned) hvp hfit,rfl⟩,H.dp⟩,by omega⟩
 · repeat (first | refine lIa H ?_ | refine lLa H ?_ | refine lBa H ?_ | refine lPa H ?_ | refine lSa H ?_)
   iterate 14 refine sta H fun wx H=>?_
   simp only [List.set_cons_zero,List.set_cons_succ] at H
   repeat (first | refine lIa H ?_ | refine lLa H ?_ | refine lBa H ?_ | refine lPa H ?_ | refine lSa H ?_)
   exact ⟨_,⟨bs,bm,bd,bn,q,cq,t,hok,rfl,rfl⟩,H.dp⟩
def awR:Ru:=⟨1024,1024,2,8⟩
def awC1:Cm:=⟨9,0,0,0,1,1,0,0,true⟩
def awC2:Cm:=⟨8,3,0,0,0,0,1,256,true⟩
def awC3:Cm:=⟨10,3,2,8195,1,0,0,0,false⟩
def awC4:Cm:=⟨3,3,2,0,0,0,0,0,false⟩
def awC5:Cm:=⟨15,3,2,0,0,0,0,0,false⟩
def awC6:Cm:=⟨8,4,0,0,0,0,0,0,true⟩
def awC7:Cm:=⟨8,3,0,0,0,0,0,1024,true⟩
def awS1:Vi:=⟨false,false,0,false,⟨0,0,0,0⟩,[],[(1,1)]⟩
def awS2 (p:Nat):Vi:=⟨false,false,0,false,⟨0,0,0,0⟩,[(3,⟨1,p,[]⟩)],[(1,1)]⟩
def awS3 (p:Nat):Vi:=⟨false,false,0,false,⟨0,0,0,0⟩,[(3,⟨1,p,[(2,⟨8195,1,true⟩)]⟩)],[(1,1)]⟩
def awL3:List Ch:=[⟨1,3,2,8195,0,1⟩,⟨7,0,0,8195,0,0⟩]
def awL4:List Ch:=[⟨3,0,0,8195,0,1⟩]
def awL5:List Ch:=[⟨4,0,0,8195,1,0⟩,⟨2,3,2,0,0,0⟩]
theorem aw1 (p:Nat):vdoM vi0 awC1 awR [3] p = ([],awS1,0):=by kernel_rfl
theorem aw2 (p:Nat):vdoM awS1 awC2 awR [3] p = ([],awS2 p,0):=by kernel_rfl
theorem aw3 (p q:Nat):vdoM (awS2 p) awC3 awR [3] q = (awL3,awS3 p,0):=by kernel_rfl
theorem aw4 (p q:Nat):vdoM (awS3 p) awC4 awR [3] q = (awL4,awS3 p,0):=by kernel_rfl
theorem aw5 (p q:Nat):vdoM (awS3 p) awC5 awR [3] q = (awL5,awS2 p,0):=by kernel_rfl
theorem aw6 (p q:Nat):vdoM (awS2 p) awC6 awR [3] q = ([],awS2 p,240):=by kernel_rfl
theorem aw7 (p q:Nat):vdoM (awS2 p) awC7 awR [3] q = ([],awS2 p,241):=by kernel_rfl
theorem vdo_at {b:Nat} {s:Vi} {c:Cm} {r:Ru} {i:It} {po:Option Addr} {co:Nat} {owned:List Int} {l:List Ch} {e:Int} {s':Nat→Vi} (h:∀ p,vdoM s c r owned p = (l,s' p,e)) (g:VGood s) (hi:∀ w S,i.h w S→Sl w po (i64s owned)) (hl:owned.length < 9223372036854775807) :
 Tri P F.zzax [ptr b,cmV c,ruV r po owned.length co] [vitsI b s,i] fun v L'=>∃ p q cc,v = .tuple [.slice q l.length cc,.int .i64 e].toArray∧L' = [chs q cc l,vitsI b (s' p),i]:=by
 intro w S hS
 refine (VDo_t b s c r i hi hl g.fits (by omega) w S hS).mono ?_
 rintro v w' ⟨L',⟨p,q,cc,rfl,rfl⟩,H⟩
 rw [h] at H
 exact ⟨_,⟨p,q,cc,by rw [h],rfl⟩,H⟩
theorem aw_good1:VGood awS1:=by have:=vgood0.vdo (c:=awC1) (r:=awR) (owned:=[3]) (p:=0); rw [aw1] at this; exact this
theorem aw_good2 (p:Nat):VGood (awS2 p):=by have:=aw_good1.vdo (c:=awC2) (r:=awR) (owned:=[3]) (p:=p); rw [aw2] at this; exact this
theorem aw_good3 (p:Nat):VGood (awS3 p):=by have:=(aw_good2 p).vdo (c:=awC3) (r:=awR) (owned:=[3]) (p:=0); rw [aw3] at this; exact this
theorem same_aw (l:List Ch):decide (l = l) = true:=by simp
theorem aw_all:∃ (s0 s1:Vi) (s2 s3:Nat→Vi),s0 = vi0∧VGood s0∧VGood s1∧(∀ p,VGood (s2 p))∧(∀ p,VGood (s3 p))∧(∀ p,vdoM s0 awC1 awR [3] p = ([],s1,0))∧(∀ p,vdoM s1 awC2 awR [3] p = ([],s2 p,0))∧(∀ p q,vdoM (s2 p) awC3 awR [3] q = (awL3,s3 p,0)) ∧
 (∀ p q,vdoM (s3 p) awC4 awR [3] q = (awL4,s3 p,0))∧(∀ p q,vdoM (s3 p) awC5 awR [3] q = (awL5,s2 p,0))∧(∀ p q,vdoM (s2 p) awC6 awR [3] q = ([],s2 p,240))∧∀ p q,vdoM (s2 p) awC7 awR [3] q = ([],s2 p,241) :=
 ⟨vi0,awS1,awS2,awS3,rfl,vgood0,aw_good1,aw_good2,aw_good3,aw1,aw2,aw3,aw4,aw5,aw6,aw7⟩
theorem awake_t:Tri P F.zzcr [] [] fun v L'=>v = .bool true∧L' = []:=by
 intro w S hS
 refine zzkf ?_
 unfold zzcr
 have H:=Own.start hS
 obtain ⟨s0,s1,s2,s3,e0,g0,g1,g2,g3,a1,a2,a3,a4,a5,a6,a7⟩:=aw_all
 refine call_oa H (VNew_t) fun vx L' wx hq H=>?_
 obtain ⟨b,rfl,rfl⟩:=hq
 simp only [List.cons_append,List.nil_append] at H
 rw [← e0] at H
 refine ⟨_,rfl,cnd_i (fun h=>by cases h) fun _=>alc_o H fun b4 wx H=>alc_o H fun b6 wx H=>?_⟩
 iterate 5 refine sta H fun wx H=>?_
 simp only [List.set_cons_zero,List.set_cons_succ] at H
 have hi:∀ w S,(row b4 [.int .i64 3] T.t3).h w S→Sl w (some ⟨b4,0,none⟩) (i64s [3]):=fun w S h=>row_sl (xs:=[3]) w S h
 repeat (first | refine lIa H ?_ | refine lLa H ?_ | refine lBa H ?_ | refine lPa H ?_ | refine lSa H ?_)
 refine call_oa H (vdo_at (b:=b) (c:=awC1) (r:=awR) (i:=row b4 [.int .i64 3] T.t3) (po:=some ⟨b4,0,none⟩) (co:=1) (owned:=[3]) a1 g0 hi (by show 1 < _; omega)) fun vx L' wx hq H=>?_
 obtain ⟨p1,q1,k1,rfl,rfl⟩:=hq
 simp only [List.cons_append,List.nil_append] at H
 refine ⟨_,_,_,_,rfl,?_⟩
 repeat (first | refine lIa H ?_ | refine lLa H ?_ | refine lBa H ?_ | refine lPa H ?_ | refine lSa H ?_)
 refine call_oa H (vdo_at (b:=b) (c:=awC2) (r:=awR) (i:=row b4 [.int .i64 3] T.t3) (po:=some ⟨b4,0,none⟩) (co:=1) (owned:=[3]) a2 g1 hi (by show 1 < _; omega)) fun vx L' wx hq H=>?_
 obtain ⟨p2,q2,k2,rfl,rfl⟩:=hq
 simp only [List.cons_append,List.nil_append] at H
 refine ⟨_,_,_,_,rfl,?_⟩
 repeat (first | refine lIa H ?_ | refine lLa H ?_ | refine lBa H ?_ | refine lPa H ?_ | refine lSa H ?_)
 refine call_oa H (vdo_at (b:=b) (c:=awC3) (r:=awR) (i:=row b4 [.int .i64 3] T.t3) (po:=some ⟨b4,0,none⟩) (co:=1) (owned:=[3]) (a3 p2) (g2 p2) hi (by show 1 < _; omega)) fun vx L' wx hq H=>?_
 obtain ⟨p3,q3,k3,rfl,rfl⟩:=hq
 simp only [List.cons_append,List.nil_append] at H
 refine ⟨_,_,_,_,rfl,?_⟩
 repeat (first | refine lIa H ?_ | refine lLa H ?_ | refine lBa H ?_ | refine lPa H ?_ | refine lSa H ?_)
 refine call_oa H (vdo_at (b:=b) (c:=awC4) (r:=awR) (i:=row b4 [.int .i64 3] T.t3) (po:=some ⟨b4,0,none⟩) (co:=1) (owned:=[3]) (a4 p2) (g3 p2) hi (by show 1 < _; omega)) fun vx L' wx hq H=>?_
 obtain ⟨p4,q4,k4,rfl,rfl⟩:=hq
 simp only [List.cons_append,List.nil_append] at H
 refine ⟨_,_,_,_,rfl,?_⟩
 repeat (first | refine lIa H ?_ | refine lLa H ?_ | refine lBa H ?_ | refine lPa H ?_ | refine lSa H ?_)
 refine call_oa H (vdo_at (b:=b) (c:=awC5) (r:=awR) (i:=row b4 [.int .i64 3] T.t3) (po:=some ⟨b4,0,none⟩) (co:=1) (owned:=[3]) (a5 p2) (g3 p2) hi (by show 1 < _; omega)) fun vx L' wx hq H=>?_
 obtain ⟨p5,q5,k5,rfl,rfl⟩:=hq
 simp only [List.cons_append,List.nil_append] at H
 refine ⟨_,_,_,_,rfl,?_⟩
 repeat (first | refine lIa H ?_ | refine lLa H ?_ | refine lBa H ?_ | refine lPa H ?_ | refine lSa H ?_)
 refine call_oa H (vdo_at (b:=b) (c:=awC6) (r:=awR) (i:=row b4 [.int .i64 3] T.t3) (po:=some ⟨b4,0,none⟩) (co:=1) (owned:=[3]) (a6 p2) (g2 p2) hi (by show 1 < _; omega)) fun vx L' wx hq H=>?_
 obtain ⟨p6,q6,k6,rfl,rfl⟩:=hq
 simp only [List.cons_append,List.nil_append] at H
 refine ⟨_,_,_,_,rfl,?_⟩
 repeat (first | refine lIa H ?_ | refine lLa H ?_ | refine lBa H ?_ | refine lPa H ?_ | refine lSa H ?_)
 refine call_oa H (vdo_at (b:=b) (c:=awC7) (r:=awR) (i:=row b4 [.int .i64 3] T.t3) (po:=some ⟨b4,0,none⟩) (co:=1) (owned:=[3]) (a7 p2) (g2 p2) hi (by show 1 < _; omega)) fun vx L' wx hq H=>?_
 obtain ⟨p7,q7,k7,rfl,rfl⟩:=hq
 simp only [List.cons_append,List.nil_append] at H
 refine ⟨_,_,_,_,rfl,alc_o H fun b104 wx H=>?_⟩
 have H:X.Own w S [rcs (some ⟨b104,0,none⟩) 2 awL3,chs q3 k3 awL3,chs q4 k4 awL4,chs q5 k5 awL5] wx:=els_shut (E:=ED2) (c:=2) (xs:=awL3) (F:=[chs q3 k3 awL3,chs q4 k4 awL4,chs q5 k5 awL5]) (H.dp) rfl rfl (by decide) (by unfold maxLen; omega) rfl
 refine call_oa H (same_t (p:=q3) (q:=some ⟨b104,0,none⟩) (c:=k3) (e:=2) (xs:=awL3) (ys:=awL3) (by show 2 < _; omega)) fun vx L' wx hq H=>?_
 obtain ⟨rfl,rfl⟩:=hq
 simp only [List.cons_append,List.nil_append] at H
 refine ⟨_,rfl,join_o (alc_o H fun b119 wx H=>?_)⟩
 have H:X.Own w S [rcs (some ⟨b119,0,none⟩) 1 awL4,chs q4 k4 awL4,chs q5 k5 awL5] wx:=els_shut (E:=ED2) (c:=1) (xs:=awL4) (F:=[chs q4 k4 awL4,chs q5 k5 awL5]) (H.dp) rfl rfl (by decide) (by unfold maxLen; omega) rfl
 refine call_oa H (same_t (p:=q4) (q:=some ⟨b119,0,none⟩) (c:=k4) (e:=1) (xs:=awL4) (ys:=awL4) (by show 1 < _; omega)) fun vx L' wx hq H=>?_
 obtain ⟨rfl,rfl⟩:=hq
 simp only [List.cons_append,List.nil_append] at H
 refine ⟨_,rfl,cnd_i (fun _=>alc_o H fun b124 wx H=>?_) (by simp)⟩
 have H:X.Own w S [rcs (some ⟨b124,0,none⟩) 2 awL5,chs q5 k5 awL5] wx:=els_shut (E:=ED2) (c:=2) (xs:=awL5) (F:=[chs q5 k5 awL5]) (H.dp) rfl rfl (by decide) (by unfold maxLen; omega) rfl
 refine call_oa H (same_t (p:=q5) (q:=some ⟨b124,0,none⟩) (c:=k5) (e:=2) (xs:=awL5) (ys:=awL5) (by show 2 < _; omega)) fun vx L' wx hq H=>?_
 obtain ⟨rfl,rfl⟩:=hq
 simp only [List.cons_append,List.nil_append] at H
 refine ⟨_,rfl,?_⟩
 unfold zzhs zzhr
 rw [same_aw,same_aw]
 exact ⟨_,⟨rfl,rfl⟩,H.dp⟩
theorem ch_at {w w0:World} {S0:Nat→Prop} {L F:List It} {p:Option Addr} {c k:Nat} {xs:List Ch} {x:Ch} (H:X.Own w0 S0 L w) (hp:Pick L (chs p c xs) F) (hx:xs[k]? = some x) :
 ∃ a,p = some a∧w.cell? (a.add (k * 6)) = some (.int .i64 x.k)∧w.cell? ((a.add (k * 6)).add 1) = some (.int .i64 x.d)∧w.cell? ((a.add (k * 6)).add 2) = some (.int .i64 x.e) ∧
  w.cell? ((a.add (k * 6)).add 3) = some (.int .i64 x.n)∧w.cell? ((a.add (k * 6)).add 4) = some (.int .i64 x.f)∧w.cell? ((a.add (k * 6)).add 5) = some (.int .i64 x.t):=by
 obtain ⟨d,rfl,hcell⟩:=els_at (E:=EC) (q:=p) (c:=c) H hp hx
 have hce:∀ i v,x.cells[i]? = some v→w.cell? (((⟨d,0,none⟩:Addr).add (k * 6)).add i) = some v:=by
  intro i v hv
  rw [add_lit,add_lit,Nat.zero_add]; exact hcell i v hv
 refine ⟨_,rfl,?_,hce 1 _ rfl,hce 2 _ rfl,hce 3 _ rfl,hce 4 _ rfl,hce 5 _ rfl⟩
 rw [add_lit,Nat.zero_add]; exact hcell 0 _ rfl
theorem any_next {α:Type} {f:α→Bool} {l:List α} {k:Nat} {x:α} (h:l[k]? = some x):(l.take (k + 1)).any f = ((l.take k).any f || f x):=by rw [take_next h]; simp
abbrev tldB (dev ev:Int) (x:Ch):Bool:=(x.k == 1 || x.k == 2) && (x.d == dev && x.e == ev)
abbrev lastB (x y:Ch):Bool:=decide (y.k > 2) || (y.d != x.d || y.e != x.e)
theorem take_drop_next {α:Type} {l:List α} {k i:Nat} {y:α} (h:l[k]? = some y) (hi:i≤k):(l.take (k + 1)).drop i = (l.take k).drop i ++ [y]:=by
 have hk:=(List.getElem?_eq_some_iff.1 h).1
 rw [take_next h,List.drop_append_of_le_length (by rw [List.length_take]; omega)]
theorem bind_fact {s t:Vi} {l:List Ch} (hb:Binds s t l) {i:Nat} {x:Ch} (hx:l[i]? = some x) (hl:(l.drop (i + 1)).all (lastB x) = true) :
 (x.k = 1→(routeM t x.d x.e).2.2 = 0∧(routeM t x.d x.e).1.num = x.n∧(routeM t x.d x.e).2.1 = x.t)∧(x.k = 2→(routeM t x.d x.e).2.2≠0):=by
 obtain ⟨hi,he⟩:=List.getElem?_eq_some_iff.1 hx
 have e:l = l.take i ++ x :: l.drop (i + 1):=by
  rw [← he,← List.drop_eq_getElem_cons hi,List.take_append_drop]
 have hlast:=fun hk=>hb.last _ x _ e hk fun y hy ⟨h1,h2,h3⟩=>by
  have:=List.all_eq_true.1 hl y hy
  unfold lastB at this
  rw [h2,h3] at this
  simp at this
  omega
 constructor
 · intro hk
   have h:=hlast (by omega)
   cases hg:go t x.d x.e with
   | none =>
    rw [hg] at h
    have:x.k = 2:=congrArg Ch.k h
    omega
   | some p =>
    rw [hg] at h
    obtain ⟨r1,r2,r3⟩:=route_go (n:=p.1) (v:=p.2) hg
    exact ⟨r1,r2.trans (congrArg Ch.n h).symm,r3.trans (congrArg Ch.t h).symm⟩
 · intro hk
   have h:=hlast (by omega)
   cases hg:go t x.d x.e with
   | none=>exact (route_no hg).1
   | some p =>
    rw [hg] at h
    have:x.k = 1:=congrArg Ch.k h
    omega
theorem told_fact {s t:Vi} {l:List Ch} (hb:Binds s t l) (hk:∀ x∈l,1≤x.k) {dev ev:Int} (h:l.any (tldB dev ev) = false):go t dev ev = go s dev ev:=by
 refine hb.other dev ev fun x hx ⟨h1,h2,h3⟩=>?_
 have h4:¬ l.any (tldB dev ev) = true:=by rw [h]; simp
 apply h4
 rw [List.any_eq_true]
 refine ⟨x,hx,?_⟩
 have h5:=hk x hx
 unfold tldB
 rw [h2,h3]
 have:x.k = 1∨x.k = 2:=by omega
 rcases this with e | e <;> simp [e]
theorem vitsBinds_cv {W:World} {a b:Int} (ha:0≤a∧a≤255) (hb:0≤b∧b≤255) {p:Option Addr} {c:Nat} {owned:List Int} (ho:Sl W p (i64s owned)) (hl:owned.length * 8≤140737488355328)
 {q2:Option Addr} {c2:Nat} {ys:List Ac} (hq2:Slots W q2 13 (ys.map Ac.cells)) (hy:∀ y∈ys,y.Fit) (hl2:ys.length≤9223372036854775807) (cc:Cm) (dev ev:Int) :
 CV P F.zzb0 [.int .u8 a,.int .u8 b,.slice p owned.length c,.slice q2 ys.length c2,cmV cc,.agg [.int .i64 dev,.int .i64 ev].toArray] W fun r w'=>r = .bool true∧Below W.heap.size W w':=by
 refine zzjf ?_
 unfold zzb0
 have H:=keep_start W
 refine alc_o H fun b20 wx H=>alc_o H fun b22 wx H=>?_
 refine call_oa H (awake_t) fun vx L' wx hq H=>?_
 obtain ⟨rfl,rfl⟩:=hq
 simp only [List.cons_append,List.nil_append] at H
 refine ⟨_,rfl,cnd_i (fun h=>by cases h) fun _=>?_⟩
 refine call_oa H (played_t (p:=p) (c:=c) (q2:=q2) (c2:=c2) ha hb ho hl hq2 hy hl2) fun vx L' wx hq H=>?_
 obtain ⟨bs,bm,bd,bn,q,cq,t,hok,rfl,rfl⟩:=hq
 simp only [sdL,List.cons_append,List.nil_append] at H
 refine ⟨_,_,_,_,_,_,_,_,_,_,_,_,_,_,_,_,_,_,_,rfl,alc_o H fun b48 wx H=>?_⟩
 iterate 14 refine sta H fun wx H=>?_
 simp only [List.set_cons_zero,List.set_cons_succ] at H
 refine join_o (cnd_i (fun h=>by cases h) fun _=>?_)
 unfold zzf0
 refine cnd_i (fun h=>by cases h) fun _=>?_
 have hlo:owned.length < 9223372036854775807:=by omega
 have hr:=ruA_vcpus ha hb
 have hvp:0 < (ruA a b).vcpus:=by omega
 repeat (first | refine lIa H ?_ | refine lLa H ?_ | refine lBa H ?_ | refine lPa H ?_ | refine lSa H ?_)
 refine call_pa H (Route_t bs t.s dev ev) fun wx H=>?_
 have g0:(routeM t.s dev ev).2.2 = 0→go t.s dev ev = some ((routeM t.s dev ev).1.num,(routeM t.s dev ev).2.1):=go_route
 have n0:∀ p,go t.s dev ev = some p→(routeM t.s dev ev).2.2 = 0:=fun p h=>(route_go (n:=p.1) (v:=p.2) h).1
 unfold routeV rtV
 generalize routeM t.s dev ev = R0 at *
 refine ⟨_,_,_,_,_,rfl,alc_o H fun b77 wx H=>?_⟩
 iterate 3 refine sta H fun wx H=>?_
 simp only [List.set_cons_zero,List.set_cons_succ] at H
 repeat (first | refine lIa H ?_ | refine lLa H ?_ | refine lBa H ?_ | refine lPa H ?_ | refine lSa H ?_)
 refine call_oa H (VDo_t bs t.s cc (ruA a b) (nums q cq owned) nums_sl hlo hok.vg.fits (by omega)) fun vx L' wx hq H=>?_
 obtain ⟨pp,q1,k1,rfl,rfl⟩:=hq
 simp only [List.cons_append,List.nil_append] at H
 have hlen:=vdo_len (c:=cc) (r:=ruA a b) (owned:=owned) (p:=pp) hok.vg
 have hbd:BT t.s (vdoM t.s cc (ruA a b) owned pp):=Binds.vdo hok.vg
 have hgd:=(NT.vdo (c:=cc) (owned:=owned) (p:=pp) hvp hok.vn hok.vg).2
 generalize vdoM t.s cc (ruA a b) owned pp = M at *
 obtain ⟨l,s1,er⟩:=M
 have hlen:l.length≤200000000000:=hlen
 dsimp only at hbd hgd H ⊢
 refine ⟨_,_,_,_,rfl,?_⟩
 refine ldP_o H (b:=b48) (i:=0) (by repeat (first | exact Pick.here | apply Pick.there)) (by rfl) (ldI_o H (b:=b22) (i:=0) (by repeat (first | exact Pick.here | apply Pick.there)) (by rfl) (ldI_o H (b:=b22) (i:=1) (by repeat (first | exact Pick.here | apply Pick.there)) (by rfl) ?_))
 refine call_pa H (Route_t bs s1 dev ev) fun wx H=>?_
 have g1:(routeM s1 dev ev).2.2 = 0→go s1 dev ev = some ((routeM s1 dev ev).1.num,(routeM s1 dev ev).2.1):=go_route
 have n1:∀ p,go s1 dev ev = some p→(routeM s1 dev ev).2.2 = 0:=fun p h=>(route_go (n:=p.1) (v:=p.2) h).1
 unfold routeV rtV
 generalize routeM s1 dev ev = R1 at *
 refine ⟨_,_,_,_,_,rfl,alc_o H fun b115 wx H=>?_⟩
 iterate 3 refine sta H fun wx H=>?_
 simp only [List.set_cons_zero,List.set_cons_succ] at H
 refine loop_o (fun (st:Bool×Int) L=>∃ i:Nat,i≤l.length∧st = ((l.take i).any (tldB dev ev),(i:Int))∧L = [vitsI bs s1,chs q1 k1 l,row b48 (sideV bs bm bd bn (ruA a b) q p owned.length cq c) T.t40,row b22 [.int .i64 dev,.int .i64 ev] T.t28,row b77 [.int .i64 R0.1.num,.int .i64 R0.1.coll,.bool R0.1.val] T.t44,row b115 [.int .i64 R1.1.num,.int .i64 R1.1.coll,.bool R1.1.val] T.t44,keep W]) (fun (st:Bool×Int)=>((l.length:Int) - st.2).toNat) (H.dp) ⟨0,by omega,rfl,rfl⟩ ?_
 clear H
 rintro _ _ wx ⟨i,hi,rfl,rfl⟩ H
 unfold zzfZ
 dsimp only
 refine cnd_i (fun hcc=>?_) fun hcc=>?_
 · have hcc:=of_decide_eq_true hcc
   have hil:i < l.length:=by omega
   have hk:l[i]? = some l[i]:=List.getElem?_eq_getElem hil
   generalize l[i] = x at *
   refine join_o (join_o ?_)
   obtain ⟨a1,rfl,e0,e1,e3,e4,e5,e6⟩:=ch_at H (p:=q1) (c:=k1) (xs:=l) (by repeat (first | exact Pick.here | apply Pick.there)) hk
   have hto:=any_next (f:=tldB dev ev) hk
   have last:∀ (to:Bool) (wx:World),to = (l.take (i + 1)).any (tldB dev ev)→X.Own W (fun k=>k < W.heap.size) [vitsI bs s1,chs (some a1) k1 l,row b48 (sideV bs bm bd bn (ruA a b) q p owned.length cq c) T.t40,row b22 [.int .i64 dev,.int .i64 ev] T.t28,row b77 [.int .i64 R0.1.num,.int .i64 R0.1.coll,.bool R0.1.val] T.t44,row b115 [.int .i64 R1.1.num,.int .i64 R1.1.coll,.bool R1.1.val] T.t44,keep W] wx →
    zzcm (i:Int) (fun (s':Bool×Int) w'=>(∃ L',(∃ i:Nat,i≤l.length∧s' = ((l.take i).any (tldB dev ev),(i:Int))∧L' = [vitsI bs s1,chs (some a1) k1 l,row b48 (sideV bs bm bd bn (ruA a b) q p owned.length cq c) T.t40,row b22 [.int .i64 dev,.int .i64 ev] T.t28,row b77 [.int .i64 R0.1.num,.int .i64 R0.1.coll,.bool R0.1.val] T.t44,row b115 [.int .i64 R1.1.num,.int .i64 R1.1.coll,.bool R1.1.val] T.t44,keep W])∧X.Own W (fun k=>k < W.heap.size) L' w')∧((l.length:Int) - s'.2).toNat < ((l.length:Int) - (i:Int)).toNat) to wx:=by
    rintro to wx rfl H
    unfold zzcm
    rw [W_id (by omega) (by omega)]
    exact ⟨⟨_,⟨i + 1,by omega,by push_cast; rfl,rfl⟩,H⟩,by show ((l.length:Int) - ((i:Int) + 1)).toNat < ((l.length:Int) - (i:Int)).toNat; omega⟩
   have k1':∀ v:Bool,v = (x.k == 1 || x.k == 2)→zzdZ b22 (some a1) l.length ((l.take i).any (tldB dev ev)) (i:Int) (fun (s':Bool) w'=>zzcm (i:Int) (fun (s':Bool×Int) w'=>(∃ L',(∃ i:Nat,i≤l.length∧s' = ((l.take i).any (tldB dev ev),(i:Int))∧L' = [vitsI bs s1,chs (some a1) k1 l,row b48 (sideV bs bm bd bn (ruA a b) q p owned.length cq c) T.t40,row b22 [.int .i64 dev,.int .i64 ev] T.t28,row b77 [.int .i64 R0.1.num,.int .i64 R0.1.coll,.bool R0.1.val] T.t44,row b115 [.int .i64 R1.1.num,.int .i64 R1.1.coll,.bool R1.1.val] T.t44,keep W])∧X.Own W (fun k=>k < W.heap.size) L' w')∧((l.length:Int) - s'.2).toNat < ((l.length:Int) - (i:Int)).toNat) s' w') v wx:=by
    intro v hv
    unfold zzdZ
    refine cnd_i (fun h=>?_) fun h=>last _ _ ?_ H
    · refine drw_o H fun wx H=>?_
      obtain ⟨a2,ea2,e0,e1,e3,e4,e5,e6⟩:=ch_at H (p:=some a1) (c:=k1) (xs:=l) (by repeat (first | exact Pick.here | apply Pick.there)) hk
      cases ea2
      have hv2:(x.k == 1 || x.k == 2) = true:=hv.symm.trans h
      refine cnd_i (fun hb=>last _ _ (by rw [hto,hb]; rfl) H) fun hb=>?_
      rw [hb,Bool.false_or] at hto
      refine ix_i hil ⟨_,e1,ldI_o H (b:=b22) (i:=0) (by repeat (first | exact Pick.here | apply Pick.there)) (by rfl) (cnd_i (fun c1=>ix_i hil ⟨_,e3,ldI_o H (b:=b22) (i:=1) (by repeat (first | exact Pick.here | apply Pick.there)) (by rfl) (last _ _ ?_ H)⟩) fun c1=>last _ _ ?_ H)⟩
      · rw [hto]; unfold tldB; rw [hv2,c1]; rfl
      · rw [hto]; unfold tldB; rw [c1]; simp
    · have hv2:(x.k == 1 || x.k == 2) = false:=hv.symm.trans h
      rw [hto]; unfold tldB; rw [hv2]; simp
   refine ix_i hil ⟨_,e0,cnd_i (fun c1=>k1' _ (by rw [c1]; rfl)) fun c1=>ix_i hil ⟨_,e0,k1' _ (by rw [c1]; rfl)⟩⟩
 have hcc:=of_decide_eq_false hcc
 have hie:i = l.length:=by omega
 subst hie
 rw [List.take_length]
 have hother:l.any (tldB dev ev) = false→go s1 dev ev = go t.s dev ev:=told_fact hbd fun x hx=>(hgd x hx).k.1
 generalize l.any (tldB dev ev) = told at *
 refine loop_o (fun (st:Int) L=>∃ i:Nat,i≤l.length∧st = (i:Int)∧L = [vitsI bs s1,chs q1 k1 l,row b48 (sideV bs bm bd bn (ruA a b) q p owned.length cq c) T.t40,row b22 [.int .i64 dev,.int .i64 ev] T.t28,row b77 [.int .i64 R0.1.num,.int .i64 R0.1.coll,.bool R0.1.val] T.t44,row b115 [.int .i64 R1.1.num,.int .i64 R1.1.coll,.bool R1.1.val] T.t44,keep W]) (fun (st:Int)=>((l.length:Int) - st).toNat) H ⟨0,by omega,rfl,rfl⟩ ?_
 clear H
 rintro _ _ wx ⟨i,hi,rfl,rfl⟩ H
 unfold zzfY
 refine cnd_i (fun hcc=>?_) fun hcc=>?_
 · have hcc:=of_decide_eq_true hcc
   have hil:i < l.length:=by omega
   have hx:l[i]? = some l[i]:=List.getElem?_eq_getElem hil
   generalize l[i] = x at *
   rw [W_id (n:=(i:Int) + 1) (by omega) (by omega)]
   refine loop_o (fun (st:Bool×Int) L=>∃ k:Nat,i + 1≤k∧k≤l.length∧st = (((l.take k).drop (i + 1)).all (lastB x),(k:Int))∧L = [vitsI bs s1,chs q1 k1 l,row b48 (sideV bs bm bd bn (ruA a b) q p owned.length cq c) T.t40,row b22 [.int .i64 dev,.int .i64 ev] T.t28,row b77 [.int .i64 R0.1.num,.int .i64 R0.1.coll,.bool R0.1.val] T.t44,row b115 [.int .i64 R1.1.num,.int .i64 R1.1.coll,.bool R1.1.val] T.t44,keep W]) (fun (st:Bool×Int)=>((l.length:Int) - st.2).toNat) H ⟨i + 1,by omega,by omega,by
    have:(l.take (i + 1)).drop (i + 1) = []:=List.drop_eq_nil_of_le (by rw [List.length_take]; omega)
    rw [this]; push_cast; rfl,rfl⟩ ?_
   clear H
   rintro _ _ wx ⟨k,hik,hkl,rfl,rfl⟩ H
   unfold zzfX
   dsimp only
   refine cnd_i (fun hcc=>?_) fun hcc=>?_
   · have hcc:=of_decide_eq_true hcc
     have hkl2:k < l.length:=by omega
     have hy:l[k]? = some l[k]:=List.getElem?_eq_getElem hkl2
     generalize l[k] = y at *
     refine join_o ?_
     refine drw_o H fun wx H=>?_
     obtain ⟨a1,rfl,e0,e1,e3,e4,e5,e6⟩:=ch_at H (p:=q1) (c:=k1) (xs:=l) (by repeat (first | exact Pick.here | apply Pick.there)) hy
     obtain ⟨a2,ea2,f0,f1,f3,f4,f5,f6⟩:=ch_at H (p:=some a1) (c:=k1) (xs:=l) (by repeat (first | exact Pick.here | apply Pick.there)) hx
     cases ea2
     have hnext:((l.take (k + 1)).drop (i + 1)).all (lastB x) = (((l.take k).drop (i + 1)).all (lastB x) && lastB x y):=by
      rw [take_drop_next hy hik,List.all_append]; simp
     generalize ((l.take k).drop (i + 1)).all (lastB x) = la at *
     have last:∀ (to:Bool),to = (la && lastB x y) →
      zzd0 (k:Int) (fun (s':Bool×Int) w'=>(∃ L',(∃ k:Nat,i + 1≤k∧k≤l.length∧s' = (((l.take k).drop (i + 1)).all (lastB x),(k:Int))∧L' = [vitsI bs s1,chs (some a1) k1 l,row b48 (sideV bs bm bd bn (ruA a b) q p owned.length cq c) T.t40,row b22 [.int .i64 dev,.int .i64 ev] T.t28,row b77 [.int .i64 R0.1.num,.int .i64 R0.1.coll,.bool R0.1.val] T.t44,row b115 [.int .i64 R1.1.num,.int .i64 R1.1.coll,.bool R1.1.val] T.t44,keep W])∧X.Own W (fun k=>k < W.heap.size) L' w')∧((l.length:Int) - s'.2).toNat < ((l.length:Int) - (k:Int)).toNat) to wx:=by
      rintro to rfl
      unfold zzd0
      rw [W_id (by omega) (by omega),← hnext]
      exact ⟨⟨_,⟨k + 1,by omega,by omega,by push_cast; rfl,rfl⟩,H⟩,by show ((l.length:Int) - ((k:Int) + 1)).toNat < ((l.length:Int) - (k:Int)).toNat; omega⟩
     refine cnd_i (fun hla=>?_) fun hla=>last _ (by rw [hla]; rfl)
     rw [hla,Bool.true_and] at last
     refine ix_i hkl2 ⟨_,e0,cnd_i (fun c1=>last _ ?_) fun c1=>ix_i hkl2 ⟨_,e1,ix_i hil ⟨_,f1,cnd_i (fun c2=>last _ ?_) fun c2=>ix_i hkl2 ⟨_,e3,ix_i hil ⟨_,f3,last _ ?_⟩⟩⟩⟩⟩
     · unfold lastB; rw [c1]; rfl
     · unfold lastB; rw [c2]; simp
     · unfold lastB; rw [c1,c2]; rfl
   have hcc:=of_decide_eq_false hcc
   have hke:k = l.length:=by omega
   subst hke
   rw [List.take_length]
   have hf:=bind_fact hbd hx
   generalize (l.drop (i + 1)).all (lastB x) = la at *
   refine join_o ?_
   refine drw_o H fun wx H=>?_
   obtain ⟨a1,rfl,e0,e1,e3,e4,e5,e6⟩:=ch_at H (p:=q1) (c:=k1) (xs:=l) (by repeat (first | exact Pick.here | apply Pick.there)) hx
   refine ldP_o H (b:=b48) (i:=0) (by repeat (first | exact Pick.here | apply Pick.there)) (by rfl) ?_
   refine ix_i hil ⟨_,e1,ix_i hil ⟨_,e3,?_⟩⟩
   have j4:∀ (b188:Nat) (co:Int) (va:Bool) (wx:World),X.Own W (fun k=>k < W.heap.size) (row b188 [.int .i64 (routeM s1 x.d x.e).1.num,.int .i64 co,.bool va] T.t44 :: [vitsI bs s1,chs (some a1) k1 l,row b48 (sideV bs bm bd bn (ruA a b) q p owned.length cq c) T.t40,row b22 [.int .i64 dev,.int .i64 ev] T.t28,row b77 [.int .i64 R0.1.num,.int .i64 R0.1.coll,.bool R0.1.val] T.t44,row b115 [.int .i64 R1.1.num,.int .i64 R1.1.coll,.bool R1.1.val] T.t44,keep W]) wx →
    zzd2 (fun r w'=>r = .bool true∧Below W.heap.size W w') (some a1) l.length (i:Int) (fun (s':Int) w'=>(∃ L',(∃ i:Nat,i≤l.length∧s' = (i:Int)∧L' = [vitsI bs s1,chs (some a1) k1 l,row b48 (sideV bs bm bd bn (ruA a b) q p owned.length cq c) T.t40,row b22 [.int .i64 dev,.int .i64 ev] T.t28,row b77 [.int .i64 R0.1.num,.int .i64 R0.1.coll,.bool R0.1.val] T.t44,row b115 [.int .i64 R1.1.num,.int .i64 R1.1.coll,.bool R1.1.val] T.t44,keep W])∧X.Own W (fun k=>k < W.heap.size) L' w')∧((l.length:Int) - s').toNat < ((l.length:Int) - (i:Int)).toNat) la b188 (routeM s1 x.d x.e).2.1 (routeM s1 x.d x.e).2.2 wx:=by
    intro b188 co va wx H
    generalize routeM s1 x.d x.e = R2 at *
    unfold zzd2
    refine join_o ?_
    refine drw_o H fun wx H=>?_
    obtain ⟨a2,ea2,f0,f1,f3,f4,f5,f6⟩:=ch_at H (p:=some a1) (c:=k1) (xs:=l) (by repeat (first | exact Pick.here | apply Pick.there)) hx
    cases ea2
    have last:∀ v:Bool,v = false→zzd1 (fun r w'=>r = .bool true∧Below W.heap.size W w') (i:Int) (fun (s':Int) w'=>(∃ L',(∃ i:Nat,i≤l.length∧s' = (i:Int)∧L' = [vitsI bs s1,chs (some a1) k1 l,row b48 (sideV bs bm bd bn (ruA a b) q p owned.length cq c) T.t40,row b22 [.int .i64 dev,.int .i64 ev] T.t28,row b77 [.int .i64 R0.1.num,.int .i64 R0.1.coll,.bool R0.1.val] T.t44,row b115 [.int .i64 R1.1.num,.int .i64 R1.1.coll,.bool R1.1.val] T.t44,keep W])∧X.Own W (fun k=>k < W.heap.size) L' w')∧((l.length:Int) - s').toNat < ((l.length:Int) - (i:Int)).toNat) v wx:=by
     rintro v rfl
     unfold zzd1
     refine cnd_i (fun h=>by cases h) fun _=>?_
     rw [W_id (by omega) (by omega)]
     exact ⟨⟨_,⟨i + 1,by omega,by push_cast; rfl,rfl⟩,H.dp⟩,by omega⟩
    refine ix_i hil ⟨_,f0,cnd_i (fun c1=>cnd_i (fun c2=>?_) fun c2=>?_) fun c1=>?_⟩
    · have c1:x.k = 1:=by simpa using c1
      obtain ⟨r1,r2,r3⟩:=(hf c2).1 c1
      refine cnd_i (fun h=>absurd h (by rw [r1]; simp)) fun _=>?_
      refine ldI_o H .here (by rfl) (ix_i hil ⟨_,f4,cnd_i (fun h=>absurd h (by rw [r2]; simp)) fun _=>ix_i hil ⟨_,f6,cnd_i (fun h=>absurd h (by rw [r3]; simp)) fun _=>ix_i hil ⟨_,f0,cnd_i (fun h=>absurd h (by rw [c1]; simp)) fun _=>last _ rfl⟩⟩⟩)
    · refine ix_i hil ⟨_,f0,cnd_i (fun h=>cnd_i (fun h2=>absurd (c2.symm.trans h2) (by simp)) fun _=>last _ rfl) fun _=>last _ rfl⟩
    · refine ix_i hil ⟨_,f0,cnd_i (fun h=>cnd_i (fun h2=>last _ ?_) fun _=>last _ rfl) fun _=>last _ rfl⟩
      have h:x.k = 2:=by simpa using h
      have:=(hf h2).2 h
      simpa using this
   refine ⟨?_,?_⟩
   · refine call_pa H (Route_t bs s1 x.d x.e) fun wx H=>?_
     refine ⟨_,_,_,_,_,rfl,alc_o H fun b234 wx H=>?_⟩
     obtain ⟨a2,ea2,f0,f1,f3,f4,f5,f6⟩:=ch_at H (p:=some a1) (c:=k1) (xs:=l) (by repeat (first | exact Pick.here | apply Pick.there)) hx
     cases ea2
     refine ⟨⟨_,f3,rfl⟩,⟨_,f1,rfl⟩,ldP_o H (b:=b48) (i:=0) (by repeat (first | exact Pick.here | apply Pick.there)) (by rfl) rfl,?_⟩
     iterate 3 refine sta H fun wx H=>?_
     exact j4 _ _ _ _ (H.dp)
   · refine alc_o H fun b242 wx H=>?_
     obtain ⟨a2,ea2,f0,f1,f3,f4,f5,f6⟩:=ch_at H (p:=some a1) (c:=k1) (xs:=l) (by repeat (first | exact Pick.here | apply Pick.there)) hx
     cases ea2
     refine ⟨⟨_,f3,rfl⟩,⟨_,f1,rfl⟩,ldP_o H (b:=b48) (i:=0) (by repeat (first | exact Pick.here | apply Pick.there)) (by rfl) rfl,?_⟩
     refine call_pa H (Route_t bs s1 x.d x.e) fun wx H=>?_
     refine ⟨_,_,_,_,_,rfl,?_⟩
     iterate 3 refine sta H fun wx H=>?_
     exact j4 _ _ _ _ (H.dp)
 refine join_o ?_
 have fin:∀ v:Bool,v = true→zzd3 (fun r w'=>r = .bool true∧Below W.heap.size W w') v wx:=by
  rintro v rfl
  unfold zzd3
  exact ⟨rfl,keep_done H (by repeat (first | exact Pick.here | apply Pick.there))⟩
 refine cnd_i (fun _=>fin _ rfl) fun h=>?_
 have hgo:=hother h
 refine cnd_i (fun h1=>cnd_i (fun _=>fin _ rfl) fun h2=>?_) fun h1=>?_
 · exfalso
   have h1:R0.2.2≠0:=by simpa using h1
   have h2:R1.2.2 = 0:=by simpa using h2
   have:=g1 h2
   rw [hgo] at this
   exact h1 (n0 _ this)
 · have h1:R0.2.2 = 0:=by simpa using h1
   have:=g0 h1
   by_cases h2:R1.2.2 = 0
   · have h3:=g1 h2
     rw [hgo,this] at h3
     simp only [Option.some.injEq,Prod.mk.injEq] at h3
     refine cnd_i (fun _=>ldI_o H (b:=b77) (i:=0) (by repeat (first | exact Pick.here | apply Pick.there)) (by rfl) (ldI_o H (b:=b115) (i:=0) (by repeat (first | exact Pick.here | apply Pick.there)) (by rfl) (cnd_i (fun _=>fin _ ?_) fun h=>absurd h ?_))) fun h=>absurd h ?_
     · simp [h3.2]
     · simp [h3.1]
     · simp [h1,h2]
   · exfalso
     rw [← hgo] at this
     exact h2 (n1 _ this)
end Go.Proofs.YtidcijbnbdemeaaGreat
