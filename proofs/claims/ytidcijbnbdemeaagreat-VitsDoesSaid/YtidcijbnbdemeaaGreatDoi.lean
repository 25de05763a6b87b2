/-
  The walks and the laws beneath the statement: part 9.
-/
import Derived.Test.YtidcijbnbdemeaaGreatDoh
set_option maxRecDepth 100000
set_option linter.unusedVariables false
set_option linter.unusedSimpArgs false
set_option maxHeartbeats 4000000
namespace Go.Proofs.YtidcijbnbdemeaaGreat
open Go Go.RowKit X
abbrev SmallS (q:Qu):Prop:=q.s≤9223372036854775807
theorem rWaits_t (q:Qu) (hs:SmallS q):Tri P F.zzaw [quV q] [] fun v L'=>∃ p c,v = .slice p q.cnt c∧L' = [own tInt 1 (.slice p q.cnt c) q.cnt (i64s (waitL q))]:=by
 intro w S hS
 refine zziJ ?_
 unfold zzaw
 have H:=Own.start hS
 refine alc_o H fun b5 wx H=>?_
 repeat (first | refine lIa H ?_ | refine lLa H ?_ | refine lBa H ?_ | refine lPa H ?_ | refine lSa H ?_)
 refine call_oa H (refWaits_t q hs) fun vx L' wx hq H=>?_
 obtain ⟨p,c,rfl,rfl⟩:=hq
 simp only [List.cons_append,List.nil_append] at H
 exact ⟨_,_,_,rfl,_,⟨p,c,rfl,rfl⟩,H.dp⟩
theorem rMay_t (q:Qu) (hs:SmallS q) (a:Int):Tri P F.zzaK [quV q,.int .i64 a] [] fun v L'=>v = .bool (mayB q.s 32 a)∧L' = []:=by
 intro w S hS
 refine zzjA ?_
 unfold zzaK
 have H:=Own.start hS
 refine alc_o H fun b5 wx H=>?_
 repeat (first | refine lIa H ?_ | refine lLa H ?_ | refine lBa H ?_ | refine lPa H ?_ | refine lSa H ?_)
 refine call_pa H (refIndex_t q.s a hs) fun wx H=>?_
 refine ⟨_,rfl,_,⟨?_,rfl⟩,H.dp⟩
 cases hm:mayB q.s 32 a with
 | false=>rfl
 | true =>
  obtain ⟨N,i,e1,e2,e3,e4⟩:=may_form hs hm
  rw [if_pos rfl,decide_eq_true (by omega)]
theorem rRoom_t (q:Qu) (hs:SmallS q):Tri P F.zzbi [quV q] [] fun v L'=>v = .int .i64 q.room∧L' = []:=by
 intro w S hS
 refine zzjc ?_
 unfold zzbi
 have H:=Own.start hS
 refine alc_o H fun b5 wx H=>join_o ?_
 unfold zzfK
 repeat (first | refine lIa H ?_ | refine lLa H ?_ | refine lBa H ?_ | refine lPa H ?_ | refine lSa H ?_)
 refine call_pa H (rMay_t q hs q.r) fun wx H=>?_
 refine ⟨_,rfl,?_⟩
 cases hr:mayB q.s 32 q.r with
 | false =>
  have:q.room = 0:=by unfold Qu.room Qu.both; rw [hr]; rfl
  rw [this]
  exact cnd_i (fun _=>cnd_i (fun _=>⟨_,⟨rfl,rfl⟩,H.dp⟩) (fun h=>by cases h)) (fun h=>by cases h)
 | true =>
  refine cnd_i (fun h=>by cases h) fun _=>?_
  repeat (first | refine lIa H ?_ | refine lLa H ?_ | refine lBa H ?_ | refine lPa H ?_ | refine lSa H ?_)
  refine call_pa H (rMay_t q hs q.w) fun wx H=>?_
  refine ⟨_,rfl,?_⟩
  cases hw:mayB q.s 32 q.w with
  | false =>
   have:q.room = 0:=by unfold Qu.room Qu.both; rw [hr,hw]; rfl
   rw [this]
   exact cnd_i (fun _=>⟨_,⟨rfl,rfl⟩,H.dp⟩) (fun h=>by cases h)
  | true =>
   have hb:q.both = true:=by unfold Qu.both; rw [hr,hw]; rfl
   obtain ⟨N,i,n,e1,e2,e3,hi,hn,hN,g1,g2,g3⟩:=both_form hs hb
   refine cnd_i (fun h=>by cases h) fun _=>?_
   refine drw_o H fun wx H=>?_
   repeat (first | refine lIa H ?_ | refine lLa H ?_ | refine lBa H ?_ | refine lPa H ?_ | refine lSa H ?_)
   refine ⟨by omega,?_⟩
   repeat (first | refine lIa H ?_ | refine lLa H ?_ | refine lBa H ?_ | refine lPa H ?_ | refine lSa H ?_)
   refine call_oa H (rWaits_t q hs) fun vx L' wx hq H=>?_
   obtain ⟨p,c,rfl,rfl⟩:=hq
   simp only [List.cons_append,List.nil_append] at H
   refine ⟨_,_,_,rfl,ldI_o H (by repeat (first | exact Pick.here | apply Pick.there)) rfl rfl,_,⟨?_,rfl⟩,H.dp⟩
   unfold Qu.room roomV
   rw [hb,if_pos rfl,g3,g2]
   rfl
theorem rNext_t (q:Qu) (hs:SmallS q) (a:Int) (hm:mayB q.s 32 a = true):Tri P F.zzaR [quV q,.int .i64 a] [] fun v L'=>v = .int .i64 (nextQ q.s a)∧L' = []:=by
 intro w S hS
 refine zzjd ?_
 unfold zzaR
 have H:=Own.start hS
 refine alc_o H fun b5 wx H=>?_
 repeat (first | refine lIa H ?_ | refine lLa H ?_ | refine lBa H ?_ | refine lPa H ?_ | refine lSa H ?_)
 obtain ⟨N,i,e1,e2,e3,e4⟩:=may_form hs hm
 rw [e1,e2,nextQ_n e4 e3,W_id (by omega) (by omega)]
 refine cnd_i (fun h=>⟨_,⟨?_,rfl⟩,H.dp⟩) fun h=>⟨_,⟨?_,rfl⟩,H.dp⟩
 · have h:32 * (i:Int) + 32 = 32 * (N:Int):=by simpa using h
   rw [show i + 1 = N by omega,Nat.mod_self]; rfl
 · have h:¬ (32 * (i:Int) + 32 = 32 * (N:Int)):=by simpa using h
   rw [Nat.mod_eq_of_lt (by omega)]
   exact congrArg _ (by push_cast; omega)
theorem room_both {q:Qu} (h:¬ (q.room < 1)):q.both = true:=by
 cases hb:q.both with
 | true=>rfl
 | false =>
  exfalso
  apply h
  unfold Qu.room
  rw [hb,if_neg (by decide)]
  omega
theorem rPut_t (b m:Nat) (q:Qu) (hs:SmallS q) (bs:List Int) (c:Cm) (hI:-9223372036854775808≤c.addr∧c.addr≤9223372036854775807):Tri P F.zzbt [ptr b,ptr m,cmV c] [row b q.cells tRq,memI m bs] fun v L'=>v = .int .i64 (putQ q bs c).2.2∧L' = [row b (putQ q bs c).1.cells tRq,memI m (putQ q bs c).2.1]:=by
 intro w S hS
 refine zzjo ?_
 unfold zzbt
 have H:=Own.start hS
 unfold Qu.cells at H
 refine alc_o H fun b12 wx H=>?_
 dsimp only [nn]
 simp only [add_lit]
 repeat (first | refine lIa H ?_ | refine lLa H ?_ | refine lBa H ?_ | refine lPa H ?_ | refine lSa H ?_)
 refine call_pa H (rRoom_t q hs) fun wx H=>?_
 refine ⟨_,rfl,cnd_i (fun h=>?_) fun h=>?_⟩
 · have e:putQ q bs c = (q,bs,2):=by unfold putQ; rw [if_pos (of_decide_eq_true h)]
   rw [e]
   exact ⟨_,⟨rfl,rfl⟩,H.dp⟩
 have h:=of_decide_eq_false h
 have hb:=room_both h
 unfold Qu.both at hb
 simp only [Bool.and_eq_true] at hb
 refine drw_o H fun wx H=>?_
 repeat (first | refine lIa H ?_ | refine lLa H ?_ | refine lBa H ?_ | refine lPa H ?_ | refine lSa H ?_)
 refine call_oa H (refStore_t m bs q.a q.s q.w c hI) fun vx L' wx hq H=>?_
 obtain ⟨rfl,rfl⟩:=hq
 simp only [List.cons_append,List.nil_append] at H
 refine ⟨_,rfl,join_o ?_⟩
 unfold zzfY
 refine cnd_i (fun h2=>?_) fun h2=>?_
 · have h2:storeE bs.length q.a q.s q.w c = 0:=by simpa using h2
   have e:putQ q bs c = ({ q with w:=nextQ q.s q.w },storeM bs q.a q.s q.w c,0):=by unfold putQ; rw [if_neg h,if_neg (by rw [h2]; simp)]
   rw [e,h2]
   refine drw_o H fun wx H=>?_
   repeat (first | refine lIa H ?_ | refine lLa H ?_ | refine lBa H ?_ | refine lPa H ?_ | refine lSa H ?_)
   refine call_pa H (rNext_t q hs q.w hb.2) fun wx H=>?_
   refine ⟨_,rfl,?_⟩
   refine sta H fun wx H=>?_
   exact ⟨_,⟨rfl,rfl⟩,H.drop (by unfold Qu.cells; exact (by repeat (first | exact Cut.nil | (apply Cut.cons; (repeat (first | exact Pick.here | apply Pick.there))))))⟩
 · have h2:storeE bs.length q.a q.s q.w c≠0:=by simpa using h2
   have e:putQ q bs c = (q,storeM bs q.a q.s q.w c,storeE bs.length q.a q.s q.w c):=by unfold putQ; rw [if_neg h,if_pos h2]
   rw [e]
   exact ⟨_,⟨rfl,rfl⟩,H.drop (by unfold Qu.cells; exact (by repeat (first | exact Cut.nil | (apply Cut.cons; (repeat (first | exact Pick.here | apply Pick.there))))))⟩
theorem left_cnt {q:Qu} (hs:SmallS q):q.left = (q.cnt:Int):=by
 cases hb:q.both with
 | true =>
  obtain ⟨N,i,n,e1,e2,e3,hi,hn,hN,g1,g2,g3⟩:=both_form hs hb
  rw [g1,g2]
 | false =>
  unfold Qu.cnt Qu.left
  rw [hb]; rfl
theorem cnt_both {q:Qu} (h:q.cnt≠0):q.both = true:=by
 cases hb:q.both with
 | true=>rfl
 | false =>
  exfalso
  apply h
  unfold Qu.cnt Qu.left
  rw [hb]; rfl
theorem rHead_t (m:Nat) (q:Qu) (hs:SmallS q) (bs:List Int):Tri P F.zzbj [quV q,ptr m] [memI m bs] fun v L'=>v = .tuple [cmV (headQ q bs).1,.int .i64 (headQ q bs).2].toArray∧L' = [memI m bs]:=by
 intro w S hS
 refine zzjf ?_
 unfold zzbj
 have H:=Own.start hS
 refine alc_o H fun b6 wx H=>alc_o H fun b8 wx H=>?_
 repeat (first | refine lIa H ?_ | refine lLa H ?_ | refine lBa H ?_ | refine lPa H ?_ | refine lSa H ?_)
 refine call_oa H (rWaits_t q hs) fun vx L' wx hq H=>?_
 obtain ⟨p,c,rfl,rfl⟩:=hq
 simp only [List.cons_append,List.nil_append] at H
 have hlc:=left_cnt hs
 refine ⟨_,_,_,rfl,cnd_i (fun h=>?_) fun h=>?_⟩
 · have h:(q.cnt:Int) = 0:=by simpa using h
   have e:headQ q bs = (cm0,170):=by unfold headQ; rw [if_pos (by omega)]
   rw [e]
   iterate 9 refine sta H fun wx H=>?_
   repeat (first | refine lIa H ?_ | refine lLa H ?_ | refine lBa H ?_ | refine lPa H ?_ | refine lSa H ?_)
   exact ⟨_,⟨rfl,rfl⟩,H.dp⟩
 have h:¬ ((q.cnt:Int) = 0):=by simpa using h
 have e:headQ q bs = loadM bs q.a q.s q.r:=by unfold headQ; rw [if_neg (by omega)]
 rw [e]
 repeat (first | refine lIa H ?_ | refine lLa H ?_ | refine lBa H ?_ | refine lPa H ?_ | refine lSa H ?_)
 refine call_pa H (refLoad_t m bs q.a q.s q.r) fun wx H=>?_
 unfold loadV
 generalize loadM bs q.a q.s q.r = z
 refine ⟨_,_,_,_,_,_,_,_,_,_,rfl,?_⟩
 iterate 9 refine sta H fun wx H=>?_
 repeat (first | refine lIa H ?_ | refine lLa H ?_ | refine lBa H ?_ | refine lPa H ?_ | refine lSa H ?_)
 exact ⟨_,⟨rfl,rfl⟩,H.dp⟩
def rv0:Rv:=⟨false,false,false,0,⟨0,0,0,0⟩,[],[],[],List.replicate 8 (-1)⟩
def a0:Sls:=⟨none,0,none,0,none,0⟩
theorem RNew_t:Tri P F.zzdA [] [] fun v L'=>∃ b,v = ptr b∧L' = [refI b rv0]:=by
 intro w S hS
 refine zzlF ?_
 unfold zzdA
 have H:=Own.start hS
 refine alc_o H fun b1 wx H=>?_
 refine loop_o (fun (st:Int) L=>∃ k:Nat,k≤8∧st = k∧L = [row b1 (Rv.cells { rv0 with colls:=List.replicate k (-1) ++ List.replicate (8 - k) 0 } a0) tRv]) (fun (st:Int)=>(8 - st).toNat) H ⟨0,by omega,rfl,rfl⟩ ?_
 rintro _ _ wx ⟨k,hk,rfl,rfl⟩ H
 unfold zziq
 refine cnd_i (fun h=>?_) fun h=>?_
 · have h:=of_decide_eq_true h
   have hk8:k < 8:=by omega
   refine ix_i hk8 ?_
   rw [add_lit,Nat.mul_one]
   have hlt:11 + k < (Rv.cells { rv0 with colls:=List.replicate k (-1) ++ List.replicate (8 - k) 0 } a0).length:=by
    simp only [Rv.cells,List.length_cons,i64s,List.length_map,List.length_append,List.length_replicate]; omega
   refine st1_o H .here hlt fun wx H=>?_
   rw [colls_set] at H
   rw [W_id (by omega) (by omega)]
   have e:(List.replicate k (-1:Int) ++ List.replicate (8 - k) 0).set k (-1) = List.replicate (k + 1) (-1) ++ List.replicate (8 - (k + 1)) 0:=by
    have h1:k = 0∨k = 1∨k = 2∨k = 3∨k = 4∨k = 5∨k = 6∨k = 7:=by omega
    rcases h1 with rfl | rfl | rfl | rfl | rfl | rfl | rfl | rfl <;> rfl
   rw [e] at H
   exact ⟨⟨_,⟨k + 1,by omega,by push_cast; rfl,rfl⟩,H⟩,by omega⟩
 · have h:=of_decide_eq_false h
   have hk:k = 8:=by omega
   subst hk
   have H:X.Own w S (nums none 0 [] :: _) wx:=own_nil H
   have H:X.Own w S (nums none 0 [] :: _) wx:=own_nil H
   have H:X.Own w S (els EQ none 0 [] :: _) wx:=own_nil H
   exact ⟨_,⟨b1,rfl,rfl⟩,ref_shut (d:=rv0) (a:=a0) rfl (H.perm (L1:=[row b1 (rv0.cells a0) tRv,nums none 0 [],nums none 0 [],els EQ none 0 []]) (by repeat (first | exact Cut.nil | (apply Cut.cons; (repeat (first | exact Pick.here | apply Pick.there))))))⟩
theorem rone_t (x:Bool) (n:Int):Tri P F.zzcB [.bool x,.int .u64 n] [] fun v L'=>v = .int .u64 (if x then n else 0)∧L' = []:=by
 intro w S hS
 refine zzlN ?_
 unfold zzcB
 have H:=Own.start hS
 cases x
 · exact cnd_i (fun h=>by cases h) fun _=>⟨_,⟨rfl,rfl⟩,H⟩
 · exact cnd_i (fun _=>⟨_,⟨rfl,rfl⟩,H⟩) (fun h=>by cases h)
theorem refFair_t (a s:Int):Tri P F.zzcW [winV a s] [] fun v L'=>v = .bool (fairB a s)∧L' = []:=by
 intro w S hS
 refine zzlr ?_
 unfold zzcW
 have H:=Own.start hS
 refine alc_o H fun b3 wx H=>join_o ?_
 unfold zzh2
 unfold fairB
 repeat (first | refine lIa H ?_ | refine lLa H ?_ | refine lBa H ?_ | refine lPa H ?_ | refine lSa H ?_)
 refine cnd_i (fun h=>?_) fun h=>?_
 · rw [h]
   repeat (first | refine lIa H ?_ | refine lLa H ?_ | refine lBa H ?_ | refine lPa H ?_ | refine lSa H ?_)
   refine cnd_i (fun h=>?_) fun h=>?_
   · rw [h]
     repeat (first | refine lIa H ?_ | refine lLa H ?_ | refine lBa H ?_ | refine lPa H ?_ | refine lSa H ?_)
     refine cnd_i (fun h=>?_) fun h=>?_
     · rw [h]
       repeat (first | refine lIa H ?_ | refine lLa H ?_ | refine lBa H ?_ | refine lPa H ?_ | refine lSa H ?_)
       exact ⟨_,⟨rfl,rfl⟩,H.dp⟩
     · rw [h]
       exact ⟨_,⟨rfl,rfl⟩,H.dp⟩
   · rw [h]
     exact ⟨_,⟨rfl,rfl⟩,H.dp⟩
 · rw [h]
   exact ⟨_,⟨rfl,rfl⟩,H.dp⟩
def partR (a s x n:Int):(Int×Int)×Int:=if fairB a s = true∧0≤x∧0≤n∧x≤s∧n≤wi (s - x) then ((wi (a + x),n),0) else ((0,0),42)
theorem refPart_t (a s x n:Int):Tri P F.zzb5 [winV a s,.int .i64 x,.int .i64 n] [] fun v L'=>v = .tuple [winV (partR a s x n).1.1 (partR a s x n).1.2,.int .i64 (partR a s x n).2].toArray∧L' = []:=by
 intro w S hS
 refine zzlk ?_
 unfold zzb5
 have H:=Own.start hS
 refine alc_o H fun b5 wx H=>alc_o H fun b7 wx H=>join_o ?_
 have go:∀ (y:Bool) (wx:World),X.Own w S [row b7 [.int .i64 0,.int .i64 0] tWin,row b5 [.int .i64 a,.int .i64 s] tWin] wx→(y = true↔¬ (fairB a s = true∧0≤x∧0≤n∧x≤s∧n≤wi (s - x)))→zzfM x n (fun v w'=>∃ L',(v = .tuple [winV (partR a s x n).1.1 (partR a s x n).1.2,.int .i64 (partR a s x n).2].toArray∧L' = [])∧X.Own w S L' w') b5 b7 y wx:=by
  intro y wx H hy
  unfold zzfM
  refine cnd_i (fun h=>?_) fun h=>?_
  · iterate 2 refine sta H fun wx H=>?_
    repeat (first | refine lIa H ?_ | refine lLa H ?_ | refine lBa H ?_ | refine lPa H ?_ | refine lSa H ?_)
    exact ⟨_,⟨by unfold partR; rw [if_neg (hy.1 h)]; rfl,rfl⟩,H.dp⟩
  · have h:fairB a s = true∧0≤x∧0≤n∧x≤s∧n≤wi (s - x):=by
     rcases Decidable.em (fairB a s = true∧0≤x∧0≤n∧x≤s∧n≤wi (s - x)) with h1 | h1
     · exact h1
     · rw [hy.2 h1] at h; cases h
    repeat (first | refine lIa H ?_ | refine lLa H ?_ | refine lBa H ?_ | refine lPa H ?_ | refine lSa H ?_)
    iterate 2 refine sta H fun wx H=>?_
    repeat (first | refine lIa H ?_ | refine lLa H ?_ | refine lBa H ?_ | refine lPa H ?_ | refine lSa H ?_)
    exact ⟨_,⟨by unfold partR; rw [if_pos h]; rfl,rfl⟩,H.dp⟩
 repeat (first | refine lIa H ?_ | refine lLa H ?_ | refine lBa H ?_ | refine lPa H ?_ | refine lSa H ?_)
 refine call_pa H (refFair_t a s) fun wx H=>?_
 refine ⟨_,rfl,?_⟩
 refine cnd_i (fun h=>go true _ (H.dp) (by have h:fairB a s = false:=(by simpa using h); simp [h])) fun h=>?_
 have h:fairB a s = true:=by simpa using h
 refine cnd_i (fun h1=>go true _ (H.dp) (by have h1:=of_decide_eq_true h1; simp; omega)) fun h1=>?_
 have h1:=of_decide_eq_false h1
 refine cnd_i (fun h2=>go true _ (H.dp) (by have h2:=of_decide_eq_true h2; simp; omega)) fun h2=>?_
 have h2:=of_decide_eq_false h2
 repeat (first | refine lIa H ?_ | refine lLa H ?_ | refine lBa H ?_ | refine lPa H ?_ | refine lSa H ?_)
 refine cnd_i (fun h3=>go true _ (H.dp) (by have h3:=of_decide_eq_true h3; simp; omega)) fun h3=>?_
 have h3:=of_decide_eq_false h3
 repeat (first | refine lIa H ?_ | refine lLa H ?_ | refine lBa H ?_ | refine lPa H ?_ | refine lSa H ?_)
 refine go _ _ (H.dp) ?_
 rw [decide_eq_true_eq]
 constructor
 · rintro h4 ⟨-,-,-,-,h5⟩
   have h4:n > wi (s - x):=h4
   omega
 · intro h4
   show n > wi (s - x)
   rcases Decidable.em (n > wi (s - x)) with h5 | h5
   · exact h5
   · exact absurd ⟨h,by omega,by omega,by omega,by omega⟩ h4
def rleft (d:Rv):Int:=if d.fit then (d.q.cnt:Int) else 0
theorem RLeft_t (b:Nat) (d:Rv) (hs:SmallS d.q):Tri P F.zzbw [ptr b] [refI b d] fun v L'=>v = .int .i64 (rleft d)∧L' = [refI b d]:=by
 intro w S hS
 refine zzjr ?_
 unfold zzbw
 have H:=Own.start hS
 obtain ⟨a,hc8,H⟩:=ref_open H .here
 dsimp only [nn]
 repeat (first | refine lIa H ?_ | refine lLa H ?_ | refine lBa H ?_ | refine lPa H ?_ | refine lSa H ?_)
 unfold rleft
 cases d.fit
 · exact cnd_i (fun _=>⟨_,⟨rfl,rfl⟩,ref_shut hc8 H⟩) (fun h=>by cases h)
 · refine cnd_i (fun h=>by cases h) fun _=>?_
   simp only [add_lit]
   repeat (first | refine lIa H ?_ | refine lLa H ?_ | refine lBa H ?_ | refine lPa H ?_ | refine lSa H ?_)
   have H:=ref_shut hc8 H
   refine call_oa H (rWaits_t d.q hs) fun vx L' wx hq H=>?_
   obtain ⟨p,c,rfl,rfl⟩:=hq
   simp only [List.cons_append,List.nil_append] at H
   exact ⟨_,_,_,rfl,_,⟨rfl,rfl⟩,H.dp⟩
def rreadM (d:Rv) (off width:Int):Int×Int :=
 if (itsM off width).2≠0 then (0,(itsM off width).2)
 else if (itsM off width).1.1 = 1 then (IntKind.u64.wrap (2147483648 + if d.on then 1 else 0),0)
 else if (itsM off width).1.1 = 2 then (254833,0)
 else if (itsM off width).1.1 = 19 then (d.base,0)
 else if (itsM off width).1.1 = 20 then (IntKind.u64.wrap d.q.w,0)
 else if (itsM off width).1.1 = 21 then (IntKind.u64.wrap (IntKind.u64.wrap d.q.r + if d.st then 1 else 0),0)
 else (0,0)
theorem RRead_t (b:Nat) (d:Rv) (off width:Int):Tri P F.zzbx [ptr b,.int .i64 off,.int .i64 width] [refI b d] fun v L'=>v = .tuple [.int .u64 (rreadM d off width).1,.int .i64 (rreadM d off width).2].toArray∧L' = [refI b d]:=by
 intro w S hS
 refine zzjs ?_
 unfold zzbx
 have H:=Own.start hS
 refine call_pa H (refIts_t off width) fun wx H=>?_
 refine ⟨_,_,_,_,rfl,alc_o H fun b10 wx H=>?_⟩
 iterate 3 refine sta H fun wx H=>?_
 unfold rreadM
 refine cnd_i (fun h=>?_) fun h=>?_
 · rw [if_pos (by simpa using h)]
   exact ⟨_,⟨rfl,rfl⟩,H.dp⟩
 rw [if_neg (by simpa using h)]
 repeat (first | refine lIa H ?_ | refine lLa H ?_ | refine lBa H ?_ | refine lPa H ?_ | refine lSa H ?_)
 obtain ⟨a,hc8,H⟩:=ref_open H (by repeat (first | exact Pick.here | apply Pick.there))
 refine cnd_i (fun h1=>?_) fun h1=>?_
 · rw [if_pos (by simpa using h1)]
   dsimp only [nn]
   repeat (first | refine lIa H ?_ | refine lLa H ?_ | refine lBa H ?_ | refine lPa H ?_ | refine lSa H ?_)
   refine call_pa H (rone_t d.on 1) fun wx H=>?_
   exact ⟨_,rfl,_,⟨rfl,rfl⟩,(ref_shut hc8 H).dp⟩
 rw [if_neg (by simpa using h1)]
 refine cnd_i (fun h1=>?_) fun h1=>?_
 · rw [if_pos (by simpa using h1)]
   exact ⟨_,⟨rfl,rfl⟩,(ref_shut hc8 H).dp⟩
 rw [if_neg (by simpa using h1)]
 refine cnd_i (fun h1=>?_) fun h1=>?_
 · rw [if_pos (by simpa using h1)]
   dsimp only [nn]
   repeat (first | refine lIa H ?_ | refine lLa H ?_ | refine lBa H ?_ | refine lPa H ?_ | refine lSa H ?_)
   exact ⟨_,⟨rfl,rfl⟩,(ref_shut hc8 H).dp⟩
 rw [if_neg (by simpa using h1)]
 refine cnd_i (fun h1=>?_) fun h1=>?_
 · rw [if_pos (by simpa using h1)]
   dsimp only [nn]
   simp only [add_lit]
   repeat (first | refine lIa H ?_ | refine lLa H ?_ | refine lBa H ?_ | refine lPa H ?_ | refine lSa H ?_)
   exact ⟨_,⟨rfl,rfl⟩,(ref_shut hc8 H).dp⟩
 rw [if_neg (by simpa using h1)]
 refine cnd_i (fun h1=>?_) fun h1=>?_
 · rw [if_pos (by simpa using h1)]
   dsimp only [nn]
   simp only [add_lit]
   refine drw_o H fun wx H=>?_
   repeat (first | refine lIa H ?_ | refine lLa H ?_ | refine lBa H ?_ | refine lPa H ?_ | refine lSa H ?_)
   refine call_pa H (rone_t d.st 1) fun wx H=>?_
   refine ⟨_,rfl,trivial,?_,?_⟩
   · repeat (first | refine lIa H ?_ | refine lLa H ?_ | refine lBa H ?_ | refine lPa H ?_ | refine lSa H ?_)
     rfl
   exact ⟨_,⟨rfl,rfl⟩,(ref_shut hc8 H).dp⟩
 · rw [if_neg (by simpa using h1)]
   exact ⟨_,⟨rfl,rfl⟩,(ref_shut hc8 H).dp⟩
theorem RPassV_t (b:Nat) (d:Rv) (a:Sls) (hs:SmallS d.q):Tri P F.zzbk [.pointer (some ⟨b,4,none⟩)] [row b (d.cells a) tRv] fun v L'=>v = .int .i64 (passQ d.q).2∧L' = [row b (Rv.cells { d with q:=(passQ d.q).1 } a) tRv]:=by
 intro w S hS
 refine zzjg ?_
 unfold zzbk
 have H:=Own.start hS
 dsimp only [nn]
 simp only [add_lit]
 repeat (first | refine lIa H ?_ | refine lLa H ?_ | refine lBa H ?_ | refine lPa H ?_ | refine lSa H ?_)
 refine call_oa H (rWaits_t d.q hs) fun vx L' wx hq H=>?_
 obtain ⟨p,c,rfl,rfl⟩:=hq
 simp only [List.cons_append,List.nil_append] at H
 have hlc:=left_cnt hs
 refine ⟨_,_,_,rfl,cnd_i (fun h=>?_) fun h=>?_⟩
 · have h:(d.q.cnt:Int) = 0:=by simpa using h
   have e:passQ d.q = (d.q,170):=by unfold passQ; rw [if_pos (by omega)]
   rw [e]
   exact ⟨_,⟨rfl,rfl⟩,H.dp⟩
 have h:¬ ((d.q.cnt:Int) = 0):=by simpa using h
 have hb:=cnt_both (q:=d.q) (by omega)
 unfold Qu.both at hb
 simp only [Bool.and_eq_true] at hb
 have e:passQ d.q = ({ d.q with r:=nextQ d.q.s d.q.r },0):=by unfold passQ; rw [if_neg (by omega)]
 rw [e]
 refine drw_o H fun wx H=>?_
 repeat (first | refine lIa H ?_ | refine lLa H ?_ | refine lBa H ?_ | refine lPa H ?_ | refine lSa H ?_)
 refine call_pa H (rNext_t d.q hs d.q.r hb.1) fun wx H=>?_
 refine ⟨_,rfl,?_⟩
 refine sta H fun wx H=>?_
 exact ⟨_,⟨rfl,rfl⟩,H.dp⟩
theorem RSetWriteV_t (b:Nat) (d:Rv) (a:Sls) (hs:SmallS d.q) (at':Int):Tri P F.zzaM [.pointer (some ⟨b,4,none⟩),.int .i64 at'] [row b (d.cells a) tRv] fun v L'=>v = .int .i64 (setQ d.q at').2∧L' = [row b (Rv.cells { d with q:=(setQ d.q at').1 } a) tRv]:=by
 intro w S hS
 refine zzhM ?_
 unfold zzaM
 have H:=Own.start hS
 dsimp only [nn]
 simp only [add_lit]
 repeat (first | refine lIa H ?_ | refine lLa H ?_ | refine lBa H ?_ | refine lPa H ?_ | refine lSa H ?_)
 refine call_pa H (rMay_t d.q hs at') fun wx H=>?_
 refine ⟨_,rfl,?_⟩
 unfold setQ
 cases mayB d.q.s 32 at'
 · exact cnd_i (fun _=>⟨_,⟨rfl,rfl⟩,H⟩) (fun h=>by cases h)
 · refine cnd_i (fun h=>by cases h) fun _=>?_
   refine sta H fun wx H=>?_
   exact ⟨_,⟨rfl,rfl⟩,H⟩
def rbaseN (v:Int):Int:=IntKind.i64.wrap ((IntKind.i64.wrap ((IntKind.i64.wrap ((Int.tmod v 256))) + 1)) * 256)
def rbaseX (v:Int):Int:=IntKind.i64.wrap ((IntKind.u64.wrap ((IntKind.u64.wrap (Int.tdiv (Int.tmod v 281474976710656) 256)) * 256)))
def rbaseB (v:Int):Int:=IntKind.u64.wrap ((Int.tmod v 281474976710656) + (IntKind.u64.wrap ((Int.fdiv v (2 ^ min (Int.toNat 63) (IntKind.u64.bits))) * 2 ^ min (Int.toNat 63) (IntKind.u64.bits))))
def rbaseV (v:Int):Bool:=(Int.fdiv v (2 ^ min (Int.toNat 63) (IntKind.u64.bits))) == 1
def rwAt (v:Int):Int:=IntKind.i64.wrap ((IntKind.u64.wrap ((IntKind.u64.wrap (Int.tdiv (Int.tmod v 1048576) 32)) * 32)))
def rbaseOk (v:Int) (r:Ru):Bool:=rbaseV v && ((partR r.a r.s (rbaseX v) (rbaseN v)).2 == 0 && decide (IntKind.i64.wrap (Int.tdiv (rbaseN v) 32)≤1024))
def rbaseR (d:Rv) (v:Int) (r:Ru):Rv :=
 { d with base:=rbaseB v,st:=false,fit:=rbaseOk v r,q:=if rbaseOk v r then ⟨(partR r.a r.s (rbaseX v) (rbaseN v)).1.1,(partR r.a r.s (rbaseX v) (rbaseN v)).1.2,0,0⟩ else ⟨0,0,0,0⟩ }
def rstopR (v:Int) (d:Rv):Rv:=if (Int.tmod v 2) == 1 then { d with st:=false } else d
def rcwR (k v:Int) (d:Rv):Rv:=if k = 20 then rstopR v (if d.fit then { d with q:=(setQ d.q (rwAt v)).1 } else d) else d
def rcbR (k v:Int) (r:Ru) (d:Rv):Rv:=if k = 19∧d.on = false then rbaseR d v r else d
def rctR (k v:Int) (d:Rv):Rv:=if k = 1 then { d with on:=(Int.tmod v 2) == 1 } else d
def rwriteM (d:Rv) (off width v:Int) (r:Ru):Rv×Int :=
 if (itsM off width).2≠0 then (d,(itsM off width).2)
 else (rcwR (itsM off width).1.1 v (rcbR (itsM off width).1.1 v r (rctR (itsM off width).1.1 v d)),0)
theorem RWrite_t (b:Nat) (d:Rv) (off width v:Int) (r:Ru) {po:Option Addr} {no co:Nat} (hs:SmallS d.q):Tri P F.zzbg [ptr b,.int .i64 off,.int .i64 width,.int .u64 v,ruV r po no co] [refI b d] fun x L'=>x = .int .i64 (rwriteM d off width v r).2∧L' = [refI b (rwriteM d off width v r).1]:=by
 intro w S hS
 refine zziW ?_
 unfold zzbg
 have H:=Own.start hS
 refine alc_o H fun b12 wx H=>?_
 refine call_pa H (refIts_t off width) fun wx H=>?_
 unfold rwriteM
 generalize itsM off width = I at *
 obtain ⟨⟨k,f1,f2⟩,e⟩:=I
 dsimp only
 refine ⟨_,_,_,_,rfl,alc_o H fun b20 wx H=>?_⟩
 iterate 3 refine sta H fun wx H=>?_
 refine cnd_i (fun h=>?_) fun h=>join_o ?_
 · rw [if_pos (by simpa using h)]
   exact ⟨_,⟨rfl,rfl⟩,H.dp⟩
 rw [if_neg (by simpa using h)]
 have fin:∀ (d2:Rv) (wx:World),SmallS d2.q→X.Own w S [refI b d2,row b20 [.int .i64 k,.int .i64 f1,.int .i64 f2] tPlace10] wx→zzbq (some ⟨b,0,none⟩) v (fun x w'=>∃ L',(x = .int .i64 0∧L' = [refI b (rcwR k v d2)])∧X.Own w S L' w') b20 wx:=by
  intro d2 wx hs2 H
  unfold zzbq
  refine join_o ?_
  unfold zzfG
  unfold rcwR
  repeat (first | refine lIa H ?_ | refine lLa H ?_ | refine lBa H ?_ | refine lPa H ?_ | refine lSa H ?_)
  refine cnd_i (fun h1=>?_) fun h1=>?_
  · rw [if_pos (by simpa using h1)]
    refine join_o ?_
    have fin2:∀ (d3:Rv) (wx:World),X.Own w S [refI b d3] wx→zzdH (some ⟨b,0,none⟩) v (fun _ w'=>∃ L',(Value.int .i64 0 = .int .i64 0∧L' = [refI b (rstopR v d3)])∧X.Own w S L' w') wx:=by
     intro d3 wx H
     unfold zzdH
     unfold rstopR
     refine ⟨by omega,cnd_i (fun h2=>?_) fun h2=>?_⟩
     · rw [if_pos h2]
       obtain ⟨a,hc8,H⟩:=ref_open H (by repeat (first | exact Pick.here | apply Pick.there))
       dsimp only [nn]
       rw [add_lit]
       refine sta H fun wx H=>?_
       exact ⟨_,⟨rfl,rfl⟩,ref_shut (d:={ d3 with st:=false }) (a:=a) hc8 H⟩
     · rw [if_neg (by rw [h2]; simp)]
       exact ⟨_,⟨rfl,rfl⟩,H⟩
    obtain ⟨a,hc8,H⟩:=ref_open H (by repeat (first | exact Pick.here | apply Pick.there))
    dsimp only [nn]
    repeat (first | refine lIa H ?_ | refine lLa H ?_ | refine lBa H ?_ | refine lPa H ?_ | refine lSa H ?_)
    refine cnd_i (fun hf=>?_) fun hf=>?_
    · rw [if_pos hf,add_lit]
      refine ⟨by omega,by omega,?_⟩
      refine call_o H (RSetWriteV_t b d2 a hs2 (rwAt v)) (by repeat (first | exact Cut.nil | (apply Cut.cons; (repeat (first | exact Pick.here | apply Pick.there))))) fun vx L' wx hq H=>?_
      obtain ⟨rfl,rfl⟩:=hq
      simp only [List.cons_append,List.nil_append] at H
      refine ⟨_,rfl,fin2 { d2 with q:=(setQ d2.q (rwAt v)).1 } wx ?_⟩
      exact (ref_shut (d:={ d2 with q:=(setQ d2.q (rwAt v)).1 }) (a:=a) hc8 (H.perm (L1:=[row b (Rv.cells { d2 with q:=(setQ d2.q (rwAt v)).1 } a) tRv,nums a.p1 a.c1 d2.devs,nums a.p2 a.c2 d2.bits,els EQ a.p3 a.c3 d2.routes]) (by repeat (first | exact Cut.nil | (apply Cut.cons; (repeat (first | exact Pick.here | apply Pick.there))))))).dp
    · rw [if_neg (by rw [hf]; simp)]
      exact fin2 d2 wx ((ref_shut hc8 H).dp)
  · rw [if_neg (by simpa using h1)]
    exact ⟨_,⟨rfl,rfl⟩,H.dp⟩
 have mid:∀ (d1:Rv) (wx:World),SmallS d1.q→X.Own w S [refI b d1,row b20 [.int .i64 k,.int .i64 f1,.int .i64 f2] tPlace10,row b12 [.int .i64 r.a,.int .i64 r.s,.int .i64 r.vcpus,.int .i64 r.lpis,.slice po no co] tRru] wx →
  zzdK (some ⟨b,0,none⟩) v (fun x w'=>∃ L',(x = .int .i64 0∧L' = [refI b (rcwR k v (rcbR k v r d1))])∧X.Own w S L' w') b12 b20 wx:=by
  intro d1 wx hs1 H
  unfold zzdK
  refine join_o (join_o ?_)
  have go:∀ (x:Bool) (wx:World),(x = true↔(k = 19∧d1.on = false))→X.Own w S [refI b d1,row b20 [.int .i64 k,.int .i64 f1,.int .i64 f2] tPlace10,row b12 [.int .i64 r.a,.int .i64 r.s,.int .i64 r.vcpus,.int .i64 r.lpis,.slice po no co] tRru] wx →
   zzdJ (some ⟨b,0,none⟩) v b12 (fun _ w'=>zzbq (some ⟨b,0,none⟩) v (fun x w'=>∃ L',(x = .int .i64 0∧L' = [refI b (rcwR k v (rcbR k v r d1))])∧X.Own w S L' w') b20 w') x wx:=by
   intro x wx hx H
   unfold zzdJ
   refine cnd_i (fun h1=>?_) fun h1=>?_
   · have e1:rcbR k v r d1 = rbaseR d1 v r:=by unfold rcbR; rw [if_pos (hx.1 h1)]
     rw [e1]
     refine ⟨by omega,by omega,by omega,?_⟩
     obtain ⟨a,hc8,H⟩:=ref_open H (by repeat (first | exact Pick.here | apply Pick.there))
     dsimp only [nn]
     simp only [add_lit]
     iterate 7 refine sta H fun wx H=>?_
     refine ⟨by omega,?_⟩
     repeat (first | refine lIa H ?_ | refine lLa H ?_ | refine lBa H ?_ | refine lPa H ?_ | refine lSa H ?_)
     refine ⟨by omega,by omega,?_⟩
     change CV P F.zzb5 [winV r.a r.s,.int .i64 (rbaseX v),.int .i64 (rbaseN v)] _ _
     refine call_pa H (refPart_t r.a r.s (rbaseX v) (rbaseN v)) fun wx H=>?_
     have hsm:(partR r.a r.s (rbaseX v) (rbaseN v)).1.2≤9223372036854775807:=by
      unfold partR
      split
      · exact (W_range _).2
      · show (0:Int)≤_; omega
     generalize hp:partR r.a r.s (rbaseX v) (rbaseN v) = p at *
     obtain ⟨⟨pa,ps⟩,pe⟩:=p
     dsimp only at hsm
     refine ⟨_,_,_,rfl,alc_o H fun b66 wx H=>?_⟩
     iterate 2 refine sta H fun wx H=>?_
     refine join_o ?_
     have go2:∀ (y:Bool) (wx:World),y = rbaseOk v r→X.Own w S [row b66 [.int .i64 pa,.int .i64 ps] tWin,row b (Rv.cells { d1 with base:=rbaseB v,st:=false,fit:=false,q:=⟨0,0,0,0⟩ } a) tRv,nums a.p1 a.c1 d1.devs,nums a.p2 a.c2 d1.bits,els EQ a.p3 a.c3 d1.routes,row b20 [.int .i64 k,.int .i64 f1,.int .i64 f2] tPlace10] wx →
      zzdI (some ⟨b,0,none⟩) (fun _ w'=>zzbq (some ⟨b,0,none⟩) v (fun x w'=>∃ L',(x = .int .i64 0∧L' = [refI b (rcwR k v (rbaseR d1 v r))])∧X.Own w S L' w') b20 w') b66 y wx:=by
      intro y wx hy H
      unfold zzdI
      refine cnd_i (fun h2=>?_) fun h2=>?_
      · have e2:rbaseR d1 v r = { d1 with base:=rbaseB v,st:=false,fit:=true,q:=⟨pa,ps,0,0⟩ }:=by
         unfold rbaseR
         rw [← hy,h2,hp,if_pos rfl]
        rw [e2]
        dsimp only [nn]
        simp only [add_lit]
        refine sta H fun wx H=>?_
        repeat (first | refine lIa H ?_ | refine lLa H ?_ | refine lBa H ?_ | refine lPa H ?_ | refine lSa H ?_)
        iterate 2 refine sta H fun wx H=>?_
        refine fin { d1 with base:=rbaseB v,st:=false,fit:=true,q:=⟨pa,ps,0,0⟩ } wx hsm ?_
        have H:=H.perm (L1:=[row b (Rv.cells { d1 with base:=rbaseB v,st:=false,fit:=true,q:=⟨pa,ps,0,0⟩ } a) tRv,nums a.p1 a.c1 d1.devs,nums a.p2 a.c2 d1.bits,els EQ a.p3 a.c3 d1.routes]) (by repeat (first | exact Cut.nil | (apply Cut.cons; (repeat (first | exact Pick.here | apply Pick.there)))))
        exact (ref_shut (d:={ d1 with base:=rbaseB v,st:=false,fit:=true,q:=⟨pa,ps,0,0⟩ }) (a:=a) hc8 H).dp
      · have e2:rbaseR d1 v r = { d1 with base:=rbaseB v,st:=false,fit:=false,q:=⟨0,0,0,0⟩ }:=by
         unfold rbaseR
         rw [← hy,h2,if_neg (by simp)]
        rw [e2]
        refine fin { d1 with base:=rbaseB v,st:=false,fit:=false,q:=⟨0,0,0,0⟩ } wx (by show (0:Int)≤_; omega) ?_
        have H:=H.perm (L1:=[row b (Rv.cells { d1 with base:=rbaseB v,st:=false,fit:=false,q:=⟨0,0,0,0⟩ } a) tRv,nums a.p1 a.c1 d1.devs,nums a.p2 a.c2 d1.bits,els EQ a.p3 a.c3 d1.routes]) (by repeat (first | exact Cut.nil | (apply Cut.cons; (repeat (first | exact Pick.here | apply Pick.there)))))
        exact (ref_shut (d:={ d1 with base:=rbaseB v,st:=false,fit:=false,q:=⟨0,0,0,0⟩ }) (a:=a) hc8 H).dp
     have hok:rbaseOk v r = (rbaseV v && (pe == 0 && decide (IntKind.i64.wrap (Int.tdiv (rbaseN v) 32)≤1024))):=by unfold rbaseOk; rw [hp]
     refine ⟨by omega,cnd_i (fun h2=>cnd_i (fun h3=>⟨by omega,?_⟩) fun h3=>?_) fun h2=>?_⟩
     · have h2:rbaseV v = true:=h2
       exact go2 _ _ (by rw [hok,h2,h3]; rfl) (H.dp)
     · exact go2 false _ (by rw [hok,h3]; simp) (H.dp)
     · have h2:rbaseV v = false:=h2
       exact go2 false _ (by rw [hok,h2]; simp) (H.dp)
   · have e1:rcbR k v r d1 = d1:=by
      unfold rcbR
      rw [if_neg (fun hh=>by rw [hx.2 hh] at h1; cases h1)]
     rw [e1]
     exact fin d1 wx hs1 (H.dp)
  repeat (first | refine lIa H ?_ | refine lLa H ?_ | refine lBa H ?_ | refine lPa H ?_ | refine lSa H ?_)
  refine cnd_i (fun h1=>?_) fun h1=>?_
  · obtain ⟨a,hc8,H⟩:=ref_open H (by repeat (first | exact Pick.here | apply Pick.there))
    dsimp only [nn]
    repeat (first | refine lIa H ?_ | refine lLa H ?_ | refine lBa H ?_ | refine lPa H ?_ | refine lSa H ?_)
    exact go _ _ (by have h1:k = 19:=(by simpa using h1); simp [h1]) ((ref_shut hc8 H).dp)
  · exact go false _ (by have h1:k≠19:=(by simpa using h1); simp [h1]) H
 repeat (first | refine lIa H ?_ | refine lLa H ?_ | refine lBa H ?_ | refine lPa H ?_ | refine lSa H ?_)
 unfold rctR
 refine cnd_i (fun h1=>?_) fun h1=>?_
 · rw [if_pos (by simpa using h1)]
   refine ⟨by omega,?_⟩
   obtain ⟨a,hc8,H⟩:=ref_open H (by repeat (first | exact Pick.here | apply Pick.there))
   dsimp only [nn]
   refine sta H fun wx H=>?_
   refine mid { d with on:=(Int.tmod v 2) == 1 } wx hs ?_
   have H:=H.perm (L1:=[row b (Rv.cells { d with on:=(Int.tmod v 2) == 1 } a) tRv,nums a.p1 a.c1 d.devs,nums a.p2 a.c2 d.bits,els EQ a.p3 a.c3 d.routes]) (by repeat (first | exact Cut.nil | (apply Cut.cons; (repeat (first | exact Pick.here | apply Pick.there)))))
   exact (ref_shut (d:={ d with on:=(Int.tmod v 2) == 1 }) (a:=a) hc8 H).dp
 · rw [if_neg (by simpa using h1)]
   exact mid d wx hs (H.dp)
def Rv.head (d:Rv):Bool×Bool×Bool×Int×Qu:=(d.on,d.st,d.fit,d.base,d.q)
theorem allR_head (d:Rv) (dev:Int):∀ n,(allR d dev n).2.head = d.head
 | 0=>rfl
 | n + 1=>by
  rw [allR_succ,← allR_head d dev n]
  unfold fgR
  split <;> rfl
theorem goneR_head (d:Rv) (dev:Int):(goneR d dev).2.head = d.head:=by
 have h:=allR_head d dev 16
 unfold goneR
 generalize allR d dev 16 = A at *
 split
 · exact h
 · rfl
theorem mapdR_head (d:Rv) (c:Cm) (size:Int):(mapdR d c size).2.1.head = d.head:=by
 have hg:=goneR_head d c.dev
 unfold mapdR
 generalize goneR d c.dev = G at *
 generalize mapdRE c size = e
 by_cases h:e≠0
 · rw [if_pos h]
 · rw [if_neg h]
   dsimp only
   cases c.val
   · exact hg
   · exact hg
theorem vdoR_head (d:Rv) (c:Cm) (r:Ru) (owned:List Int):(vdoR d c r owned).2.1.head = d.head:=by
 unfold vdoR
 split
 · rfl
 split
 · unfold mapcR; split
   · rfl
   split <;> rfl
 split
 · split <;> rfl
 split
 · split
   · rfl
   split <;> rfl
 split
 · rfl
 split
 · exact mapdR_head d c r.s
 have hm:∀ n,(maptiR d c n r.lpis).2.1.head = d.head:=by
  intro n
  unfold maptiR
  split
  · rfl
  split
  · rfl
  split
  · rfl
  split
  · rfl
  dsimp only
  split <;> rfl
 split
 · exact hm _
 split
 · exact hm _
 unfold singleR
 split
 · rfl
 split
 · rfl
 split
 · rfl
 split
 · split
   · rfl
   split <;> rfl
 split
 · rfl
 · rfl
theorem vdoR_q (d:Rv) (c:Cm) (r:Ru) (owned:List Int):(vdoR d c r owned).2.1.q = d.q:=congrArg (fun x=>x.2.2.2.2) (vdoR_head d c r owned)
theorem load_addr {bs:List Int} {a s off:Int}:0≤(loadM bs a s off).1.addr∧(loadM bs a s off).1.addr < 1099511627776 * 256:=by
 unfold loadM
 split
 · split
   · rename_i c hc
     obtain ⟨-,hf,h3,-,-⟩:=encM_some (enc_dec hc)
     have h6:=hf 6 (by omega)
     have h7:c.get 6 = c.addr / 256:=rfl
     have h8:(2:Int) ^ ps c.op 6 = 1099511627776:=rfl
     rw [h7,h8] at h6
     dsimp only
     omega
   · show 0≤(0:Int)∧(0:Int) < _; omega
 · show 0≤(0:Int)∧(0:Int) < _; omega
theorem head_addr (q:Qu) (bs:List Int):0≤(headQ q bs).1.addr∧(headQ q bs).1.addr < 1099511627776 * 256:=by
 unfold headQ
 split
 · show 0≤(0:Int)∧(0:Int) < _; omega
 · exact load_addr
def rstepM (d:Rv) (bs:List Int) (r:Ru) (owned:List Int):Cm×List Ch×Rv×Int :=
 if d.on = false then (cm0,[],d,191)
 else if d.st = true then (cm0,[],d,190)
 else if d.fit = false then (cm0,[],{ d with st:=true },241)
 else if (headQ d.q bs).2 = 170 then (cm0,[],d,170)
 else if (headQ d.q bs).2≠0 then (cm0,[],{ d with st:=true },(headQ d.q bs).2)
 else if (vdoR d (headQ d.q bs).1 r owned).2.2≠0 then (cm0,[],{ (vdoR d (headQ d.q bs).1 r owned).2.1 with st:=true },(vdoR d (headQ d.q bs).1 r owned).2.2)
 else ((headQ d.q bs).1,(vdoR d (headQ d.q bs).1 r owned).1,{ (vdoR d (headQ d.q bs).1 r owned).2.1 with q:=(passQ (vdoR d (headQ d.q bs).1 r owned).2.1.q).1 },0)
theorem RStep_t (b m:Nat) (d:Rv) (bs:List Int) (r:Ru) (i:It) {po:Option Addr} {co:Nat} {owned:List Int} (hi:∀ w S,i.h w S→Sl w po (i64s owned)) (hl:owned.length < 9223372036854775807) (hF:RFits d) (hs:SmallS d.q) :
 Tri P F.zzbv [ptr b,ptr m,ruV r po owned.length co] [refI b d,memI m bs,i] fun v L'=>∃ q cc,v = .tuple [cmV (rstepM d bs r owned).1,.slice q (rstepM d bs r owned).2.1.length cc,.int .i64 (rstepM d bs r owned).2.2.2].toArray∧L' = [rcs q cc (rstepM d bs r owned).2.1,refI b (rstepM d bs r owned).2.2.1,memI m bs,i]:=by
 intro w S hS
 refine zzjq ?_
 unfold zzbv
 have H:=Own.start hS
 refine alc_o H fun b10 wx H=>alc_o H fun b12 wx H=>?_
 have err:∀ (e:Int) (s1:Rv) (wx:World),rstepM d bs r owned = (cm0,[],s1,e)→X.Own w S [refI b s1,memI m bs,i] wx →
  ∃ L',(∃ q cc,(.tuple [.agg [.int .i64 0,.int .i64 0,.int .i64 0,.int .i64 0,.int .i64 0,.int .i64 0,.int .i64 0,.int .i64 0,.bool false].toArray,.slice none 0 0,.int .i64 e].toArray:Value) = .tuple [cmV (rstepM d bs r owned).1,.slice q (rstepM d bs r owned).2.1.length cc,.int .i64 (rstepM d bs r owned).2.2.2].toArray∧L' = [rcs q cc (rstepM d bs r owned).2.1,refI b (rstepM d bs r owned).2.2.1,memI m bs,i])∧X.Own w S L' wx:=by
  intro e s1 wx h H
  refine ⟨_,⟨none,0,?_,rfl⟩,?_⟩
  · rw [h]; rfl
  · rw [h]; exact rcs_nil H
 obtain ⟨a,hc8,H⟩:=ref_open H (by repeat (first | exact Pick.here | apply Pick.there))
 dsimp only [nn]
 repeat (first | refine lIa H ?_ | refine lLa H ?_ | refine lBa H ?_ | refine lPa H ?_ | refine lSa H ?_)
 refine cnd_i (fun h=>?_) fun h=>?_
 · have h:d.on = false:=by simpa using h
   iterate 9 refine sta H fun wx H=>?_
   repeat (first | refine lIa H ?_ | refine lLa H ?_ | refine lBa H ?_ | refine lPa H ?_ | refine lSa H ?_)
   exact err 191 d _ (by unfold rstepM; rw [if_pos h]) ((ref_shut hc8 (H.perm (L1:=[row b (d.cells a) tRv,nums a.p1 a.c1 d.devs,nums a.p2 a.c2 d.bits,els EQ a.p3 a.c3 d.routes]) (by repeat (first | exact Cut.nil | (apply Cut.cons; (repeat (first | exact Pick.here | apply Pick.there))))))).dp)
 have hon:¬ d.on = false:=by simpa using h
 repeat (first | refine lIa H ?_ | refine lLa H ?_ | refine lBa H ?_ | refine lPa H ?_ | refine lSa H ?_)
 refine cnd_i (fun h=>?_) fun h=>?_
 · have h:d.st = true:=h
   iterate 9 refine sta H fun wx H=>?_
   repeat (first | refine lIa H ?_ | refine lLa H ?_ | refine lBa H ?_ | refine lPa H ?_ | refine lSa H ?_)
   exact err 190 d _ (by unfold rstepM; rw [if_neg hon,if_pos h]) ((ref_shut hc8 (H.perm (L1:=[row b (d.cells a) tRv,nums a.p1 a.c1 d.devs,nums a.p2 a.c2 d.bits,els EQ a.p3 a.c3 d.routes]) (by repeat (first | exact Cut.nil | (apply Cut.cons; (repeat (first | exact Pick.here | apply Pick.there))))))).dp)
 have hst:¬ d.st = true:=by rw [h]; simp
 repeat (first | refine lIa H ?_ | refine lLa H ?_ | refine lBa H ?_ | refine lPa H ?_ | refine lSa H ?_)
 refine cnd_i (fun h=>?_) fun h=>?_
 · have h:d.fit = false:=by simpa using h
   rw [add_lit]
   iterate 10 refine sta H fun wx H=>?_
   repeat (first | refine lIa H ?_ | refine lLa H ?_ | refine lBa H ?_ | refine lPa H ?_ | refine lSa H ?_)
   exact err 241 { d with st:=true } _ (by unfold rstepM; rw [if_neg hon,if_neg hst,if_pos h]) ((ref_shut (d:={ d with st:=true }) (a:=a) hc8 (H.perm (L1:=[row b (Rv.cells { d with st:=true } a) tRv,nums a.p1 a.c1 d.devs,nums a.p2 a.c2 d.bits,els EQ a.p3 a.c3 d.routes]) (by repeat (first | exact Cut.nil | (apply Cut.cons; (repeat (first | exact Pick.here | apply Pick.there))))))).dp)
 have hft:¬ d.fit = false:=by simpa using h
 simp only [add_lit]
 repeat (first | refine lIa H ?_ | refine lLa H ?_ | refine lBa H ?_ | refine lPa H ?_ | refine lSa H ?_)
 refine call_p H (rHead_t m d.q hs bs) (by repeat (first | exact Cut.nil | (apply Cut.cons; (repeat (first | exact Pick.here | apply Pick.there))))) fun wx H=>?_
 refine ⟨_,_,_,_,_,_,_,_,_,_,rfl,alc_o H fun b93 wx H=>?_⟩
 iterate 9 refine sta H fun wx H=>?_
 have H:=ref_shut hc8 (H.perm (L1:=[row b (d.cells a) tRv,nums a.p1 a.c1 d.devs,nums a.p2 a.c2 d.bits,els EQ a.p3 a.c3 d.routes]) (by repeat (first | exact Cut.nil | (apply Cut.cons; (repeat (first | exact Pick.here | apply Pick.there))))))
 refine cnd_i (fun h=>?_) fun h=>?_
 · have h:(headQ d.q bs).2 = 170:=by simpa using h
   iterate 9 refine sta H fun wx H=>?_
   repeat (first | refine lIa H ?_ | refine lLa H ?_ | refine lBa H ?_ | refine lPa H ?_ | refine lSa H ?_)
   refine err _ d _ ?_ (H.dp)
   unfold rstepM; rw [if_neg hon,if_neg hst,if_neg hft,if_pos h,h]
 have hh1:¬ (headQ d.q bs).2 = 170:=by simpa using h
 have pre:∀ M,(if (headQ d.q bs).2≠0 then (cm0,[],{ d with st:=true },(headQ d.q bs).2)
  else if (vdoR d (headQ d.q bs).1 r owned).2.2≠0 then (cm0,[],{ (vdoR d (headQ d.q bs).1 r owned).2.1 with st:=true },(vdoR d (headQ d.q bs).1 r owned).2.2)
  else ((headQ d.q bs).1,(vdoR d (headQ d.q bs).1 r owned).1,{ (vdoR d (headQ d.q bs).1 r owned).2.1 with q:=(passQ (vdoR d (headQ d.q bs).1 r owned).2.1.q).1 },0)) = M→rstepM d bs r owned = M:=by
  intro M hM
  unfold rstepM; rw [if_neg hon,if_neg hst,if_neg hft,if_neg hh1]; exact hM
 have hadd:=head_addr d.q bs
 generalize hhd:headQ d.q bs = hd at *
 refine cnd_i (fun h=>?_) fun h=>?_
 · have h:hd.2≠0:=by simpa using h
   obtain ⟨a,hc8,H⟩:=ref_open H (by repeat (first | exact Pick.here | apply Pick.there))
   iterate 10 refine sta H fun wx H=>?_
   repeat (first | refine lIa H ?_ | refine lLa H ?_ | refine lBa H ?_ | refine lPa H ?_ | refine lSa H ?_)
   exact err _ { d with st:=true } _ (pre _ (by rw [if_pos h])) ((ref_shut (d:={ d with st:=true }) (a:=a) hc8 (H.perm (L1:=[row b (Rv.cells { d with st:=true } a) tRv,nums a.p1 a.c1 d.devs,nums a.p2 a.c2 d.bits,els EQ a.p3 a.c3 d.routes]) (by repeat (first | exact Cut.nil | (apply Cut.cons; (repeat (first | exact Pick.here | apply Pick.there))))))).dp)
 have h:¬ hd.2≠0:=by simpa using h
 have pre:=fun M hM=>pre M (by rw [if_neg h]; exact hM)
 repeat (first | refine lIa H ?_ | refine lLa H ?_ | refine lBa H ?_ | refine lPa H ?_ | refine lSa H ?_)
 refine call_o H (VDoR_t b d hd.1 r i hi hl hF (by omega)) (by repeat (first | exact Cut.nil | (apply Cut.cons; (repeat (first | exact Pick.here | apply Pick.there))))) fun vx L' wx hq H=>?_
 obtain ⟨q,cc,rfl,rfl⟩:=hq
 simp only [List.cons_append,List.nil_append] at H
 refine ⟨_,_,_,_,rfl,?_⟩
 have hq2:(vdoR d hd.1 r owned).2.1.q = d.q:=vdoR_q d hd.1 r owned
 generalize vdoR d hd.1 r owned = V at *
 obtain ⟨xs,s1,e⟩:=V
 dsimp only at pre hq2
 dsimp only
 refine cnd_i (fun h2=>?_) fun h2=>?_
 · have h2:e≠0:=by simpa using h2
   obtain ⟨a,hc8,H⟩:=ref_open H (by repeat (first | exact Pick.here | apply Pick.there))
   iterate 10 refine sta H fun wx H=>?_
   repeat (first | refine lIa H ?_ | refine lLa H ?_ | refine lBa H ?_ | refine lPa H ?_ | refine lSa H ?_)
   exact err _ { s1 with st:=true } _ (pre _ (by rw [if_pos h2])) ((ref_shut (d:={ s1 with st:=true }) (a:=a) hc8 (H.perm (L1:=[row b (Rv.cells { s1 with st:=true } a) tRv,nums a.p1 a.c1 s1.devs,nums a.p2 a.c2 s1.bits,els EQ a.p3 a.c3 s1.routes]) (by repeat (first | exact Cut.nil | (apply Cut.cons; (repeat (first | exact Pick.here | apply Pick.there))))))).dp)
 · have h2:¬ e≠0:=by simpa using h2
   obtain ⟨a,hc8,H⟩:=ref_open H (by repeat (first | exact Pick.here | apply Pick.there))
   refine call_o H (RPassV_t b s1 a (by rw [hq2]; exact hs)) (by repeat (first | exact Cut.nil | (apply Cut.cons; (repeat (first | exact Pick.here | apply Pick.there))))) fun vx L' wx hq H=>?_
   obtain ⟨rfl,rfl⟩:=hq
   simp only [List.cons_append,List.nil_append] at H
   refine ⟨_,rfl,?_⟩
   repeat (first | refine lIa H ?_ | refine lLa H ?_ | refine lBa H ?_ | refine lPa H ?_ | refine lSa H ?_)
   iterate 9 refine sta H fun wx H=>?_
   repeat (first | refine lIa H ?_ | refine lLa H ?_ | refine lBa H ?_ | refine lPa H ?_ | refine lSa H ?_)
   have hM:=pre _ (by rw [if_neg h2])
   refine ⟨_,⟨q,cc,?_,rfl⟩,?_⟩
   · rw [hM]; rfl
   · rw [hM]
     have H:=ref_shut (d:={ s1 with q:=(passQ s1.q).1 }) (a:=a) hc8 (H.perm (L1:=[row b (Rv.cells { s1 with q:=(passQ s1.q).1 } a) tRv,nums a.p1 a.c1 s1.devs,nums a.p2 a.c2 s1.bits,els EQ a.p3 a.c3 s1.routes]) (by repeat (first | exact Cut.nil | (apply Cut.cons; (repeat (first | exact Pick.here | apply Pick.there))))))
     exact H.dp
theorem rc_fields (c d:Ch) (w:World):(Op.eqFields 9999 c.cells.toArray d.cells.toArray (P.fieldsOf tRc).toList).run P w = .ok (decide (c = d)) w:=by
 obtain ⟨c0,c1,c2,c3,c4,c5⟩:=c
 obtain ⟨d0,d1,d2,d3,d4,d5⟩:=d
 simp only [Program.fieldsOf,Tryz.underlying73,Ch.cells,tRc]
 have u3:=Tryz.underlying3
 have a3:=Tryz.isAgg3
 have z3:=Tryz.sizeOf3
 go_simp
 repeat' split
 all_goals simp_all
theorem rc_ne {c d:Ch} {w:World} {K:Bool→Prop} (h:K (!decide (c = d))):eqA P .neq tRc (.agg c.cells.toArray) (.agg d.cells.toArray) w K :=
 eqA_neq (by kernel_rfl) (by kernel_rfl) (by kernel_rfl) (rc_fields c d w) h
theorem same_t {p q:Option Addr} {c e:Nat} {xs ys:List Ch} (hl:xs.length < 9223372036854775807):Tri P F.zzaV [.slice p xs.length c,.slice q ys.length e] [chs p c xs,rcs q e ys] fun v L'=>v = .bool (decide (xs = ys))∧L' = [chs p c xs,rcs q e ys]:=by
 intro w S hS
 refine zzk4 ?_
 unfold zzaV
 have H:=Own.start hS
 refine cnd_i (fun h=>?_) fun h=>?_
 · have h:xs.length≠ys.length:=by
    have h:((xs.length:Nat):Int)≠((ys.length:Nat):Int):=by simpa using h
    omega
   exact ⟨_,⟨by rw [decide_eq_false (fun hh=>h (by rw [hh]))],rfl⟩,H⟩
 have h:xs.length = ys.length:=by
  have h:((xs.length:Nat):Int) = ((ys.length:Nat):Int):=by simpa using h
  omega
 refine loop_o (fun (st:Int) L=>∃ k:Nat,k≤xs.length∧st = k∧xs.take k = ys.take k∧L = [chs p c xs,rcs q e ys]) (fun (st:Int)=>((xs.length:Int) - st).toNat) H ⟨0,by omega,rfl,rfl,rfl⟩ ?_
 rintro _ _ wx ⟨k,hk,rfl,hsm,rfl⟩ H
 unfold zzhT
 refine cnd_i (fun h1=>?_) fun h1=>?_
 · have h1:=of_decide_eq_true h1
   have hkx:k < xs.length:=by omega
   have hky:k < ys.length:=by omega
   have hx:xs[k]? = some xs[k]:=List.getElem?_eq_getElem hkx
   have hy:ys[k]? = some ys[k]:=List.getElem?_eq_getElem hky
   refine drw_o H fun wx H=>?_
   obtain ⟨dd,hp,hcell⟩:=els_at (E:=EC) (q:=p) (c:=c) H (by repeat (first | exact Pick.here | apply Pick.there)) hx
   have H0:=H
   have hce:∀ i v,(xs[k]).cells[i]? = some v→wx.drew.cell? (((⟨dd,0,none⟩:Addr).add (k * 6)).add i) = some v:=by
    intro i v hv
    rw [add_lit,add_lit,Nat.zero_add]; exact hcell i v hv
   have hce0:wx.drew.cell? ((⟨dd,0,none⟩:Addr).add (k * 6)) = some (.int .i64 xs[k].k):=by
    rw [add_lit,Nat.zero_add]; exact hcell 0 _ rfl
   refine ix_i hkx ?_
   rw [hp]
   dsimp only [nn]
   refine ⟨_,hce0,ix_i hkx ⟨_,hce 1 _ rfl,ix_i hkx ⟨_,hce 2 _ rfl,ix_i hkx ⟨_,hce 3 _ rfl,ix_i hkx ⟨_,hce 4 _ rfl,ix_i hkx ⟨_,hce 5 _ rfl,alc_o H fun b30 wx H=>?_⟩⟩⟩⟩⟩⟩
   obtain ⟨dd',hp',hcell'⟩:=els_at (E:=EC) (q:=p) (c:=c) H (.there .here) hx
   have hdd:dd' = dd:=by rw [hp] at hp'; injection hp' with h3; injection h3 with h4; exact h4.symm
   subst hdd
   have hce:∀ i v,(xs[k]).cells[i]? = some v→wx.cell? (((⟨dd',0,none⟩:Addr).add (k * 6)).add i) = some v:=by
    intro i v hv
    rw [add_lit,add_lit,Nat.zero_add]; exact hcell' i v hv
   have hce0:wx.cell? ((⟨dd',0,none⟩:Addr).add (k * 6)) = some (.int .i64 xs[k].k):=by
    rw [add_lit,Nat.zero_add]; exact hcell' 0 _ rfl
   refine ⟨⟨_,hce 5 _ rfl,rfl⟩,⟨_,hce 4 _ rfl,rfl⟩,⟨_,hce 3 _ rfl,rfl⟩,⟨_,hce 2 _ rfl,rfl⟩,⟨_,hce 1 _ rfl,rfl⟩,⟨_,hce0,rfl⟩,?_⟩
   iterate 6 refine sta H fun wx H=>?_
   refine drw_o H fun wx H=>?_
   repeat (first | refine lIa H ?_ | refine lLa H ?_ | refine lBa H ?_ | refine lPa H ?_ | refine lSa H ?_)
   refine ix_i hky ?_
   obtain ⟨d2,hp2,hcell2⟩:=els_at (E:=ED2) (q:=q) (c:=e) H (by repeat (first | exact Pick.here | apply Pick.there)) hy
   rw [hp2]
   dsimp only [nn]
   have hcf:∀ i v,(ys[k]).cells[i]? = some v→wx.cell? (((⟨d2,0,none⟩:Addr).add (k * 6)).add i) = some v:=by
    intro i v hv
    rw [add_lit,add_lit,Nat.zero_add]; exact hcell2 i v hv
   refine ⟨_,by rw [add_lit,Nat.zero_add]; exact hcell2 0 _ rfl,_,hcf 1 _ rfl,_,hcf 2 _ rfl,_,hcf 3 _ rfl,_,hcf 4 _ rfl,_,hcf 5 _ rfl,?_⟩
   refine rc_ne (c:=xs[k]) (d:=ys[k]) ?_
   rw [← hp,← hp2]
   refine cnd_i (fun h2=>?_) fun h2=>?_
   · have h2:xs[k]≠ys[k]:=by simpa using h2
     refine ⟨_,⟨?_,rfl⟩,H.dp⟩
     rw [decide_eq_false]
     intro hh
     apply h2
     simp only [hh]
   · have h2:xs[k] = ys[k]:=by simpa using h2
     rw [W_id (by omega) (by omega)]
     refine ⟨⟨_,⟨k + 1,by omega,by push_cast; rfl,?_,rfl⟩,H.dp⟩,by omega⟩
     rw [take_next hx,take_next hy,hsm,h2]
 · have h1:=of_decide_eq_false h1
   rw [List.take_of_length_le (by omega),List.take_of_length_le (by omega)] at hsm
   exact ⟨_,⟨by rw [decide_eq_true hsm],rfl⟩,H⟩
theorem app_in {L F:List It} {i:It} {p:Option Addr} {c:Nat} {xs:List Int} {ty:TypeId} {w w0:World} {S0:Nat→Prop} (H:X.Own w0 S0 L w) (hp:Pick L i F) (hi:∀ w S,i.h w S→Sl w p (i64s xs)) (hb:xs.length * 8≤140737488355328) {K:Option Addr→Nat→Nat→World→Prop}
 (k:∀ p' c' w',X.Own w0 S0 (nums p' c' xs :: L) w'→K p' xs.length c' w') :
 runS P (Builtin.append_ #[tInts,tInts] ty [.slice none 0 0,.slice p xs.length c].toArray) w K:=by
 have H:X.Own w0 S0 (nums none 0 [] :: L) w:=own_nil H
 refine app_o (n:=0) (xs:=[]) appInts (by omega) H .here (H.rd (.there hp) hi) (by unfold i64s; simp) (by intro u hu; unfold i64s at hu; obtain ⟨n,-,rfl⟩:=List.mem_map.1 hu; rfl) (by unfold maxLen; omega) (by omega) fun p' c' w' H=>?_
 have:=k p' c' w' (by
  have e:nums p' c' xs = own tInt 1 (.slice p' (0 + xs.length) c') (0 + xs.length) ([] ++ i64s xs):=by
   rw [Nat.zero_add,List.nil_append,← EI_flat]
  rw [e]; exact H)
 rw [Nat.zero_add]
 exact this
def ruA (a b:Int):Ru:=⟨512,2048,IntKind.i64.wrap (1 + IntKind.i64.wrap (Int.tmod a 4)),IntKind.i64.wrap (Int.tmod b 50)⟩
theorem rules_t (a b:Int) (i:It) {p:Option Addr} {c:Nat} {xs:List Int} (hi:∀ w S,i.h w S→Sl w p (i64s xs)) (hb:xs.length * 8≤140737488355328) :
 Tri P F.zzcx [.int .u8 a,.int .u8 b,.slice p xs.length c] [i] fun v L'=>∃ q cq,v = .tuple [ruV (ruA a b) q xs.length cq,ruV (ruA a b) p xs.length c].toArray∧L' = [nums q cq xs,i]:=by
 intro w S hS
 refine zzkD ?_
 unfold zzcx
 have H:=Own.start hS
 refine alc_o H fun b6 wx H=>alc_o H fun b8 wx H=>alc_o H fun b10 wx H=>?_
 iterate 2 refine sta H fun wx H=>?_
 refine app_in H (i:=i) (by repeat (first | exact Pick.here | apply Pick.there)) hi hb fun q cq wx H=>?_
 repeat (first | refine lIa H ?_ | refine lLa H ?_ | refine lBa H ?_ | refine lPa H ?_ | refine lSa H ?_)
 refine ⟨by omega,by omega,alc_o H fun b20 wx H=>?_⟩
 iterate 5 refine sta H fun wx H=>?_
 refine drw_o H fun wx H=>?_
 repeat (first | refine lIa H ?_ | refine lLa H ?_ | refine lBa H ?_ | refine lPa H ?_ | refine lSa H ?_)
 iterate 5 refine sta H fun wx H=>?_
 refine ⟨?_,?_,?_,?_⟩
 · repeat (first | refine lIa H ?_ | refine lLa H ?_ | refine lBa H ?_ | refine lPa H ?_ | refine lSa H ?_)
   rfl
 · repeat (first | refine lIa H ?_ | refine lLa H ?_ | refine lBa H ?_ | refine lPa H ?_ | refine lSa H ?_)
   rfl
 · repeat (first | refine lIa H ?_ | refine lLa H ?_ | refine lBa H ?_ | refine lPa H ?_ | refine lSa H ?_)
   rfl
 iterate 5 refine sta H fun wx H=>?_
 repeat (first | refine lIa H ?_ | refine lLa H ?_ | refine lBa H ?_ | refine lPa H ?_ | refine lSa H ?_)
 exact ⟨_,⟨q,cq,rfl,rfl⟩,H.dp⟩
def sideV (bs bm bd bn:Nat) (r:Ru) (q p:Option Addr) (n cq c:Nat):List Value:=[ptr bs,ptr bm,.int .i64 r.a,.int .i64 r.s,.int .i64 r.vcpus,.int .i64 r.lpis,.slice q n cq,ptr bd,ptr bn,.int .i64 r.a,.int .i64 r.s,.int .i64 r.vcpus,.int .i64 r.lpis,.slice p n c]
theorem begun_t (a b:Int) (i:It) {p:Option Addr} {c:Nat} {xs:List Int} (hi:∀ w S,i.h w S→Sl w p (i64s xs)) (hb:xs.length * 8≤140737488355328) :
 Tri P F.zzcs [.int .u8 a,.int .u8 b,.slice p xs.length c] [i] fun v L'=>∃ bs bm bd bn q cq,v = .tuple [.agg (sideV bs bm bd bn (ruA a b) q p xs.length cq c).toArray,.bool true].toArray∧L' = [vitsI bs vi0,memI bm (List.replicate 4096 0),refI bd rv0,memI bn (List.replicate 4096 0),nums q cq xs,i]:=by
 intro w S hS
 refine zzkt ?_
 unfold zzcs
 have H:=Own.start hS
 refine alc_o H fun b6 wx H=>alc_o H fun b8 wx H=>?_
 refine call_oa H (VNew_t) fun vx L' wx hq H=>?_
 obtain ⟨bs,rfl,rfl⟩:=hq
 simp only [List.cons_append,List.nil_append] at H
 refine ⟨_,rfl,?_⟩
 refine call_oa H (RNew_t) fun vx L' wx hq H=>?_
 obtain ⟨bd,rfl,rfl⟩:=hq
 simp only [List.cons_append,List.nil_append] at H
 refine ⟨_,rfl,?_⟩
 iterate 2 refine sta H fun wx H=>?_
 refine call_oa H (lawNewX_t 4096) fun vx L' wx hq H=>?_
 obtain ⟨bm,bn,rfl,rfl⟩:=hq
 simp only [List.cons_append,List.nil_append] at H
 refine ⟨_,_,rfl,?_⟩
 iterate 2 refine sta H fun wx H=>?_
 refine call_o H (rules_t a b i hi hb) (by repeat (first | exact Cut.nil | (apply Cut.cons; (repeat (first | exact Pick.here | apply Pick.there))))) fun vx L' wx hq H=>?_
 obtain ⟨q,cq,rfl,rfl⟩:=hq
 simp only [List.cons_append,List.nil_append] at H
 refine ⟨_,_,_,_,_,_,_,_,_,_,_,_,_,_,rfl,?_⟩
 iterate 10 refine sta H fun wx H=>?_
 have H:=H.drop (L1:=[row b8 [ptr bs,ptr bm,.int .i64 (ruA a b).a,.int .i64 (ruA a b).s,.int .i64 (ruA a b).vcpus,.int .i64 (ruA a b).lpis,.slice q xs.length cq,ptr bd,ptr bn,.int .i64 (ruA a b).a,.int .i64 (ruA a b).s,.int .i64 (ruA a b).vcpus,.int .i64 (ruA a b).lpis,.slice p xs.length c] T.t40,row b6 [.pointer none,.pointer none,.int .i64 0,.int .i64 0,.int .i64 0,.int .i64 0,.slice none 0 0,.pointer none,.pointer none,.int .i64 0,.int .i64 0,.int .i64 0,.int .i64 0,.slice none 0 0] T.t40,vitsI bs vi0,memI bm (List.replicate (lawN 4096) 0),refI bd rv0,memI bn (List.replicate (lawN 4096) 0),nums q cq xs,i]) (by repeat (first | exact Cut.nil | (apply Cut.cons; (repeat (first | exact Pick.here | apply Pick.there)))))
 refine join_o ?_
 unfold zzhw
 refine drw_o H fun wx H=>?_
 repeat (first | refine lIa H ?_ | refine lLa H ?_ | refine lBa H ?_ | refine lPa H ?_ | refine lSa H ?_)
 iterate 14 refine sta H fun wx H=>?_
 refine ⟨rfl,?_,?_⟩
 · repeat (first | refine lIa H ?_ | refine lLa H ?_ | refine lBa H ?_ | refine lPa H ?_ | refine lSa H ?_)
   rfl
 repeat (first | refine lIa H ?_ | refine lLa H ?_ | refine lBa H ?_ | refine lPa H ?_ | refine lSa H ?_)
 have hN:lawN 4096 = 4096:=rfl
 rw [hN] at H
 exact ⟨_,⟨bs,bm,bd,bn,q,cq,rfl,rfl⟩,H.drop (L1:=[vitsI bs vi0,memI bm (List.replicate 4096 0),refI bd rv0,memI bn (List.replicate 4096 0),nums q cq xs,i]) (by repeat (first | exact Cut.nil | (apply Cut.cons; (repeat (first | exact Pick.here | apply Pick.there)))))⟩
structure Ac where
 d:Int
 at':Int
 c:Cm
 is:Bool
 v:Int
abbrev Ac.cells (x:Ac):List Value:=.int .i64 x.d :: .int .i64 x.at' :: (x.c.cells ++ [.bool x.is,.int .u64 x.v])
def acV (x:Ac):Value:=.agg x.cells.toArray
def wideM (x:Ac):Int:=if x.is then 8 else 4
theorem wide_t (x:Ac):Tri P F.zzbb [acV x] [] fun v L'=>v = .int .i64 (wideM x)∧L' = []:=by
 intro w S hS
 refine zzld ?_
 unfold zzbb
 have H:=Own.start hS
 refine alc_o H fun b14 wx H=>?_
 unfold wideM
 repeat (first | refine lIa H ?_ | refine lLa H ?_ | refine lBa H ?_ | refine lPa H ?_ | refine lSa H ?_)
 refine cnd_i (fun h=>?_) fun h=>?_
 · rw [if_pos h]
   exact ⟨_,⟨rfl,rfl⟩,H.dp⟩
 · rw [if_neg (by rw [h]; simp)]
   exact ⟨_,⟨rfl,rfl⟩,H.dp⟩
theorem up_len {b:Int}:∀ (l:List Int) (a:Int),l.Pairwise (· < ·)→(∀ x∈l,a≤x∧x < b)→l.length≤(b - a).toNat
 | [],a,_,_=>by simp
 | x :: r,a,hp,hx=>by
  obtain ⟨h1,h2⟩:=List.pairwise_cons.1 hp
  have h3:=hx x (by simp)
  have h6:∀ y∈r,x + 1≤y∧y < b:=fun y hy=>by
   have h4:x < y:=h1 y hy
   have h5:=hx y (by simp [hy])
   omega
  have:=up_len r (x + 1) h2 h6
  rw [List.length_cons]
  omega
structure VGood (s:Vi):Prop where
 up:Up s.devs
 dev:∀ u∈s.devs,0≤u.1∧u.1 < 4294967296
 bits:∀ u∈s.devs,0≤u.2.bits∧u.2.bits < 4
 evup:∀ u∈s.devs,Up u.2.evs
 ev:∀ u∈s.devs,∀ e∈u.2.evs,0≤e.1∧e.1 < evN u.2.bits
 cup:Up s.colls
 coll:∀ u∈s.colls,0≤u.1∧u.1 < 8
theorem evN_16 {k:Int} (h:0≤k∧k < 4):evN k≤16∧2≤evN k:=by
 have h1:k = 0∨k = 1∨k = 2∨k = 3:=by omega
 rcases h1 with rfl | rfl | rfl | rfl <;> decide
theorem kv_len {α:Type} {kv:List (Int×α)} {n:Nat} (h:Up kv) (hx:∀ u∈kv,0≤u.1∧u.1 < (n:Int)):kv.length≤n:=by
 have:=up_len (b:=n) (ks kv) 0 h (by
  intro x hm
  unfold ks at hm
  obtain ⟨u,hu,rfl⟩:=List.mem_map.1 hm
  exact hx u hu)
 unfold ks at this
 rw [List.length_map] at this
 omega
theorem tot_le {devs:List (Int×DvI)} {n:Nat} (h:∀ u∈devs,u.2.evs.length≤n):tot devs≤n * devs.length:=by
 induction devs with
 | nil=>simp [tot]
 | cons u r ih =>
  have h1:=h u (by simp)
  have h2:=ih fun v hv=>h v (by simp [hv])
  simp only [tot,List.map_cons,List.sum_cons,List.length_cons,Nat.mul_add,Nat.mul_one] at *
  omega
theorem VGood.fits {s:Vi} (h:VGood s):Fits s 73014444040:=by
 have h1:s.devs.length≤4294967296:=kv_len h.up h.dev
 have h2:s.colls.length≤8:=kv_len h.cup h.coll
 have h3:tot s.devs≤16 * s.devs.length:=tot_le fun u hu=>kv_len (h.evup u hu) fun e he=>by
  have h4:=h.ev u hu e he
  have h5:=evN_16 (h.bits u hu)
  exact ⟨h4.1,by show e.1 < 16; omega⟩
 exact ⟨by omega,fun u hu=>(h.bits u hu).1⟩
theorem vgood0:VGood vi0:=⟨by simp [Up,vi0,ks],by simp [vi0],by simp [vi0],by simp [vi0],by simp [vi0],by simp [Up,vi0,ks],by simp [vi0]⟩
section
variable {α:Type}
theorem setK_sub {kv:List (Int×α)} {k:Int} {v:α} {x:Int×α} (hx:x∈setK kv k v):x = (k,v)∨x∈kv:=by
 unfold setK at hx
 rcases List.mem_or_eq_of_mem_set hx with h | h
 · exact .inr h
 · exact .inl h
theorem putK_sub {kv:List (Int×α)} {k:Int} {v:α} {x:Int×α} (hx:x∈putK kv k v):x = (k,v)∨x∈kv:=by
 cases h:hasK kv k
 · exact (putK_mem h).1 hx
 · unfold putK at hx
   rw [h,if_pos rfl] at hx
   exact setK_sub hx
theorem takeK_sub {kv:List (Int×α)} {k:Int} {x:Int×α} (hx:x∈takeK kv k):x∈kv:=by
 unfold takeK at hx
 split at hx
 · exact List.mem_of_mem_eraseIdx hx
 · exact hx
theorem setK_up {kv:List (Int×α)} {k:Int} {v:α} (h:hasK kv k = true) (hs:Up kv):Up (setK kv k v):=by
 unfold Up; rw [setK_ks h]; exact hs
end
theorem dev_mem {s:Vi} {dev:Int} (h:hasK s.devs dev = true):(dev,s.dev dev)∈s.devs:=List.mem_of_getElem? (dev_at h)
theorem VGood.setev {s:Vi} {dev:Int} {l:List (Int×RtE)} (g:VGood s) (h:hasK s.devs dev = true) (hl:Up l) (he:∀ e∈l,0≤e.1∧e.1 < evN (s.dev dev).bits):VGood (s.evs dev l):=by
 have hm:=dev_mem h
 refine ⟨setK_up h g.up,?_,?_,?_,?_,g.cup,g.coll⟩
 · intro u hu
   rcases setK_sub hu with rfl | hu
   · exact g.dev (dev,s.dev dev) hm
   · exact g.dev u hu
 · intro u hu
   rcases setK_sub hu with rfl | hu
   · exact g.bits (dev,s.dev dev) hm
   · exact g.bits u hu
 · intro u hu
   rcases setK_sub hu with rfl | hu
   · exact hl
   · exact g.evup u hu
 · intro u hu
   rcases setK_sub hu with rfl | hu
   · exact he
   · exact g.ev u hu
theorem VGood.forget {s:Vi} {dev ev:Int} (g:VGood s) (h:hasK s.devs dev = true):VGood (forgetS s dev ev):=by
 have hm:=dev_mem h
 exact g.setev h (takeK_up (g.evup _ hm)) fun e he=>g.ev _ hm e (takeK_sub he)
theorem VGood.put {s:Vi} {dev ev:Int} {x:RtE} (g:VGood s) (h:hasK s.devs dev = true) (he:0≤ev∧ev < evN (s.dev dev).bits):VGood (s.evs dev (putK (s.dev dev).evs ev x)):=by
 have hm:=dev_mem h
 refine g.setev h (putK_up (g.evup _ hm)) fun e hx=>?_
 rcases putK_sub hx with rfl | hx
 · exact he
 · exact g.ev _ hm e hx
theorem VGood.drop {s:Vi} (dev:Int) (g:VGood s):VGood (dropS s dev) :=
 ⟨takeK_up g.up,fun u hu=>g.dev u (takeK_sub hu),fun u hu=>g.bits u (takeK_sub hu),fun u hu=>g.evup u (takeK_sub hu),fun u hu=>g.ev u (takeK_sub hu),g.cup,g.coll⟩
theorem VGood.add {s:Vi} {dev bits:Int} (p:Nat) (g:VGood s) (hd:0≤dev∧dev < 4294967296) (hb:0≤bits∧bits < 4):VGood { s with devs:=putK s.devs dev ⟨bits,p,[]⟩ }:=by
 refine ⟨putK_up g.up,?_,?_,?_,?_,g.cup,g.coll⟩
 · intro u hu
   rcases putK_sub hu with rfl | hu
   · exact hd
   · exact g.dev u hu
 · intro u hu
   rcases putK_sub hu with rfl | hu
   · exact hb
   · exact g.bits u hu
 · intro u hu
   rcases putK_sub hu with rfl | hu
   · simp [Up,ks]
   · exact g.evup u hu
 · intro u hu
   rcases putK_sub hu with rfl | hu
   · intro e he; cases he
   · exact g.ev u hu
theorem VGood.led {s:Vi} {coll:Int} (v:Bool) (x:Int) (g:VGood s) (hc:0≤coll∧coll < 8):VGood { s with colls:=if v then putK s.colls coll x else takeK s.colls coll }:=by
 refine ⟨g.up,g.dev,g.bits,g.evup,g.ev,?_,?_⟩
 · cases v
   · exact takeK_up g.cup
   · exact putK_up g.cup
 · intro u hu
   cases v
   · exact g.coll u (takeK_sub hu)
   · rcases putK_sub (show u∈putK s.colls coll x from hu) with rfl | hu
     · exact hc
     · exact g.coll u hu
theorem VGood.fgt {dev:Int}:∀ (l:List Int) (a:List Ch×Vi),VGood a.2→hasK a.2.devs dev = true→VGood (l.foldl (fgtF dev) a).2∧hasK (l.foldl (fgtF dev) a).2.devs dev = true
 | [],a,g,h=>⟨g,h⟩
 | e :: r,a,g,h=>by
  rw [List.foldl_cons]
  exact VGood.fgt r _ (g.forget h) (ev_has h)
theorem VGood.gone {s:Vi} (dev:Int) (g:VGood s):VGood (goneM s dev).2:=by
 unfold goneM
 split
 · rename_i h
   exact (VGood.fgt (ks (s.dev dev).evs) ([],s) g h).1.drop dev
 · exact g
theorem bits_4 {k:Int} (h:0≤k∧k < 32) (he:¬ evN k > 16):k < 4:=by
 obtain ⟨n,rfl⟩:=Int.eq_ofNat_of_zero_le h.1
 rw [evN_eq (by omega)] at he
 by_cases hn:n < 4
 · omega
 · exfalso
   have h1:(2:Nat) ^ 4≤2 ^ n:=Nat.pow_le_pow_right (by omega) (by omega)
   have h2:((2 ^ n:Nat):Int) = (2:Int) ^ n:=Int.natCast_pow 2 n
   rw [← h2] at he
   omega
theorem VGood.mapd {s:Vi} {c:Cm} {size:Int} {p:Nat} (g:VGood s) (hd:0≤c.dev∧c.dev < 4294967296) (hb:0≤c.bits∧c.bits < 32):VGood (mapdM s c size p).2.1:=by
 unfold mapdM
 by_cases h:mapdE c size≠0
 · rw [if_pos h]; exact g
 · rw [if_neg h]
   have h16:¬ evN c.bits > 16:=by
    intro hh
    apply h
    unfold mapdE
    rw [if_pos hh]; omega
   have g2:=VGood.gone c.dev g
   generalize goneM s c.dev = G at *
   dsimp only
   split
   · exact g2.add p hd ⟨hb.1,bits_4 hb h16⟩
   · exact g2
theorem VGood.mapc {s:Vi} {c:Cm} {vcpus:Int} (g:VGood s) (hc:0≤c.coll):VGood (mapcM s c vcpus).2.1:=by
 unfold mapcM
 split
 · exact g
 split
 · exact g
 · exact g.led c.val c.tgt ⟨hc,by omega⟩
theorem has_ev {s:Vi} {dev ev:Int} (g:VGood s) (h:hasK s.devs dev = true) (h2:hasK (s.dev dev).evs ev = true):0≤ev∧ev < evN (s.dev dev).bits:=by
 have hm:=dev_mem h
 have h3:=kv_at (d:=rt0) h2
 exact g.ev (dev,s.dev dev) hm _ (List.mem_of_getElem? h3)
theorem VGood.mapti {s:Vi} {c:Cm} {n lpis:Int} (g:VGood s) (he:0≤c.ev):VGood (maptiM s c n lpis).2.1:=by
 unfold maptiM
 split
 · exact g
 split
 · exact g
 split
 · exact g
 split
 · exact g
 rename_i h1 h2 h3 h4
 have h:hasK s.devs c.dev = true:=by simpa using h1
 have hev:0≤c.ev∧c.ev < evN (s.dev c.dev).bits:=⟨he,by omega⟩
 dsimp only
 split
 · refine VGood.put (g.forget h) (ev_has h) ⟨he,?_⟩
   have:(forgetS s c.dev c.ev).dev c.dev = { s.dev c.dev with evs:=takeK (s.dev c.dev).evs c.ev }:=evs_dev h
   rw [this]
   exact hev.2
 · exact g.put h hev
theorem VGood.movi {s:Vi} {c:Cm} (g:VGood s):VGood (moviM s c).2.1:=by
 unfold moviM
 split
 · exact g
 split
 · exact g
 split
 · exact g
 rename_i h1 h2 h3
 have h:hasK s.devs c.dev = true:=by simpa using h1
 have h2:hasK (s.dev c.dev).evs c.ev = true:=by simpa using h2
 exact g.put h (has_ev g h h2)
theorem VGood.event {s:Vi} {c:Cm} (g:VGood s):VGood (eventM s c).2.1:=by
 unfold eventM
 split
 · exact g
 split
 · exact g
 rename_i h1 h2
 have h:hasK s.devs c.dev = true:=by simpa using h1
 dsimp only
 split
 · exact g.forget h
 split
 · exact g
 split
 · exact g
 split
 · exact g
 · exact g
theorem ite_good {q:Prop} [Decidable q] {a b:List Ch×Vi×Int} (ha:q→VGood a.2.1) (hb:¬ q→VGood b.2.1):VGood (if q then a else b).2.1:=by
 by_cases h:q
 · rw [if_pos h]; exact ha h
 · rw [if_neg h]; exact hb h
theorem VGood.vdo {s:Vi} {c:Cm} {r:Ru} {owned:List Int} {p:Nat} (g:VGood s):VGood (vdoM s c r owned p).2.1:=by
 unfold vdoM
 refine ite_good (fun _=>g) fun h0=>?_
 cases he:encM c with
 | none=>exact absurd he h0
 | some ws =>
  obtain ⟨-,hf,-,-,-⟩:=encM_some he
  have f0:0≤c.dev∧c.dev < 4294967296:=⟨(hf 0 (by omega)).1,(hf 0 (by omega)).2.1⟩
  have f1:0≤c.ev:=(hf 1 (by omega)).1
  have f3:0≤c.coll:=(hf 3 (by omega)).1
  have f5:0≤c.bits∧c.bits < 32:=⟨(hf 5 (by omega)).1,(hf 5 (by omega)).2.1⟩
  refine ite_good (fun _=>g) fun _=>?_
  refine ite_good (fun _=>g.mapd f0 f5) fun _=>?_
  refine ite_good (fun _=>g.mapc f3) fun _=>?_
  refine ite_good (fun _=>g.mapti f1) fun _=>?_
  refine ite_good (fun _=>g.mapti f1) fun _=>?_
  refine ite_good (fun _=>g.movi) fun _=>?_
  refine ite_good (fun _=>ite_good (fun _=>g) fun _=>g) fun _=>?_
  refine ite_good (fun _=>ite_good (fun _=>g) fun _=>ite_good (fun _=>g) fun _=>g) fun _=>?_
  exact g.event
theorem VGood.like {s t:Vi} (g:VGood s) (h1:t.devs = s.devs) (h2:t.colls = s.colls):VGood t:=by
 obtain ⟨g1,g2,g3,g4,g5,g6,g7⟩:=g
 exact ⟨by rw [h1]; exact g1,by rw [h1]; exact g2,by rw [h1]; exact g3,by rw [h1]; exact g4,by rw [h1]; exact g5,by rw [h2]; exact g6,by rw [h2]; exact g7⟩
theorem VGood.step {s:Vi} {bs:List Int} {r:Ru} {owned:List Int} {p:Nat} (g:VGood s):VGood (vstepM s bs r owned p).2.2.1:=by
 have gv:VGood (vdoM s (headQ s.q bs).1 r owned p).2.1:=g.vdo
 unfold vstepM
 generalize vdoM s (headQ s.q bs).1 r owned p = V at *
 generalize headQ s.q bs = hd at *
 by_cases h1:s.on = false
 · rw [if_pos h1]; exact g
 rw [if_neg h1]
 by_cases h2:s.st = true
 · rw [if_pos h2]; exact g
 rw [if_neg h2]
 by_cases h3:s.fit = false
 · rw [if_pos h3]; exact g.like rfl rfl
 rw [if_neg h3]
 by_cases h4:hd.2 = 170
 · rw [if_pos h4]; exact g
 rw [if_neg h4]
 by_cases h5:hd.2≠0
 · rw [if_pos h5]; exact g.like rfl rfl
 rw [if_neg h5]
 by_cases h6:V.2.2≠0
 · rw [if_pos h6]; exact gv.like rfl rfl
 rw [if_neg h6]; exact gv.like rfl rfl
theorem reb_same (s:Vi) (v:Int) (r:Ru):(rebM s v r).devs = s.devs∧(rebM s v r).colls = s.colls:=by
 unfold rebM
 generalize partM r.a r.s (baseX v) (baseN v) = p
 by_cases h:p.2 = 0∧baseV v = true
 · rw [if_pos h]; exact ⟨rfl,rfl⟩
 · rw [if_neg h]; exact ⟨rfl,rfl⟩
theorem VGood.write {s:Vi} {off width v:Int} {r:Ru} (g:VGood s):VGood (vwriteM s off width v r).1:=by
 unfold vwriteM
 generalize itsM off width = I
 by_cases h1:I.2≠0
 · rw [if_pos h1]; exact g
 rw [if_neg h1]
 by_cases h2:I.1.1 = 1
 · rw [if_pos h2]; exact g.like rfl rfl
 rw [if_neg h2]
 by_cases h3:I.1.1 = 19
 · rw [if_pos h3]
   cases s.on
   · exact g.like (reb_same s v r).1 (reb_same s v r).2
   · exact g
 rw [if_neg h3]
 by_cases h4:I.1.1 = 20
 · rw [if_pos h4]
   cases s.fit
   · exact g.like rfl rfl
   · exact g.like rfl rfl
 rw [if_neg h4]; exact g
theorem nd_len:∀ (n:Nat) (l:List Int),l.Nodup→(∀ x∈l,0≤x∧x < (n:Int))→l.length≤n
 | 0,l,_,h=>by
  cases l with
  | nil=>simp
  | cons x r=>have:=h x (by simp); omega
 | n + 1,l,hn,h=>by
  have h1:=nd_len n (l.erase (n:Int)) (hn.erase _) (fun x hx=>by
   have h2:=(hn.mem_erase_iff).1 hx
   have h3:=h x h2.2
   have h4:=h2.1
   omega)
  have h5:=List.length_erase (a:=(n:Int)) (l:=l)
  split at h5 <;> omega
structure RGood (d:Rv):Prop where
 nd:d.devs.Nodup
 dev:∀ x∈d.devs,0≤x∧x < 4294967296
 len:d.devs.length = d.bits.length
 bits:∀ x∈d.bits,0≤x∧x < 4
 rnd:(d.routes.map fun x=>x.dev * 16 + x.ev).Nodup
 rt:∀ x∈d.routes,0≤x.dev∧x.dev < 4294967296∧0≤x.ev∧x.ev < 16
 sq:SmallS d.q
theorem RGood.fits {d:Rv} (g:RGood d):RFits d:=by
 have h1:=nd_len 4294967296 d.devs g.nd g.dev
 have h2:=nd_len 68719476736 _ g.rnd (fun y hy=>by
  obtain ⟨x,hx,rfl⟩:=List.mem_map.1 hy
  have:=g.rt x hx
  omega)
 rw [List.length_map] at h2
 exact ⟨by omega,by omega,g.len,fun x hx=>by have:=g.bits x hx; omega⟩
theorem dropAt_sub {α:Type} (i:Int) (l:List α):(dropAt i l).Sublist l:=by
 unfold dropAt
 split
 · exact List.Sublist.refl _
 · exact List.eraseIdx_sublist _ _
theorem rgood0:RGood rv0:=⟨by simp [rv0],by simp [rv0],rfl,by simp [rv0],by simp [rv0],by simp [rv0],by show (0:Int)≤_; omega⟩
theorem RGood.forg {d:Rv} (dev ev:Int) (g:RGood d):RGood (rforgS d dev ev) :=
 ⟨g.nd,g.dev,g.len,g.bits,g.rnd.sublist ((dropAt_sub _ _).map _),fun x hx=>g.rt x ((dropAt_sub _ _).subset hx),g.sq⟩
theorem dropAt_len2 {α β:Type} (i:Int) {l:List α} {m:List β} (h:l.length = m.length):(dropAt i l).length = (dropAt i m).length:=by
 unfold dropAt
 split
 · exact h
 · rw [List.length_eraseIdx,List.length_eraseIdx,h]
theorem RGood.drop {d:Rv} (i:Int) (g:RGood d):RGood (dropR d i) :=
 ⟨g.nd.sublist (dropAt_sub _ _),fun x hx=>g.dev x ((dropAt_sub _ _).subset hx),dropAt_len2 i g.len,fun x hx=>g.bits x ((dropAt_sub _ _).subset hx),g.rnd,g.rt,g.sq⟩
theorem RGood.like {d e:Rv} (g:RGood d) (h1:e.devs = d.devs) (h2:e.bits = d.bits) (h3:e.routes = d.routes) (h4:SmallS e.q):RGood e:=by
 obtain ⟨g1,g2,g3,g4,g5,g6,g7⟩:=g
 exact ⟨by rw [h1]; exact g1,by rw [h1]; exact g2,by rw [h1,h2]; exact g3,by rw [h2]; exact g4,by rw [h3]; exact g5,by rw [h3]; exact g6,h4⟩
theorem RGood.add {d:Rv} {dev b:Int} (g:RGood d) (hn:dev ∉ d.devs) (hd:0≤dev∧dev < 4294967296) (hb:0≤b∧b < 4):RGood { d with devs:=d.devs ++ [dev],bits:=d.bits ++ [b] }:=by
 refine ⟨?_,?_,?_,?_,g.rnd,g.rt,g.sq⟩
 · show (d.devs ++ [dev]).Nodup
   rw [List.nodup_append]
   refine ⟨g.nd,by simp,?_⟩
   intro x hx y hy
   rw [List.mem_singleton.1 hy]
   intro e; exact hn (e ▸ hx)
 · intro x hx
   rcases List.mem_append.1 hx with hx | hx
   · exact g.dev x hx
   · rw [List.mem_singleton.1 hx]; exact hd
 · show (d.devs ++ [dev]).length = (d.bits ++ [b]).length
   simp [g.len]
 · intro x hx
   rcases List.mem_append.1 hx with hx | hx
   · exact g.bits x hx
   · rw [List.mem_singleton.1 hx]; exact hb
theorem RGood.set {d:Rv} {x:Rr} (g:RGood d) (hx:0≤x.dev∧x.dev < 4294967296∧0≤x.ev∧x.ev < 16):RGood (rsetS d x):=by
 rcases posL_cases (fun y:Rr=>y.dev == x.dev && y.ev == x.ev) d.routes with ⟨h3,hno⟩ | ⟨k,h3,hk,h4,_⟩
 · have h3:findR d x.dev x.ev = -1:=h3
   have e:rsetS d x = { d with routes:=d.routes ++ [x] }:=by unfold rsetS; rw [h3,if_neg (by omega)]
   rw [e]
   refine ⟨g.nd,g.dev,g.len,g.bits,?_,?_,g.sq⟩
   · show ((d.routes ++ [x]).map fun x=>x.dev * 16 + x.ev).Nodup
     rw [List.map_append,List.nodup_append]
     refine ⟨g.rnd,by simp,?_⟩
     intro a ha b hb
     obtain ⟨y,hy,rfl⟩:=List.mem_map.1 ha
     have hb:b = x.dev * 16 + x.ev:=by simpa using hb
     rw [hb]
     have h5:=g.rt y hy
     have h6:=hno y hy
     intro e2
     have h7:y.dev = x.dev:=by omega
     have h8:y.ev = x.ev:=by omega
     simp [h7,h8] at h6
   · intro y hy
     rcases List.mem_append.1 hy with hy | hy
     · exact g.rt y hy
     · rw [List.mem_singleton.1 hy]; exact hx
 · have h3:findR d x.dev x.ev = k:=h3
   have e:rsetS d x = { d with routes:=d.routes.set k x }:=by unfold rsetS; rw [h3,if_pos (by omega),Int.toNat_natCast]
   rw [e]
   simp only [Bool.and_eq_true,beq_iff_eq] at h4
   refine ⟨g.nd,g.dev,g.len,g.bits,?_,?_,g.sq⟩
   · show ((d.routes.set k x).map fun x=>x.dev * 16 + x.ev).Nodup
     have e2:((d.routes.set k x).map fun x=>x.dev * 16 + x.ev) = d.routes.map fun x=>x.dev * 16 + x.ev:=by
      apply List.ext_getElem
      · simp
      · intro j h1 h2
        simp only [List.getElem_map,List.getElem_set]
        by_cases hj:k = j
        · subst hj
          rw [if_pos rfl,h4.1,h4.2]
        · rw [if_neg hj]
     rw [e2]; exact g.rnd
   · intro y hy
     rcases List.mem_or_eq_of_mem_set hy with hy | rfl
     · exact g.rt y hy
     · exact hx
theorem RGood.all {d:Rv} (dev:Int) (g:RGood d):∀ n,RGood (allR d dev n).2
 | 0=>g
 | n + 1=>by
  have h:=RGood.all dev g n
  rw [allR_succ]
  generalize allR d dev n = A at *
  unfold fgR
  by_cases hf:0≤findR A.2 dev n
  · rw [if_pos hf]; exact h.forg dev n
  · rw [if_neg hf]; exact h
theorem gone_not {l:List Int} {dev:Int} (h:l.Nodup):dev ∉ dropAt (posL (fun x=>x == dev) l) l:=by
 rcases posL_cases (fun x=>x == dev) l with ⟨h3,hno⟩ | ⟨k,h3,hk,h4,_⟩
 · rw [h3]
   unfold dropAt
   rw [if_pos (by omega)]
   intro hm
   have:=hno dev hm
   simp at this
 · rw [h3]
   unfold dropAt
   rw [if_neg (by omega),Int.toNat_natCast]
   have h5:l[k] = dev:=by simpa using h4
   intro hm
   rw [List.mem_eraseIdx_iff_getElem] at hm
   obtain ⟨j,hj,hne,he⟩:=hm
   have h6:=List.pairwise_iff_getElem.1 h
   rcases Nat.lt_or_ge j k with h7 | h7
   · exact h6 j k hj hk h7 (he.trans h5.symm)
   · exact h6 k j hk hj (by omega) (h5.trans he.symm)
theorem RGood.gone {d:Rv} (dev:Int) (g:RGood d):RGood (goneR d dev).2∧dev ∉ (goneR d dev).2.devs:=by
 have ha:=RGood.all dev g 16
 have hd:(allR d dev 16).2.devs = d.devs:=(allR_inv (dev:=dev) g.fits.small 16).2.2.1
 have hn:=gone_not (dev:=dev) g.nd
 unfold goneR
 by_cases h:0≤atR d dev
 · rw [if_pos h]
   refine ⟨ha.drop _,?_⟩
   show dev ∉ dropAt (atR d dev) (allR d dev 16).2.devs
   rw [hd]; exact hn
 · rw [if_neg h]
   refine ⟨g,?_⟩
   have h2:dropAt (posL (fun x=>x == dev) d.devs) d.devs = d.devs:=by
    unfold dropAt; rw [if_pos (by unfold atR at h; omega)]
   rw [h2] at hn
   exact hn
theorem rite_good {q:Prop} [Decidable q] {a b:List Ch×Rv×Int} (ha:q→RGood a.2.1) (hb:¬ q→RGood b.2.1):RGood (if q then a else b).2.1:=by
 by_cases h:q
 · rw [if_pos h]; exact ha h
 · rw [if_neg h]; exact hb h
theorem RGood.mapd {d:Rv} {c:Cm} {size:Int} (g:RGood d) (hd:0≤c.dev∧c.dev < 4294967296) (hb:0≤c.bits∧c.bits < 32):RGood (mapdR d c size).2.1:=by
 unfold mapdR
 refine rite_good (fun _=>g) fun h=>?_
 have h16:¬ evN c.bits > 16:=by
  intro hh
  apply h
  unfold mapdRE
  rw [if_pos hh]; omega
 have g2:=RGood.gone c.dev g
 generalize goneR d c.dev = G at *
 dsimp only
 cases c.val
 · exact g2.1
 · exact g2.1.add g2.2 hd ⟨hb.1,bits_4 hb h16⟩
theorem event_in {d:Rv} {dev ev:Int} (h:(eventR d dev ev).2 = 0):(eventR d dev ev).1∈d.routes:=by
 unfold eventR at *
 by_cases h1:atR d dev < 0
 · rw [if_pos h1] at h; simp at h
 · rw [if_neg h1] at h ⊢
   by_cases h2:findR d dev ev < 0
   · rw [if_pos h2] at h; simp at h
   · rw [if_neg h2]
     rcases posL_cases (fun x:Rr=>x.dev == dev && x.ev == ev) d.routes with ⟨h3,_⟩ | ⟨k,h3,hk,_,_⟩
     · exact absurd h3 (by unfold findR at h2; omega)
     · have h3:findR d dev ev = k:=h3
       rw [h3,Int.toNat_natCast,List.getD_eq_getElem?_getD,List.getElem?_eq_getElem hk]
       exact List.getElem_mem hk
theorem RGood.single {d:Rv} {c:Cm} (g:RGood d):RGood (singleR d c).2.1:=by
 unfold singleR
 refine rite_good (fun _=>g) fun h=>?_
 have hin:=event_in (d:=d) (dev:=c.dev) (ev:=c.ev) (by omega)
 generalize eventR d c.dev c.ev = E at *
 refine rite_good (fun _=>g.forg _ _) fun _=>?_
 refine rite_good (fun _=>g) fun _=>?_
 refine rite_good (fun _=>rite_good (fun _=>g) fun _=>rite_good (fun _=>g) fun _=>g) fun _=>?_
 refine rite_good (fun _=>g) fun _=>?_
 exact g.set (x:={ E.1 with coll:=c.coll }) (g.rt E.1 hin)
theorem RGood.mapti {d:Rv} {c:Cm} {n lpis:Int} (g:RGood d) (hd:0≤c.dev∧c.dev < 4294967296) (he:0≤c.ev):RGood (maptiR d c n lpis).2.1:=by
 unfold maptiR
 refine rite_good (fun _=>g) fun h1=>?_
 refine rite_good (fun _=>g) fun h2=>?_
 refine rite_good (fun _=>g) fun h3=>?_
 refine rite_good (fun _=>g) fun h4=>?_
 have h16:evN (d.bits.getD (atR d c.dev).toNat 0)≤16:=by
  rw [List.getD_eq_getElem?_getD]
  cases hg:d.bits[(atR d c.dev).toNat]? with
  | none=>exact (evN_16 (k:=0) (by omega)).1
  | some b=>exact (evN_16 (g.bits b (List.mem_of_getElem? hg))).1
 have hx:0≤c.dev∧c.dev < 4294967296∧0≤c.ev∧c.ev < 16:=⟨hd.1,hd.2,he,by omega⟩
 dsimp only
 by_cases h5:0≤findR d c.dev c.ev
 · rw [if_pos h5]; exact (g.forg c.dev c.ev).set (x:=⟨c.dev,c.ev,n,c.coll⟩) hx
 · rw [if_neg h5]; exact g.set (x:=⟨c.dev,c.ev,n,c.coll⟩) hx
theorem RGood.vdo {d:Rv} {c:Cm} {r:Ru} {owned:List Int} (g:RGood d) (hI:-9223372036854775808≤c.addr∧c.addr≤9223372036854775807):RGood (vdoR d c r owned).2.1:=by
 unfold vdoR
 refine rite_good (fun _=>g) fun h0=>?_
 cases he:encM c with
 | none=>exact absurd ((ref_enc hI).trans he) h0
 | some ws =>
  obtain ⟨-,hf,-,-,-⟩:=encM_some he
  have f0:0≤c.dev∧c.dev < 4294967296:=⟨(hf 0 (by omega)).1,(hf 0 (by omega)).2.1⟩
  have f1:0≤c.ev:=(hf 1 (by omega)).1
  have f5:0≤c.bits∧c.bits < 32:=⟨(hf 5 (by omega)).1,(hf 5 (by omega)).2.1⟩
  refine rite_good (fun _=>?_) fun _=>?_
  · unfold mapcR
    exact rite_good (fun _=>g) fun _=>rite_good (fun _=>g) fun _=>g.like rfl rfl rfl g.sq
  refine rite_good (fun _=>rite_good (fun _=>g) fun _=>g) fun _=>?_
  refine rite_good (fun _=>rite_good (fun _=>g) fun _=>rite_good (fun _=>g) fun _=>g) fun _=>?_
  refine rite_good (fun _=>g) fun _=>?_
  refine rite_good (fun _=>g.mapd f0 f5) fun _=>?_
  refine rite_good (fun _=>g.mapti f0 f1) fun _=>?_
  refine rite_good (fun _=>g.mapti f0 f1) fun _=>?_
  exact g.single
theorem pass_s (q:Qu):(passQ q).1.s = q.s:=by unfold passQ; split <;> rfl
theorem set_s (q:Qu) (a:Int):(setQ q a).1.s = q.s:=by unfold setQ; split <;> rfl
theorem RGood.step {d:Rv} {bs:List Int} {r:Ru} {owned:List Int} (g:RGood d):RGood (rstepM d bs r owned).2.2.1:=by
 have ha:=head_addr d.q bs
 have gv:RGood (vdoR d (headQ d.q bs).1 r owned).2.1:=g.vdo (by omega)
 unfold rstepM
 generalize vdoR d (headQ d.q bs).1 r owned = V at *
 generalize headQ d.q bs = hd at *
 by_cases h1:d.on = false
 · rw [if_pos h1]; exact g
 rw [if_neg h1]
 by_cases h2:d.st = true
 · rw [if_pos h2]; exact g
 rw [if_neg h2]
 by_cases h3:d.fit = false
 · rw [if_pos h3]; exact g.like rfl rfl rfl g.sq
 rw [if_neg h3]
 by_cases h4:hd.2 = 170
 · rw [if_pos h4]; exact g
 rw [if_neg h4]
 by_cases h5:hd.2≠0
 · rw [if_pos h5]; exact g.like rfl rfl rfl g.sq
 rw [if_neg h5]
 by_cases h6:V.2.2≠0
 · rw [if_pos h6]; exact gv.like rfl rfl rfl gv.sq
 rw [if_neg h6]
 refine gv.like rfl rfl rfl ?_
 show (passQ V.2.1.q).1.s≤_
 rw [pass_s]; exact gv.sq
theorem partR_small {a s x n:Int} (h:n≤9223372036854775807):(partR a s x n).1.2≤9223372036854775807:=by
 unfold partR
 by_cases hc:fairB a s = true∧0≤x∧0≤n∧x≤s∧n≤wi (s - x)
 · rw [if_pos hc]; exact h
 · rw [if_neg hc]; show (0:Int)≤_; omega
theorem RGood.write {d:Rv} {off width v:Int} {r:Ru} (g:RGood d):RGood (rwriteM d off width v r).1:=by
 unfold rwriteM
 generalize itsM off width = I
 by_cases h1:I.2≠0
 · rw [if_pos h1]; exact g
 rw [if_neg h1]
 show RGood (rcwR I.1.1 v (rcbR I.1.1 v r (rctR I.1.1 v d)))
 generalize I.1.1 = k
 have g1:RGood (rctR k v d):=by
  unfold rctR
  by_cases h:k = 1
  · rw [if_pos h]; exact g.like rfl rfl rfl g.sq
  · rw [if_neg h]; exact g
 generalize rctR k v d = d1 at *
 have g2:RGood (rcbR k v r d1):=by
  unfold rcbR
  by_cases h:k = 19∧d1.on = false
  · rw [if_pos h]
    unfold rbaseR
    refine g1.like rfl rfl rfl ?_
    show (if rbaseOk v r = true then (⟨(partR r.a r.s (rbaseX v) (rbaseN v)).1.1,(partR r.a r.s (rbaseX v) (rbaseN v)).1.2,0,0⟩:Qu) else ⟨0,0,0,0⟩).s≤_
    by_cases h2:rbaseOk v r = true
    · rw [if_pos h2]
      exact partR_small (W_range _).2
    · rw [if_neg h2]; show (0:Int)≤_; omega
  · rw [if_neg h]; exact g1
 generalize rcbR k v r d1 = d2 at *
 unfold rcwR
 by_cases h:k = 20
 · rw [if_pos h]
   have g3:RGood (if d2.fit = true then { d2 with q:=(setQ d2.q (rwAt v)).1 } else d2):=by
    by_cases h2:d2.fit = true
    · rw [if_pos h2]
      refine g2.like rfl rfl rfl ?_
      show (setQ d2.q (rwAt v)).1.s≤_
      rw [set_s]; exact g2.sq
    · rw [if_neg h2]; exact g2
   generalize (if d2.fit = true then { d2 with q:=(setQ d2.q (rwAt v)).1 } else d2) = d3 at *
   unfold rstopR
   by_cases h2:(Int.tmod v 2 == 1) = true
   · rw [if_pos h2]; exact g3.like rfl rfl rfl g3.sq
   · rw [if_neg h2]; exact g3
 · rw [if_neg h]; exact g2
def evOf (s:Vi) (dev ev:Int):Option RtE:=(lk s.devs dev).bind fun d=>lk d.evs ev
def go (s:Vi) (dev ev:Int):Option (Int×Int):=(evOf s dev ev).bind fun x=>(lk s.colls x.coll).map fun v=>(x.num,v)
theorem dev_lk {s:Vi} {dev:Int} (h:hasK s.devs dev = true):lk s.devs dev = some (s.dev dev):=by
 have h1:=hasK_lk s.devs dev
 rw [h] at h1
 obtain ⟨d,hd⟩:=Option.isSome_iff_exists.1 h1.symm
 rw [hd]
 unfold Vi.dev
 rw [getK_lk,hd]; rfl
theorem lk_no {α:Type} {kv:List (Int×α)} {k:Int} (h:hasK kv k = false):lk kv k = none:=by
 have h1:=hasK_lk kv k
 rw [h] at h1
 exact Option.not_isSome_iff_eq_none.1 (by rw [← h1]; simp)
theorem lk_yes {α:Type} {kv:List (Int×α)} {k:Int} (d:α) (h:hasK kv k = true):lk kv k = some (getK d kv k):=by
 have h1:=hasK_lk kv k
 rw [h] at h1
 obtain ⟨v,hv⟩:=Option.isSome_iff_exists.1 h1.symm
 rw [getK_lk,hv]; rfl
theorem has_of {α:Type} {kv:List (Int×α)} {k:Int} {v:α} (h:lk kv k = some v):hasK kv k = true:=by rw [hasK_lk,h]; rfl
theorem hasnt_of {α:Type} {kv:List (Int×α)} {k:Int} (h:lk kv k = none):hasK kv k = false:=by rw [hasK_lk,h]; rfl
theorem get_of {α:Type} {d:α} {kv:List (Int×α)} {k:Int} {v:α} (h:lk kv k = some v):getK d kv k = v:=by rw [getK_lk,h]; rfl
theorem evOf_has {s:Vi} {dev ev:Int} (h:hasK s.devs dev = true):evOf s dev ev = lk (s.dev dev).evs ev:=by
 unfold evOf
 rw [dev_lk h]; rfl
theorem route_some {s:Vi} {dev ev:Int} {x:RtE} {v:Int} (h1:evOf s dev ev = some x) (h2:lk s.colls x.coll = some v):routeM s dev ev = (x,v,0):=by
 unfold routeM
 cases h:hasK s.devs dev with
 | false =>
  unfold evOf at h1
  rw [lk_no h] at h1; cases h1
 | true =>
  rw [evOf_has h] at h1
  rw [if_pos rfl,has_of h1,if_pos rfl,get_of h1,has_of h2,if_pos rfl,get_of h2]
theorem go_some {s:Vi} {dev ev:Int} {n v:Int} (h:go s dev ev = some (n,v)):∃ x:RtE,x.num = n∧evOf s dev ev = some x∧lk s.colls x.coll = some v:=by
 unfold go at h
 cases h1:evOf s dev ev with
 | none=>rw [h1] at h; cases h
 | some x =>
  rw [h1] at h
  cases h2:lk s.colls x.coll with
  | none=>rw [Option.bind_some,h2] at h; cases h
  | some y =>
   simp only [Option.bind_some,h2,Option.map_some,Option.some.injEq,Prod.mk.injEq] at h
   exact ⟨x,h.1,rfl,by rw [h2,h.2]⟩
theorem route_go {s:Vi} {dev ev:Int} {n v:Int} (h:go s dev ev = some (n,v)):(routeM s dev ev).2.2 = 0∧(routeM s dev ev).1.num = n∧(routeM s dev ev).2.1 = v:=by
 obtain ⟨x,h1,h2,h3⟩:=go_some h
 rw [route_some h2 h3]
 exact ⟨rfl,h1,rfl⟩
theorem route_no {s:Vi} {dev ev:Int} (h:go s dev ev = none):(routeM s dev ev).2.2≠0∧(routeM s dev ev).1 = rt0∧(routeM s dev ev).2.1 = 0:=by
 unfold routeM
 cases h1:hasK s.devs dev with
 | false=>rw [if_neg (by simp)]; exact ⟨by show (181:Int)≠0; omega,rfl,rfl⟩
 | true =>
  rw [if_pos rfl]
  cases h2:hasK (s.dev dev).evs ev with
  | false=>rw [if_neg (by simp)]; exact ⟨by show (182:Int)≠0; omega,rfl,rfl⟩
  | true =>
   rw [if_pos rfl]
   cases h3:hasK s.colls (getK rt0 (s.dev dev).evs ev).coll with
   | false=>rw [if_neg (by simp)]; exact ⟨by show (183:Int)≠0; omega,rfl,rfl⟩
   | true =>
    exfalso
    have e1:evOf s dev ev = some (getK rt0 (s.dev dev).evs ev):=by rw [evOf_has h1]; exact lk_yes rt0 h2
    have e2:=lk_yes (0:Int) h3
    unfold go at h
    rw [e1,Option.bind_some,e2] at h
    cases h
def bndO (dev ev:Int):Option (Int×Int)→Ch
 | none=>⟨2,dev,ev,0,0,0⟩
 | some p=>⟨1,dev,ev,p.1,0,p.2⟩
theorem bound_go (s:Vi) (dev ev:Int):boundM s dev ev = bndO dev ev (go s dev ev):=by
 unfold boundM
 cases h:go s dev ev with
 | none=>rw [if_pos (route_no h).1]; rfl
 | some p =>
  obtain ⟨h1,h2,h3⟩:=route_go (n:=p.1) (v:=p.2) h
  rw [if_neg (by rw [h1]; simp),h2,h3]; rfl
theorem forgetC_go (s:Vi) (dev ev:Int):forgetC s dev ev = (match go s dev ev with | none=>[] | some p=>[⟨4,0,0,p.1,p.2,0⟩]) ++ [boundM (forgetS s dev ev) dev ev]:=by
 unfold forgetC
 cases h:go s dev ev with
 | none=>rw [if_neg (route_no h).1]
 | some p =>
  obtain ⟨h1,h2,h3⟩:=route_go (n:=p.1) (v:=p.2) h
  rw [if_pos h1,h2,h3]
theorem evs_lk {s:Vi} {dev:Int} {l:List (Int×RtE)} (g:VGood s) (h:hasK s.devs dev = true) (dev':Int):lk (s.evs dev l).devs dev' = if dev' = dev then some { s.dev dev with evs:=l } else lk s.devs dev' :=
 set_lk g.up h dev'
theorem evs_of {s:Vi} {dev:Int} {l:List (Int×RtE)} (g:VGood s) (h:hasK s.devs dev = true) (dev' ev':Int):evOf (s.evs dev l) dev' ev' = if dev' = dev then lk l ev' else evOf s dev' ev':=by
 unfold evOf
 rw [evs_lk g h]
 by_cases e:dev' = dev
 · rw [if_pos e,if_pos e]; rfl
 · rw [if_neg e,if_neg e]
theorem VGood.evu {s:Vi} {dev:Int} (g:VGood s) (h:hasK s.devs dev = true):Up (s.dev dev).evs:=g.evup _ (dev_mem h)
theorem forget_of {s:Vi} {dev ev:Int} (g:VGood s) (h:hasK s.devs dev = true) (dev' ev':Int):evOf (forgetS s dev ev) dev' ev' = if dev' = dev∧ev' = ev then none else evOf s dev' ev':=by
 unfold forgetS
 rw [evs_of g h]
 by_cases e:dev' = dev
 · subst e
   rw [if_pos rfl,lk_take (g.evu h),evOf_has h]
   by_cases e2:ev' = ev
   · rw [if_pos e2,if_pos ⟨rfl,e2⟩]
   · rw [if_neg e2,if_neg fun h=>e2 h.2]
 · rw [if_neg e,if_neg fun h=>e h.1]
theorem put_of {s:Vi} {dev ev:Int} {x:RtE} (g:VGood s) (h:hasK s.devs dev = true) (dev' ev':Int):evOf (s.evs dev (putK (s.dev dev).evs ev x)) dev' ev' = if dev' = dev∧ev' = ev then some x else evOf s dev' ev':=by
 rw [evs_of g h]
 by_cases e:dev' = dev
 · subst e
   rw [if_pos rfl,lk_put (g.evu h),evOf_has h]
   by_cases e2:ev' = ev
   · rw [if_pos e2,if_pos ⟨rfl,e2⟩]
   · rw [if_neg e2,if_neg fun h=>e2 h.2]
 · rw [if_neg e,if_neg fun h=>e h.1]
theorem ite_p {α:Type} {q:Prop} [Decidable q] (C:α→Prop) {a b:α} (ha:q→C a) (hb:¬ q→C b):C (if q then a else b):=by
 by_cases h:q
 · rw [if_pos h]; exact ha h
 · rw [if_neg h]; exact hb h
theorem fgt_none {dev:Int}:∀ (l:List Int) (a:List Ch×Vi),VGood a.2→hasK a.2.devs dev = true→(∀ ev,evOf a.2 dev ev≠none→ev∈l)→∀ ev,evOf (l.foldl (fgtF dev) a).2 dev ev = none
 | [],a,g,h,hl,ev=>by
  rw [List.foldl_nil]
  cases hh:evOf a.2 dev ev with
  | none=>rfl
  | some x=>have:=hl ev (by rw [hh]; simp); cases this
 | e :: r,a,g,h,hl,ev=>by
  rw [List.foldl_cons]
  refine fgt_none r (fgtF dev a e) (g.forget h) (ev_has h) (fun ev' hne=>?_) ev
  have h1:evOf (fgtF dev a e).2 dev ev' = if dev = dev∧ev' = e then none else evOf a.2 dev ev':=forget_of g h dev ev'
  rw [h1] at hne
  by_cases he:ev' = e
  · rw [if_pos ⟨rfl,he⟩] at hne; exact absurd rfl hne
  · rw [if_neg fun h=>he h.2] at hne
    exact (List.mem_cons.1 (hl ev' hne)).resolve_left he
theorem ks_all {s:Vi} {dev ev:Int} (g:VGood s) (h:hasK s.devs dev = true) (hne:evOf s dev ev≠none):ev∈ks (s.dev dev).evs:=by
 rw [evOf_has h] at hne
 obtain ⟨x,hx⟩:=Option.ne_none_iff_exists'.1 hne
 exact (hasK_iff (g.evu h)).1 (has_of hx)
theorem drop_of {s:Vi} {dev:Int} (g:VGood s) (dev' ev':Int):evOf (dropS s dev) dev' ev' = if dev' = dev then none else evOf s dev' ev':=by
 unfold evOf dropS
 show (lk (takeK s.devs dev) dev').bind _ = _
 rw [lk_take g.up]
 by_cases e:dev' = dev
 · rw [if_pos e,if_pos e]; rfl
 · rw [if_neg e,if_neg e]
theorem mapcF_mem {s:Vi} {coll dev:Int} {evs:List (Int×RtE)} {x:Ch}:x∈mapcF s coll dev evs↔∃ u∈evs,u.2.coll = coll∧x = boundM s dev u.1:=by
 unfold mapcF
 rw [List.mem_map]
 constructor
 · rintro ⟨u,hu,rfl⟩
   obtain ⟨h1,h2⟩:=List.mem_filter.1 hu
   exact ⟨u,h1,by simpa using h2,rfl⟩
 · rintro ⟨u,h1,h2,rfl⟩
   exact ⟨u,List.mem_filter.2 ⟨h1,by simpa using h2⟩,rfl⟩
abbrev NoneOf (s:Vi) (M:List Ch×Vi×Int):Prop:=M.2.2≠0→M.1 = []∧M.2.1 = s
theorem none_err (s:Vi) (e:Int):NoneOf s ([],s,e):=fun _=>⟨rfl,rfl⟩
theorem none_ok (s:Vi) (l:List Ch) (t:Vi):NoneOf s (l,t,0):=fun h=>absurd rfl h
theorem vdo_err {s:Vi} {c:Cm} {r:Ru} {owned:List Int} {p:Nat}:NoneOf s (vdoM s c r owned p):=by
 unfold vdoM
 refine ite_p (NoneOf s) (fun _=>none_err _ _) fun h0=>?_
 refine ite_p (NoneOf s) (fun _=>none_err _ _) fun _=>?_
 refine ite_p (NoneOf s) (fun _=>?_) fun _=>?_
 · unfold mapdM
   exact ite_p (NoneOf s) (fun _=>none_err _ _) fun _=>none_ok _ _ _
 refine ite_p (NoneOf s) (fun _=>?_) fun _=>?_
 · unfold mapcM
   exact ite_p (NoneOf s) (fun _=>none_err _ _) fun _=>ite_p (NoneOf s) (fun _=>none_err _ _) fun _=>none_ok _ _ _
 have mt:∀ n,NoneOf s (maptiM s c n r.lpis):=fun n=>by
  unfold maptiM
  exact ite_p (NoneOf s) (fun _=>none_err _ _) fun _=>ite_p (NoneOf s) (fun _=>none_err _ _) fun _=>ite_p (NoneOf s) (fun _=>none_err _ _) fun _=>ite_p (NoneOf s) (fun _=>none_err _ _) fun _=>none_ok _ _ _
 refine ite_p (NoneOf s) (fun _=>mt _) fun _=>?_
 refine ite_p (NoneOf s) (fun _=>mt _) fun _=>?_
 refine ite_p (NoneOf s) (fun _=>?_) fun _=>?_
 · unfold moviM
   exact ite_p (NoneOf s) (fun _=>none_err _ _) fun _=>ite_p (NoneOf s) (fun _=>none_err _ _) fun _=>ite_p (NoneOf s) (fun _=>none_err _ _) fun _=>none_ok _ _ _
 refine ite_p (NoneOf s) (fun _=>ite_p (NoneOf s) (fun _=>none_err _ _) fun _=>none_ok _ _ _) fun _=>?_
 refine ite_p (NoneOf s) (fun _=>ite_p (NoneOf s) (fun _=>none_err _ _) fun _=>ite_p (NoneOf s) (fun _=>none_ok _ _ _) fun _=>none_ok _ _ _) fun _=>?_
 unfold eventM
 exact ite_p (NoneOf s) (fun _=>none_err _ _) fun _=>ite_p (NoneOf s) (fun _=>none_err _ _) fun _=>ite_p (NoneOf s) (fun _=>none_ok _ _ _) fun _=>ite_p (NoneOf s) (fun _=>none_ok _ _ _) fun _=>ite_p (NoneOf s) (fun _=>none_err _ _) fun _=>ite_p (NoneOf s) (fun _=>none_ok _ _ _) fun _=>none_ok _ _ _
abbrev NG (r:Ru) (n:Int):Prop:=8192≤n∧IntKind.i64.wrap (n - 8192) < r.lpis
abbrev VG (r:Ru) (v:Int):Prop:=0≤v∧v < r.vcpus
structure VNum (r:Ru) (s:Vi):Prop where
 ev:∀ dev ev x,evOf s dev ev = some x→NG r x.num
 coll:∀ k v,lk s.colls k = some v→VG r v
theorem vnum0 (r:Ru):VNum r vi0:=⟨(fun dev ev x h=>by cases h),(fun k v h=>by cases h)⟩
theorem VNum.like {r:Ru} {s t:Vi} (n:VNum r s) (h1:t.devs = s.devs) (h2:t.colls = s.colls):VNum r t :=
 ⟨fun dev ev x h=>n.ev dev ev x (by unfold evOf at *; rw [h1] at h; exact h),fun k v h=>n.coll k v (by rw [h2] at h; exact h)⟩
theorem VNum.go {r:Ru} {s:Vi} {dev ev m v:Int} (n:VNum r s) (h:go s dev ev = some (m,v)):NG r m∧VG r v:=by
 obtain ⟨x,h1,h2,h3⟩:=go_some h
 exact ⟨h1 ▸ n.ev _ _ _ h2,n.coll _ _ h3⟩
theorem VNum.forget {r:Ru} {s:Vi} {dev ev:Int} (n:VNum r s) (g:VGood s) (h:hasK s.devs dev = true):VNum r (forgetS s dev ev):=by
 refine ⟨fun d e x hx=>?_,n.coll⟩
 rw [forget_of g h] at hx
 by_cases e:d = dev∧e = ev
 · rw [if_pos e] at hx; cases hx
 · rw [if_neg e] at hx; exact n.ev _ _ _ hx
theorem VNum.put {r:Ru} {s:Vi} {dev ev:Int} {x:RtE} (n:VNum r s) (g:VGood s) (h:hasK s.devs dev = true) (hx:NG r x.num):VNum r (s.evs dev (putK (s.dev dev).evs ev x)):=by
 refine ⟨fun d e y hy=>?_,n.coll⟩
 rw [put_of g h] at hy
 by_cases e:d = dev∧e = ev
 · rw [if_pos e] at hy; cases hy; exact hx
 · rw [if_neg e] at hy; exact n.ev _ _ _ hy
theorem VNum.drop {r:Ru} {s:Vi} {dev:Int} (n:VNum r s) (g:VGood s):VNum r (dropS s dev):=by
 refine ⟨fun d e y hy=>?_,n.coll⟩
 rw [drop_of g] at hy
 by_cases e:d = dev
 · rw [if_pos e] at hy; cases hy
 · rw [if_neg e] at hy; exact n.ev _ _ _ hy
theorem VNum.add {r:Ru} {s:Vi} {dev bits:Int} (p:Nat) (n:VNum r s) (g:VGood s):VNum r { s with devs:=putK s.devs dev ⟨bits,p,[]⟩ }:=by
 refine ⟨fun d e y hy=>?_,n.coll⟩
 unfold evOf at hy
 rw [show lk ({ s with devs:=putK s.devs dev ⟨bits,p,[]⟩ }:Vi).devs d = _ from lk_put g.up d] at hy
 by_cases e:d = dev
 · rw [if_pos e] at hy; cases hy
 · rw [if_neg e] at hy; exact n.ev _ _ _ hy
theorem VNum.led {r:Ru} {s:Vi} {coll x:Int} {v:Bool} (n:VNum r s) (g:VGood s) (hx:v = true→VG r x):VNum r { s with colls:=if v then putK s.colls coll x else takeK s.colls coll }:=by
 refine ⟨n.ev,fun k y hy=>?_⟩
 cases v
 · rw [show lk ({ s with colls:=if false = true then putK s.colls coll x else takeK s.colls coll }:Vi).colls k = _ from lk_take g.cup k] at hy
   by_cases e:k = coll
   · rw [if_pos e] at hy; cases hy
   · rw [if_neg e] at hy; exact n.coll _ _ hy
 · rw [show lk ({ s with colls:=if true = true then putK s.colls coll x else takeK s.colls coll }:Vi).colls k = _ from lk_put g.cup k] at hy
   by_cases e:k = coll
   · rw [if_pos e] at hy; cases hy; exact hx rfl
   · rw [if_neg e] at hy; exact n.coll _ _ hy
structure ChG (r:Ru) (x:Ch):Prop where
 num:x.k = 1∨x.k = 3∨x.k = 4∨x.k = 5∨x.k = 7→NG r x.n
 f:VG r x.f
 t:VG r x.t
 k:1≤x.k∧x.k≤8
abbrev NT (r:Ru) (M:List Ch×Vi×Int):Prop:=VNum r M.2.1∧∀ x∈M.1,ChG r x
section
variable {r:Ru} {s:Vi}
theorem NT.err (n:VNum r s) (e:Int):NT r ([],s,e):=⟨n,fun _ h=>by cases h⟩
theorem vg0 (hv:0 < r.vcpus):VG r 0:=⟨Int.le_refl _,hv⟩
theorem bnd_good (hv:0 < r.vcpus) (n:VNum r s) (dev ev:Int):ChG r (boundM s dev ev):=by
 rw [bound_go]
 cases h:go s dev ev with
 | none=>exact ⟨fun h=>(by rcases h with h | h | h | h | h <;> cases h),vg0 hv,vg0 hv,by show (1:Int)≤2∧(2:Int)≤8; omega⟩
 | some p =>
  have:=n.go (m:=p.1) (v:=p.2) h
  exact ⟨fun _=>this.1,vg0 hv,this.2,by show (1:Int)≤1∧(1:Int)≤8; omega⟩
theorem forgetC_good (hv:0 < r.vcpus) (n:VNum r s) (g:VGood s) {dev ev:Int} (h:hasK s.devs dev = true):∀ x∈forgetC s dev ev,ChG r x:=by
 intro x hx
 rw [forgetC_go] at hx
 rcases List.mem_append.1 hx with hx | hx
 · cases hg:go s dev ev with
   | none=>rw [hg] at hx; cases hx
   | some p =>
    rw [hg] at hx
    rw [List.mem_singleton.1 hx]
    have:=n.go (m:=p.1) (v:=p.2) hg
    exact ⟨fun _=>this.1,this.2,vg0 hv,by show (1:Int)≤4∧(4:Int)≤8; omega⟩
 · rw [List.mem_singleton.1 hx]
   exact bnd_good hv (n.forget g h) dev ev
theorem fgt_good {dev:Int} (hv:0 < r.vcpus):∀ (l:List Int) (a:List Ch×Vi),VGood a.2→hasK a.2.devs dev = true→VNum r a.2→(∀ x∈a.1,ChG r x)→VNum r (l.foldl (fgtF dev) a).2∧∀ x∈(l.foldl (fgtF dev) a).1,ChG r x
 | [],a,g,h,n,hx=>⟨n,hx⟩
 | e :: t,a,g,h,n,hx=>by
  rw [List.foldl_cons]
  refine fgt_good hv t (fgtF dev a e) (g.forget h) (ev_has h) (n.forget g h) fun x hm=>?_
  rcases List.mem_append.1 (show x∈a.1 ++ forgetC a.2 dev e from hm) with hm | hm
  · exact hx x hm
  · exact forgetC_good hv n g h x hm
theorem gone_good (hv:0 < r.vcpus) (n:VNum r s) (g:VGood s) (dev:Int):VNum r (goneM s dev).2∧∀ x∈(goneM s dev).1,ChG r x:=by
 unfold goneM
 refine ite_p (fun A:List Ch×Vi=>VNum r A.2∧∀ x∈A.1,ChG r x) (fun h=>?_) fun _=>⟨n,fun x hx=>by cases hx⟩
 have h1:=fgt_good hv (ks (s.dev dev).evs) ([],s) g h n (fun x hx=>by cases hx)
 exact ⟨h1.1.drop (VGood.fgt (ks (s.dev dev).evs) ([],s) g h).1,h1.2⟩
theorem NT.mapd {c:Cm} {size:Int} {p:Nat} (hv:0 < r.vcpus) (n:VNum r s) (g:VGood s):NT r (mapdM s c size p):=by
 unfold mapdM
 refine ite_p (NT r) (fun _=>.err n _) fun h=>?_
 have h1:=gone_good hv n g c.dev
 have g2:=VGood.gone c.dev g
 generalize goneM s c.dev = G at *
 refine ⟨?_,h1.2⟩
 show VNum r (if c.val then { G.2 with devs:=putK G.2.devs c.dev ⟨c.bits,p,[]⟩ } else G.2)
 cases c.val
 · exact h1.1
 · exact h1.1.add p g2
theorem NT.mapc {c:Cm} (hv:0 < r.vcpus) (n:VNum r s) (g:VGood s) (ht:0≤c.tgt):NT r (mapcM s c r.vcpus):=by
 unfold mapcM
 refine ite_p (NT r) (fun _=>.err n _) fun _=>ite_p (NT r) (fun _=>.err n _) fun h=>?_
 have h1:=n.led (coll:=c.coll) (x:=c.tgt) (v:=c.val) g (fun hc=>⟨ht,by
  by_cases h2:c.tgt≥r.vcpus
  · exact absurd ⟨hc,h2⟩ h
  · omega⟩)
 dsimp only
 refine ⟨h1,fun x hx=>?_⟩
 unfold mapcC at hx
 obtain ⟨u,hu,hx⟩:=List.mem_flatMap.1 hx
 obtain ⟨e,he,-,rfl⟩:=mapcF_mem.1 hx
 exact bnd_good hv h1 _ _
theorem NT.mapti {c:Cm} {m:Int} (hv:0 < r.vcpus) (n:VNum r s) (g:VGood s):NT r (maptiM s c m r.lpis):=by
 unfold maptiM
 refine ite_p (NT r) (fun _=>.err n _) fun h0=>ite_p (NT r) (fun _=>.err n _) fun _=>ite_p (NT r) (fun _=>.err n _) fun hn=>ite_p (NT r) (fun _=>.err n _) fun _=>?_
 have h:hasK s.devs c.dev = true:=by simpa using h0
 have hm:NG r m:=⟨by omega,by omega⟩
 have ha:VGood (if hasK (s.dev c.dev).evs c.ev = true then (forgetC s c.dev c.ev,forgetS s c.dev c.ev) else (([]:List Ch),s)).2∧hasK (if hasK (s.dev c.dev).evs c.ev = true then (forgetC s c.dev c.ev,forgetS s c.dev c.ev) else (([]:List Ch),s)).2.devs c.dev = true∧VNum r (if hasK (s.dev c.dev).evs c.ev = true then (forgetC s c.dev c.ev,forgetS s c.dev c.ev) else (([]:List Ch),s)).2∧∀ x∈(if hasK (s.dev c.dev).evs c.ev = true then (forgetC s c.dev c.ev,forgetS s c.dev c.ev) else (([]:List Ch),s)).1,ChG r x :=
  ite_p (fun A:List Ch×Vi=>VGood A.2∧hasK A.2.devs c.dev = true∧VNum r A.2∧∀ x∈A.1,ChG r x) (fun _=>⟨g.forget h,ev_has h,n.forget g h,forgetC_good hv n g h⟩) fun _=>⟨g,h,n,fun x hx=>by cases hx⟩
 dsimp only
 generalize (if hasK (s.dev c.dev).evs c.ev = true then (forgetC s c.dev c.ev,forgetS s c.dev c.ev) else (([]:List Ch),s)) = A at *
 obtain ⟨gA,hA,nA,cA⟩:=ha
 have n2:=nA.put (ev:=c.ev) (x:=⟨m,c.coll,true⟩) gA hA hm
 refine ⟨n2,fun x hx=>?_⟩
 rcases List.mem_append.1 hx with hx | hx
 · exact cA x hx
 rcases List.mem_cons.1 hx with rfl | hx
 · exact bnd_good hv n2 _ _
 · rw [List.mem_singleton.1 hx]
   exact ⟨fun _=>hm,vg0 hv,vg0 hv,by show (1:Int)≤7∧(7:Int)≤8; omega⟩
theorem goes_ok {c:Int} (n:VNum r s) (h:(goesM s.colls c).2 = 0):VG r (goesM s.colls c).1:=by
 unfold goesM at *
 cases hc:hasK s.colls c with
 | false=>rw [hc] at h; simp at h
 | true =>
  rw [if_pos rfl]
  exact n.coll c _ (lk_yes 0 hc)
theorem NT.movi {c:Cm} (hv:0 < r.vcpus) (n:VNum r s) (g:VGood s):NT r (moviM s c):=by
 unfold moviM
 refine ite_p (NT r) (fun _=>.err n _) fun h0=>ite_p (NT r) (fun _=>.err n _) fun he=>ite_p (NT r) (fun _=>.err n _) fun hc=>?_
 have h:hasK s.devs c.dev = true:=by simpa using h0
 have he:hasK (s.dev c.dev).evs c.ev = true:=by simpa using he
 have hx:NG r (getK rt0 (s.dev c.dev).evs c.ev).num:=n.ev c.dev c.ev _ (by rw [evOf_has h]; exact lk_yes rt0 he)
 dsimp only
 generalize getK rt0 (s.dev c.dev).evs c.ev = x at *
 have n2:=n.put (ev:=c.ev) (x:={ x with coll:=c.coll }) g h hx
 refine ⟨n2,fun y hy=>?_⟩
 rcases List.mem_append.1 hy with hy | hy
 · by_cases h1:(goesM s.colls x.coll).2 = 0
   · rw [if_pos h1] at hy
     rw [List.mem_singleton.1 hy]
     exact ⟨fun _=>hx,goes_ok n h1,goes_ok n (by omega),by show (1:Int)≤5∧(5:Int)≤8; omega⟩
   · rw [if_neg h1] at hy; cases hy
 · rw [List.mem_singleton.1 hy]
   exact bnd_good hv n2 _ _
theorem NT.event {c:Cm} (hv:0 < r.vcpus) (n:VNum r s) (g:VGood s):NT r (eventM s c):=by
 unfold eventM
 refine ite_p (NT r) (fun _=>.err n _) fun h0=>ite_p (NT r) (fun _=>.err n _) fun he=>?_
 have h:hasK s.devs c.dev = true:=by simpa using h0
 have he:hasK (s.dev c.dev).evs c.ev = true:=by simpa using he
 have hx:NG r (getK rt0 (s.dev c.dev).evs c.ev).num:=n.ev c.dev c.ev _ (by rw [evOf_has h]; exact lk_yes rt0 he)
 dsimp only
 generalize getK rt0 (s.dev c.dev).evs c.ev = x at *
 refine ite_p (NT r) (fun _=>⟨n.forget g h,forgetC_good hv n g h⟩) fun _=>ite_p (NT r) (fun _=>⟨n,fun y hy=>?_⟩) fun _=>ite_p (NT r) (fun _=>.err n _) fun hc=>ite_p (NT r) (fun _=>⟨n,fun y hy=>?_⟩) fun _=>⟨n,fun y hy=>?_⟩
 · rw [List.mem_singleton.1 hy]; exact ⟨fun _=>hx,vg0 hv,vg0 hv,by show (1:Int)≤7∧(7:Int)≤8; omega⟩
 · rw [List.mem_singleton.1 hy]; exact ⟨fun _=>hx,vg0 hv,goes_ok n (by omega),by show (1:Int)≤3∧(3:Int)≤8; omega⟩
 · rw [List.mem_singleton.1 hy]; exact ⟨fun _=>hx,goes_ok n (by omega),vg0 hv,by show (1:Int)≤4∧(4:Int)≤8; omega⟩
theorem NT.vdo {c:Cm} {owned:List Int} {p:Nat} (hv:0 < r.vcpus) (n:VNum r s) (g:VGood s):NT r (vdoM s c r owned p):=by
 unfold vdoM
 refine ite_p (NT r) (fun _=>.err n _) fun h0=>?_
 cases he:encM c with
 | none=>exact absurd he h0
 | some ws =>
  obtain ⟨-,hf,-,-,-⟩:=encM_some he
  have f2:0≤c.num:=(hf 2 (by omega)).1
  have f4:0≤c.tgt:=(hf 4 (by omega)).1
  refine ite_p (NT r) (fun _=>.err n _) fun _=>?_
  refine ite_p (NT r) (fun _=>.mapd hv n g) fun _=>?_
  refine ite_p (NT r) (fun _=>.mapc hv n g f4) fun _=>?_
  refine ite_p (NT r) (fun _=>.mapti hv n g) fun _=>?_
  refine ite_p (NT r) (fun _=>.mapti hv n g) fun _=>?_
  refine ite_p (NT r) (fun _=>.movi hv n g) fun _=>?_
  refine ite_p (NT r) (fun _=>ite_p (NT r) (fun _=>.err n _) fun _=>⟨n,fun y hy=>?_⟩) fun _=>?_
  · rw [List.mem_singleton.1 hy]; exact ⟨fun h=>(by rcases h with h | h | h | h | h <;> cases h),vg0 hv,vg0 hv,by show (1:Int)≤8∧(8:Int)≤8; omega⟩
  refine ite_p (NT r) (fun _=>ite_p (NT r) (fun _=>.err n _) fun ht=>ite_p (NT r) (fun _=>.err n _) fun _=>⟨n,fun y hy=>?_⟩) fun _=>?_
  · rw [List.mem_singleton.1 hy]; exact ⟨fun h=>(by rcases h with h | h | h | h | h <;> cases h),⟨f4,by show c.tgt < _; omega⟩,⟨f2,by show c.num < _; omega⟩,by show (1:Int)≤6∧(6:Int)≤8; omega⟩
  exact .event hv n g
end
def Vi.hd (s:Vi):Bool×Bool×Int×Bool×Qu:=(s.on,s.st,s.base,s.fit,s.q)
abbrev HD (s:Vi) (M:List Ch×Vi×Int):Prop:=M.2.1.hd = s.hd
theorem fgt_hd {dev:Int}:∀ (l:List Int) (a:List Ch×Vi),(l.foldl (fgtF dev) a).2.hd = a.2.hd
 | [],a=>rfl
 | e :: t,a=>by
  rw [List.foldl_cons]
  exact (fgt_hd t (fgtF dev a e)).trans rfl
theorem gone_hd (s:Vi) (dev:Int):(goneM s dev).2.hd = s.hd:=by
 unfold goneM
 refine ite_p (fun A:List Ch×Vi=>A.2.hd = s.hd) (fun _=>?_) fun _=>rfl
 exact (fgt_hd (dev:=dev) (ks (s.dev dev).evs) ([],s))
theorem vdo_hd (s:Vi) (c:Cm) (r:Ru) (owned:List Int) (p:Nat):HD s (vdoM s c r owned p):=by
 unfold vdoM
 refine ite_p (HD s) (fun _=>rfl) fun h0=>?_
 refine ite_p (HD s) (fun _=>rfl) fun _=>?_
 refine ite_p (HD s) (fun _=>?_) fun _=>?_
 · unfold mapdM
   refine ite_p (HD s) (fun _=>rfl) fun _=>?_
   show (if c.val then { (goneM s c.dev).2 with devs:=putK (goneM s c.dev).2.devs c.dev ⟨c.bits,p,[]⟩ } else (goneM s c.dev).2:Vi).hd = s.hd
   cases c.val
   · exact gone_hd s c.dev
   · exact gone_hd s c.dev
 refine ite_p (HD s) (fun _=>?_) fun _=>?_
 · unfold mapcM
   exact ite_p (HD s) (fun _=>rfl) fun _=>ite_p (HD s) (fun _=>rfl) fun _=>rfl
 have mt:∀ n,HD s (maptiM s c n r.lpis):=fun n=>by
  unfold maptiM
  refine ite_p (HD s) (fun _=>rfl) fun _=>ite_p (HD s) (fun _=>rfl) fun _=>ite_p (HD s) (fun _=>rfl) fun _=>ite_p (HD s) (fun _=>rfl) fun _=>?_
  show (if hasK (s.dev c.dev).evs c.ev = true then (forgetC s c.dev c.ev,forgetS s c.dev c.ev) else (([]:List Ch),s)).2.hd = s.hd
  exact ite_p (fun A:List Ch×Vi=>A.2.hd = s.hd) (fun _=>rfl) fun _=>rfl
 refine ite_p (HD s) (fun _=>mt _) fun _=>?_
 refine ite_p (HD s) (fun _=>mt _) fun _=>?_
 refine ite_p (HD s) (fun _=>?_) fun _=>?_
 · unfold moviM
   exact ite_p (HD s) (fun _=>rfl) fun _=>ite_p (HD s) (fun _=>rfl) fun _=>ite_p (HD s) (fun _=>rfl) fun _=>rfl
 refine ite_p (HD s) (fun _=>ite_p (HD s) (fun _=>rfl) fun _=>rfl) fun _=>?_
 refine ite_p (HD s) (fun _=>ite_p (HD s) (fun _=>rfl) fun _=>ite_p (HD s) (fun _=>rfl) fun _=>rfl) fun _=>?_
 unfold eventM
 exact ite_p (HD s) (fun _=>rfl) fun _=>ite_p (HD s) (fun _=>rfl) fun _=>ite_p (HD s) (fun _=>rfl) fun _=>ite_p (HD s) (fun _=>rfl) fun _=>ite_p (HD s) (fun _=>rfl) fun _=>ite_p (HD s) (fun _=>rfl) fun _=>rfl
theorem land_w (x:Nat):x &&& 1048544 = 32 * (x / 32 % 32768):=by
 have e:(1048544:Nat) = 32767 <<< 5:=rfl
 have h:x &&& 1048544 = ((x >>> 5) &&& 32767) <<< 5:=by
  rw [e]
  refine Nat.eq_of_testBit_eq fun i=>?_
  rw [Nat.testBit_and,Nat.testBit_shiftLeft,Nat.testBit_shiftLeft,Nat.testBit_and,Nat.testBit_shiftRight]
  by_cases hi:5≤i
  · rw [show 5 + (i - 5) = i by omega]
    simp [hi]
  · simp [hi]
 rw [h,show (32767:Nat) = 2 ^ 15 - 1 from rfl,Nat.and_two_pow_sub_one_eq_mod,Nat.shiftRight_eq_div_pow,Nat.shiftLeft_eq]
 omega
theorem and_w {v:Int} (h0:0≤v) (h1:v < 18446744073709551616):bitX .and .u64 v 1048544 = 32 * ((v.toNat / 32 % 32768:Nat):Int):=by
 obtain ⟨n,rfl⟩:=Int.eq_ofNat_of_zero_le h0
 have:=and_u64 (a:=n) (b:=1048544) (by omega) (by omega)
 rw [show (1048544:Int) = ((1048544:Nat):Int) from rfl,this,land_w,Int.toNat_natCast]
 omega
def VQ (s:Vi):Prop:=SmallS s.q∧∃ j:Nat,j < 32768∧s.q.w = 32 * (j:Int)
theorem vq0:VQ vi0:=⟨by show (0:Int)≤_; omega,0,by omega,rfl⟩
theorem VQ.hd {s t:Vi} (h:VQ s) (e:t.hd = s.hd):VQ t:=by
 have:t.q = s.q:=congrArg (fun x=>x.2.2.2.2) e
 unfold VQ; rw [this]; exact h
theorem VQ.q {s t:Vi} (h:VQ s) (e:t.q = s.q):VQ t:=by unfold VQ; rw [e]; exact h
theorem pass_w (q:Qu):(passQ q).1.w = q.w:=by unfold passQ; split <;> rfl
theorem vdo_q (s:Vi) (c:Cm) (r:Ru) (owned:List Int) (p:Nat):(vdoM s c r owned p).2.1.q = s.q:=congrArg (fun x=>x.2.2.2.2) (vdo_hd s c r owned p)
theorem VQ.step {s:Vi} {bs:List Int} {r:Ru} {owned:List Int} {p:Nat} (g:VQ s):VQ (vstepM s bs r owned p).2.2.1:=by
 have gv:=vdo_q s (headQ s.q bs).1 r owned p
 unfold vstepM
 generalize vdoM s (headQ s.q bs).1 r owned p = V at *
 generalize headQ s.q bs = hd at *
 refine ite_p (fun A:Cm×List Ch×Vi×Int=>VQ A.2.2.1) (fun _=>g) fun _=>?_
 refine ite_p (fun A:Cm×List Ch×Vi×Int=>VQ A.2.2.1) (fun _=>g) fun _=>?_
 refine ite_p (fun A:Cm×List Ch×Vi×Int=>VQ A.2.2.1) (fun _=>g.q rfl) fun _=>?_
 refine ite_p (fun A:Cm×List Ch×Vi×Int=>VQ A.2.2.1) (fun _=>g) fun _=>?_
 refine ite_p (fun A:Cm×List Ch×Vi×Int=>VQ A.2.2.1) (fun _=>g.q rfl) fun _=>?_
 refine ite_p (fun A:Cm×List Ch×Vi×Int=>VQ A.2.2.1) (fun _=>g.q gv) fun _=>?_
 obtain ⟨h1,h2⟩:=g
 refine ⟨?_,?_⟩
 · show (passQ V.2.1.q).1.s≤_
   rw [pass_s,gv]; exact h1
 · show ∃ j:Nat,j < 32768∧(passQ V.2.1.q).1.w = 32 * (j:Int)
   rw [pass_w,gv]; exact h2
theorem VQ.write {s:Vi} {off width v:Int} {r:Ru} (g:VQ s) (h0:0≤v) (h1:v < 18446744073709551616):VQ (vwriteM s off width v r).1:=by
 unfold vwriteM
 generalize itsM off width = I
 refine ite_p (fun A:Vi×Int=>VQ A.1) (fun _=>g) fun _=>?_
 refine ite_p (fun A:Vi×Int=>VQ A.1) (fun _=>g.q rfl) fun _=>?_
 refine ite_p (fun A:Vi×Int=>VQ A.1) (fun _=>?_) fun _=>?_
 · show VQ (if s.on then s else rebM s v r)
   cases s.on
   · show VQ (rebM s v r)
     unfold rebM
     refine ite_p VQ (fun _=>?_) fun _=>⟨by show (0:Int)≤_; omega,0,by omega,rfl⟩
     have hn:baseN v≤9223372036854775807:=(W_range _).2
     have hp:(partM r.a r.s (baseX v) (baseN v)).1.2≤9223372036854775807:=by
      unfold partM
      refine ite_p (fun A:(Int×Int)×Int=>A.1.2≤9223372036854775807) (fun _=>hn) fun _=>?_
      show (0:Int)≤_; omega
     refine ⟨?_,0,by omega,?_⟩
     · show (newQ _ _).1.s≤_
       unfold newQ
       refine ite_p (fun A:Qu×Int=>A.1.s≤9223372036854775807) (fun _=>hp) fun _=>?_
       show (0:Int)≤_; omega
     · show (newQ _ _).1.w = _
       unfold newQ
       exact ite_p (fun A:Qu×Int=>A.1.w = 32 * ((0:Nat):Int)) (fun _=>rfl) fun _=>rfl
   · exact g
 refine ite_p (fun A:Vi×Int=>VQ A.1) (fun _=>?_) fun _=>g
 show VQ (stop1 v (if s.fit then { s with q:=(setQ s.q (wi (bitX .and .u64 v 1048544))).1 } else s))
 have:VQ (if s.fit then { s with q:=(setQ s.q (wi (bitX .and .u64 v 1048544))).1 } else s):=by
  cases s.fit
  · exact g
  · obtain ⟨h2,h3⟩:=g
    refine ⟨?_,?_⟩
    · show (setQ s.q (wi (bitX .and .u64 v 1048544))).1.s≤_
      rw [set_s]; exact h2
    · show ∃ j:Nat,j < 32768∧(setQ s.q (wi (bitX .and .u64 v 1048544))).1.w = 32 * (j:Int)
      unfold setQ
      refine ite_p (fun A:Qu×Int=>∃ j:Nat,j < 32768∧A.1.w = 32 * (j:Int)) (fun _=>?_) fun _=>h3
      refine ⟨v.toNat / 32 % 32768,by omega,?_⟩
      show wi (bitX .and .u64 v 1048544) = _
      rw [and_w h0 h1]
      exact W_id (by omega) (by omega)
 exact this.q rfl
inductive Stp (s:Vi) (bs:List Int) (r:Ru) (owned:List Int) (p:Nat):Cm×List Ch×Vi×Int→Prop
 | off (h:s.on = false):Stp s bs r owned p (cm0,[],s,191)
 | st (h:s.on = true) (h2:s.st = true):Stp s bs r owned p (cm0,[],s,190)
 | fit (h:s.on = true) (h2:s.st = false) (h3:s.fit = false):Stp s bs r owned p (cm0,[],{ s with st:=true },241)
 | empty (h:s.on = true) (h2:s.st = false) (h3:s.fit = true) (h4:(headQ s.q bs).2 = 170):Stp s bs r owned p (cm0,[],s,170)
 | head (h:s.on = true) (h2:s.st = false) (h3:s.fit = true) (h4:(headQ s.q bs).2≠170) (h5:(headQ s.q bs).2≠0):Stp s bs r owned p (cm0,[],{ s with st:=true },(headQ s.q bs).2)
 | err (h:s.on = true) (h2:s.st = false) (h3:s.fit = true) (h5:(headQ s.q bs).2 = 0) (h6:(vdoM s (headQ s.q bs).1 r owned p).2.2≠0):Stp s bs r owned p (cm0,[],{ s with st:=true },(vdoM s (headQ s.q bs).1 r owned p).2.2)
 | ok (h:s.on = true) (h2:s.st = false) (h3:s.fit = true) (h5:(headQ s.q bs).2 = 0) (h6:(vdoM s (headQ s.q bs).1 r owned p).2.2 = 0):Stp s bs r owned p ((headQ s.q bs).1,(vdoM s (headQ s.q bs).1 r owned p).1,{ (vdoM s (headQ s.q bs).1 r owned p).2.1 with q:=(passQ s.q).1 },0)
theorem stp (s:Vi) (bs:List Int) (r:Ru) (owned:List Int) (p:Nat):Stp s bs r owned p (vstepM s bs r owned p):=by
 have gv:=vdo_q s (headQ s.q bs).1 r owned p
 have ge:=vdo_err (s:=s) (c:=(headQ s.q bs).1) (r:=r) (owned:=owned) (p:=p)
 unfold vstepM
 by_cases h1:s.on = false
 · rw [if_pos h1]; exact .off h1
 rw [if_neg h1]
 have h1:s.on = true:=by simpa using h1
 by_cases h2:s.st = true
 · rw [if_pos h2]; exact .st h1 h2
 rw [if_neg h2]
 have h2:s.st = false:=by simpa using h2
 by_cases h3:s.fit = false
 · rw [if_pos h3]; exact .fit h1 h2 h3
 rw [if_neg h3]
 have h3:s.fit = true:=by simpa using h3
 by_cases h4:(headQ s.q bs).2 = 170
 · rw [if_pos h4]; exact .empty h1 h2 h3 h4
 rw [if_neg h4]
 by_cases h5:(headQ s.q bs).2≠0
 · rw [if_pos h5]; exact .head h1 h2 h3 h4 h5
 rw [if_neg h5]
 by_cases h6:(vdoM s (headQ s.q bs).1 r owned p).2.2≠0
 · rw [if_pos h6,(ge h6).2]; exact .err h1 h2 h3 (by omega) h6
 rw [if_neg h6,gv]
 exact .ok h1 h2 h3 (by omega) (by omega)
abbrev LenT (M:List Ch×Vi×Int):Prop:=M.1.length≤200000000000
theorem vdo_len {s:Vi} {c:Cm} {r:Ru} {owned:List Int} {p:Nat} (g:VGood s):LenT (vdoM s c r owned p):=by
 have hf:=g.fits
 have hsz:=hf.size
 have f2:∀ dev ev,(forgetC s dev ev).length≤2:=fun dev ev=>fgtC_len s dev ev
 have n0:∀ (t:Vi) (e:Int),LenT ([],t,e):=fun t e=>by show 0≤_; omega
 have n1:∀ (x:Ch) (t:Vi) (e:Int),LenT ([x],t,e):=fun x t e=>by show 1≤_; omega
 unfold vdoM
 refine ite_p LenT (fun _=>n0 _ _) fun h0=>?_
 refine ite_p LenT (fun _=>n0 _ _) fun _=>?_
 refine ite_p LenT (fun _=>?_) fun _=>?_
 · unfold mapdM
   refine ite_p LenT (fun _=>n0 _ _) fun _=>?_
   show (goneM s c.dev).1.length≤_
   unfold goneM
   refine ite_p (fun A:List Ch×Vi=>A.1.length≤200000000000) (fun _=>?_) fun _=>by show 0≤_; omega
   have h1:=fgt_len s c.dev (ks (s.dev c.dev).evs)
   have h2:=hf.evs c.dev
   rw [ks_len] at h1
   show (fgt s c.dev (ks (s.dev c.dev).evs)).1.length≤_
   omega
 refine ite_p LenT (fun _=>?_) fun _=>?_
 · unfold mapcM
   refine ite_p LenT (fun _=>n0 _ _) fun _=>ite_p LenT (fun _=>n0 _ _) fun _=>?_
   show (mapcC _ c.coll s.devs).length≤_
   have h1:=mapcC_len { s with colls:=if c.val then putK s.colls c.coll c.tgt else takeK s.colls c.coll } c.coll s.devs
   omega
 have mt:∀ n,LenT (maptiM s c n r.lpis):=fun n=>by
  unfold maptiM
  refine ite_p LenT (fun _=>n0 _ _) fun _=>ite_p LenT (fun _=>n0 _ _) fun _=>ite_p LenT (fun _=>n0 _ _) fun _=>ite_p LenT (fun _=>n0 _ _) fun _=>?_
  have h1:(if hasK (s.dev c.dev).evs c.ev = true then (forgetC s c.dev c.ev,forgetS s c.dev c.ev) else (([]:List Ch),s)).1.length≤2 :=
   ite_p (fun A:List Ch×Vi=>A.1.length≤2) (fun _=>f2 _ _) fun _=>by show 0≤_; omega
  dsimp only
  generalize (if hasK (s.dev c.dev).evs c.ev = true then (forgetC s c.dev c.ev,forgetS s c.dev c.ev) else (([]:List Ch),s)) = A at *
  show (A.1 ++ [_,_]).length≤_
  rw [List.length_append]
  show A.1.length + 2≤_
  omega
 refine ite_p LenT (fun _=>mt _) fun _=>?_
 refine ite_p LenT (fun _=>mt _) fun _=>?_
 refine ite_p LenT (fun _=>?_) fun _=>?_
 · unfold moviM
   refine ite_p LenT (fun _=>n0 _ _) fun _=>ite_p LenT (fun _=>n0 _ _) fun _=>ite_p LenT (fun _=>n0 _ _) fun _=>?_
   dsimp only
   show (List.length (_ ++ [_]))≤_
   rw [List.length_append]
   refine ite_p (fun A:List Ch=>A.length + 1≤200000000000) (fun _=>by show 1 + 1≤_; omega) fun _=>by show 0 + 1≤_; omega
 refine ite_p LenT (fun _=>ite_p LenT (fun _=>n0 _ _) fun _=>n1 _ _ _) fun _=>?_
 refine ite_p LenT (fun _=>ite_p LenT (fun _=>n0 _ _) fun _=>ite_p LenT (fun _=>n0 _ _) fun _=>n1 _ _ _) fun _=>?_
 unfold eventM
 refine ite_p LenT (fun _=>n0 _ _) fun _=>ite_p LenT (fun _=>n0 _ _) fun _=>ite_p LenT (fun _=>?_) fun _=>ite_p LenT (fun _=>n1 _ _ _) fun _=>ite_p LenT (fun _=>n0 _ _) fun _=>ite_p LenT (fun _=>n1 _ _ _) fun _=>n1 _ _ _
 have:=f2 c.dev c.ev
 show (forgetC s c.dev c.ev).length≤_
 omega
theorem step_len {s:Vi} {bs:List Int} {r:Ru} {owned:List Int} {p:Nat} (g:VGood s):(vstepM s bs r owned p).2.1.length≤200000000000:=by
 have h:=vdo_len (s:=s) (c:=(headQ s.q bs).1) (r:=r) (owned:=owned) (p:=p) g
 have hs:=stp s bs r owned p
 generalize vstepM s bs r owned p = M at *
 cases hs with
 | ok=>exact h
 | _=>show 0≤_; omega
structure Sd where
 s:Vi
 m:List Int
 d:Rv
 n:List Int
noncomputable abbrev sdL (bs bm bd bn:Nat) (t:Sd):List It:=[vitsI bs t.s,memI bm t.m,refI bd t.d,memI bn t.n]
def putX (at':Int) (ns:List Int):List Int:=if holdsB ns.length (wi (512 + at')) 32 then cut ns (wi (512 + at')).toNat 32 else []
def putB (at':Int) (ms xs:List Int):Bool:=holdsB ms.length (wi (512 + at')) 32 && decide ((xs.length:Int)≤32)
def doesM (p:Nat) (r:Ru) (owned:List Int) (x:Ac) (t:Sd):Bool×Sd :=
 if x.d = 1 then (decide ((vdoM t.s x.c r owned p).1 = (vdoR t.d x.c r owned).1) && ((vdoM t.s x.c r owned p).2.2 == (vdoR t.d x.c r owned).2.2),{ t with s:=(vdoM t.s x.c r owned p).2.1,d:=(vdoR t.d x.c r owned).2.1 })
 else if x.d = 2 then
  if (putQ ⟨512,2048,0,x.at'⟩ t.n x.c).2.2≠0 then (true,{ t with n:=(putQ ⟨512,2048,0,x.at'⟩ t.n x.c).2.1 })
  else (putB x.at' t.m (putX x.at' (putQ ⟨512,2048,0,x.at'⟩ t.n x.c).2.1),{ t with n:=(putQ ⟨512,2048,0,x.at'⟩ t.n x.c).2.1,m:=if putB x.at' t.m (putX x.at' (putQ ⟨512,2048,0,x.at'⟩ t.n x.c).2.1) then over t.m (wi (512 + x.at')).toNat (putX x.at' (putQ ⟨512,2048,0,x.at'⟩ t.n x.c).2.1) else t.m })
 else if x.d = 3 then (decide ((vstepM t.s t.m r owned p).1 = (rstepM t.d t.n r owned).1) && (decide ((vstepM t.s t.m r owned p).2.1 = (rstepM t.d t.n r owned).2.1) && ((vstepM t.s t.m r owned p).2.2.2 == (rstepM t.d t.n r owned).2.2.2)),{ t with s:=(vstepM t.s t.m r owned p).2.2.1,d:=(rstepM t.d t.n r owned).2.2.1 })
 else if x.d = 4 then ((vwriteM t.s x.at' (wideM x) x.v r).2 == (rwriteM t.d x.at' (wideM x) x.v r).2,{ t with s:=(vwriteM t.s x.at' (wideM x) x.v r).1,d:=(rwriteM t.d x.at' (wideM x) x.v r).1 })
 else (true,t)
theorem cut_range {bs:List Int} {k n:Nat} (h:∀ x∈bs,0≤x∧x < 256):∀ x∈cut bs k n,0≤x∧x < 256:=fun x hx=>by
 unfold cut at hx
 exact h x (List.mem_of_mem_drop (List.mem_of_mem_take hx))
theorem does_t (bs bm bd bn:Nat) (t:Sd) (r:Ru) (i:It) {q p:Option Addr} {cq c:Nat} {owned:List Int} (x:Ac) (hi:∀ w S,i.h w S→Sl w p (i64s owned)) (hl:owned.length < 9223372036854775807) (gs:VGood t.s) (gd:RGood t.d) (hI:-9223372036854775808≤x.c.addr∧x.c.addr≤9223372036854775807) :
 Tri P F.zzcR [.agg (sideV bs bm bd bn r q p owned.length cq c).toArray,acV x] (sdL bs bm bd bn t ++ [nums q cq owned,i]) fun v L'=>∃ pp,v = .bool (doesM pp r owned x t).1∧L' = sdL bs bm bd bn (doesM pp r owned x t).2 ++ [nums q cq owned,i]:=by
 intro w S hS
 refine zzk2 ?_
 unfold zzcR
 have H:=Own.start hS
 simp only [sdL,List.cons_append,List.nil_append] at H ⊢
 refine alc_o H fun b32 wx H=>alc_o H fun b34 wx H=>?_
 repeat (first | refine lIa H ?_ | refine lLa H ?_ | refine lBa H ?_ | refine lPa H ?_ | refine lSa H ?_)
 refine cnd_i (fun h=>?_) fun h=>cnd_i (fun h2=>?_) fun h2=>cnd_i (fun h3=>?_) fun h3=>cnd_i (fun h4=>?_) fun h4=>?_
 · have h:x.d = 1:=by simpa using h
   repeat (first | refine lIa H ?_ | refine lLa H ?_ | refine lBa H ?_ | refine lPa H ?_ | refine lSa H ?_)
   refine call_oa H (VDo_t bs t.s x.c r (nums q cq owned) nums_sl hl gs.fits (by omega)) fun vx L' wx hq H=>?_
   obtain ⟨pp,q1,c1,rfl,rfl⟩:=hq
   simp only [List.cons_append,List.nil_append] at H
   refine ⟨_,_,_,_,rfl,?_⟩
   have e:doesM pp r owned x t = (decide ((vdoM t.s x.c r owned pp).1 = (vdoR t.d x.c r owned).1) && ((vdoM t.s x.c r owned pp).2.2 == (vdoR t.d x.c r owned).2.2),{ t with s:=(vdoM t.s x.c r owned pp).2.1,d:=(vdoR t.d x.c r owned).2.1 }):=by unfold doesM; rw [if_pos h]
   repeat (first | refine lIa H ?_ | refine lLa H ?_ | refine lBa H ?_ | refine lPa H ?_ | refine lSa H ?_)
   refine call_oa H (VDoR_t bd t.d x.c r i hi hl gd.fits hI) fun vx L' wx hq H=>?_
   obtain ⟨q2,c2,rfl,rfl⟩:=hq
   simp only [List.cons_append,List.nil_append] at H
   refine ⟨_,_,_,_,rfl,join_o ?_⟩
   have hlen:(vdoM t.s x.c r owned pp).1.length < 9223372036854775807:=by have:=vdo_len (c:=x.c) (r:=r) (owned:=owned) (p:=pp) gs; omega
   refine call_oa H (same_t (p:=q1) (q:=q2) (c:=c1) (e:=c2) (ys:=(vdoR t.d x.c r owned).1) hlen) fun vx L' wx hq H=>?_
   obtain ⟨rfl,rfl⟩:=hq
   simp only [List.cons_append,List.nil_append] at H
   refine ⟨_,rfl,?_⟩
   unfold zzhQ
   refine cnd_i (fun hb=>?_) fun hb=>?_
   · refine ⟨_,⟨pp,?_,rfl⟩,?_⟩
     · rw [e,hb,Bool.true_and]
     · rw [e]; exact H.dp
   · refine ⟨_,⟨pp,?_,rfl⟩,?_⟩
     · rw [e,hb,Bool.false_and]
     · rw [e]; exact H.dp
 · have h:x.d≠1:=by simpa using h
   have h2:x.d = 2:=by simpa using h2
   repeat (first | refine lIa H ?_ | refine lLa H ?_ | refine lBa H ?_ | refine lPa H ?_ | refine lSa H ?_)
   refine alc_o H fun b93 wx H=>?_
   iterate 4 refine sta H fun wx H=>?_
   refine alc_o H fun b99 wx H=>?_
   repeat (first | refine lIa H ?_ | refine lLa H ?_ | refine lBa H ?_ | refine lPa H ?_ | refine lSa H ?_)
   refine ix_i (i:=0) (by omega) ?_
   simp only [Nat.zero_mul,add_lit,Nat.zero_add]
   iterate 9 refine sta H fun wx H=>?_
   repeat (first | refine lIa H ?_ | refine lLa H ?_ | refine lBa H ?_ | refine lPa H ?_ | refine lSa H ?_)
   refine ix_i (i:=0) (by omega) ?_
   simp only [Nat.zero_mul,add_lit,Nat.zero_add]
   repeat (first | refine lIa H ?_ | refine lLa H ?_ | refine lBa H ?_ | refine lPa H ?_ | refine lSa H ?_)
   refine call_oa H (rPut_t b93 bn ⟨512,2048,0,x.at'⟩ (by show (2048:Int)≤_; omega) t.n x.c hI) fun vx L' wx hq H=>?_
   obtain ⟨rfl,rfl⟩:=hq
   simp only [List.cons_append,List.nil_append] at H
   refine ⟨_,rfl,cnd_i (fun h3=>?_) fun h3=>?_⟩
   · have e:doesM 0 r owned x t = (true,{ t with n:=(putQ ⟨512,2048,0,x.at'⟩ t.n x.c).2.1 }):=by unfold doesM; rw [if_neg h,if_pos h2,if_pos (by simpa using h3)]
     refine ⟨_,⟨0,?_,rfl⟩,?_⟩
     · rw [e]
     · rw [e]; exact H.dp
   · generalize hu:putQ ⟨512,2048,0,x.at'⟩ t.n x.c = U at *
     have e:doesM 0 r owned x t = (putB x.at' t.m (putX x.at' U.2.1),{ t with n:=U.2.1,m:=if putB x.at' t.m (putX x.at' U.2.1) then over t.m (wi (512 + x.at')).toNat (putX x.at' U.2.1) else t.m }):=by unfold doesM; rw [if_neg h,if_pos h2,hu,if_neg (by simpa using h3)]
     repeat (first | refine lIa H ?_ | refine lLa H ?_ | refine lBa H ?_ | refine lPa H ?_ | refine lSa H ?_)
     have hrange:∀ y∈U.2.1,0≤y∧y < 256:=by
      obtain ⟨S1,⟨d1,c1,rest1,hm1,-⟩,-⟩:=H.pick (i:=memI bn U.2.1) (by repeat (first | exact Pick.here | apply Pick.there))
      exact hm1.hr
     have fin:∀ (qq:Option Addr) (cc:Nat) (j:It) (wx:World),(∀ w S,j.h w S→Sl w qq (u8s (putX x.at' U.2.1)))→X.Own w S (j :: row b32 (sideV bs bm bd bn r q p owned.length cq c) T.t40 :: row b34 x.cells T.t68 :: sdL bs bm bd bn { t with n:=U.2.1 } ++ [nums q cq owned,i]) wx →
      ldP ⟨b32,1,none⟩ wx fun p142 =>
       ldI .i64 ⟨b34,1,none⟩ wx fun n143 =>
       CV P F.zzdr [.pointer p142,.agg [.int .i64 (IntKind.i64.wrap (512 + n143)),.int .i64 32].toArray,.slice qq (putX x.at' U.2.1).length cc] wx fun v144 w145 =>
       ∃ n146:Int,v144 = .int .i64 n146∧∃ L',(∃ pp,Value.bool (n146 == 0) = .bool (doesM pp r owned x t).1∧L' = sdL bs bm bd bn (doesM pp r owned x t).2 ++ [nums q cq owned,i])∧X.Own w S L' w145:=by
      intro qq cc j wx hj H
      simp only [sdL,List.cons_append,List.nil_append] at H ⊢
      repeat (first | refine lIa H ?_ | refine lLa H ?_ | refine lBa H ?_ | refine lPa H ?_ | refine lSa H ?_)
      have hr2:∀ y∈putX x.at' U.2.1,0≤y∧y < 256:=by
       unfold putX
       intro y hy
       split at hy
       · exact cut_range hrange y hy
       · cases hy
      refine call_oa H (put_t bm t.m (wi (512 + x.at')) 32 (q:=qq) (c':=cc) j hj hr2) fun vx L' wx hq H=>?_
      obtain ⟨rfl,rfl⟩:=hq
      simp only [List.cons_append,List.nil_append] at H
      refine ⟨_,rfl,_,⟨0,?_,rfl⟩,?_⟩
      · rw [e]
        show Value.bool ((if putB x.at' t.m (putX x.at' U.2.1) = true then (0:Int) else 42) == 0) = .bool (putB x.at' t.m (putX x.at' U.2.1))
        cases putB x.at' t.m (putX x.at' U.2.1) <;> rfl
      · rw [e]; exact H.dp
     refine call_o H (refBytes_t bn U.2.1 (wi (512 + x.at')) 32) (by repeat (first | exact Cut.nil | (apply Cut.cons; (repeat (first | exact Pick.here | apply Pick.there))))) fun vx L' wx hq H=>?_
     cases hh:holdsB U.2.1.length (wi (512 + x.at')) 32 with
     | true =>
      rw [if_pos hh] at hq
      obtain ⟨qq,cc,rfl,rfl⟩:=hq
      simp only [List.cons_append,List.nil_append] at H
      refine ⟨_,_,_,_,rfl,?_⟩
      have ex:putX x.at' U.2.1 = cut U.2.1 (wi (512 + x.at')).toNat 32:=by unfold putX; rw [if_pos hh]
      have hlen:(putX x.at' U.2.1).length = 32:=by
       have:=(H.sl (e:=tByte) (p:=qq) (n:=32) (c:=cc) (xs:=u8s (cut U.2.1 (wi (512 + x.at')).toNat 32)) (by repeat (first | exact Pick.here | apply Pick.there))).2
       rw [ex]; unfold u8s at this; simpa using this
      have:=fin qq cc (own tByte 1 (.slice qq 32 cc) 32 (u8s (putX x.at' U.2.1))) _ own_sl (by rw [ex]; exact H.dp)
      rw [hlen] at this
      exact this
     | false =>
      rw [if_neg (by rw [hh]; simp)] at hq
      obtain ⟨rfl,rfl⟩:=hq
      simp only [List.cons_append,List.nil_append] at H
      refine ⟨_,_,_,_,rfl,?_⟩
      have ex:putX x.at' U.2.1 = []:=by unfold putX; rw [if_neg (by rw [hh]; simp)]
      have:=fin none 0 (own tByte 1 (.slice none 0 0) 0 []) _ (by rw [ex]; exact own_sl) (own_nil (H.dp))
      rw [ex] at this
      exact this
 · have h:x.d≠1:=by simpa using h
   have h2:x.d≠2:=by simpa using h2
   have h3:x.d = 3:=by simpa using h3
   repeat (first | refine lIa H ?_ | refine lLa H ?_ | refine lBa H ?_ | refine lPa H ?_ | refine lSa H ?_)
   refine call_oa H (VStep_t bs bm t.s t.m r (nums q cq owned) nums_sl hl gs.fits (by omega)) fun vx L' wx hq H=>?_
   obtain ⟨pp,q1,c1,rfl,rfl⟩:=hq
   simp only [List.cons_append,List.nil_append] at H
   have e:doesM pp r owned x t = (decide ((vstepM t.s t.m r owned pp).1 = (rstepM t.d t.n r owned).1) && (decide ((vstepM t.s t.m r owned pp).2.1 = (rstepM t.d t.n r owned).2.1) && ((vstepM t.s t.m r owned pp).2.2.2 == (rstepM t.d t.n r owned).2.2.2)),{ t with s:=(vstepM t.s t.m r owned pp).2.2.1,d:=(rstepM t.d t.n r owned).2.2.1 }):=by unfold doesM; rw [if_neg h,if_neg h2,if_pos h3]
   refine ⟨_,_,_,_,_,_,_,_,_,_,_,_,_,rfl,alc_o H fun b171 wx H=>?_⟩
   iterate 9 refine sta H fun wx H=>?_
   repeat (first | refine lIa H ?_ | refine lLa H ?_ | refine lBa H ?_ | refine lPa H ?_ | refine lSa H ?_)
   refine call_oa H (RStep_t bd bn t.d t.n r i hi hl gd.fits gd.sq) fun vx L' wx hq H=>?_
   obtain ⟨q2,c2,rfl,rfl⟩:=hq
   simp only [List.cons_append,List.nil_append] at H
   refine ⟨_,_,_,_,_,_,_,_,_,_,_,_,_,rfl,alc_o H fun b206 wx H=>?_⟩
   iterate 9 refine sta H fun wx H=>?_
   refine join_o ?_
   repeat (first | refine lIa H ?_ | refine lLa H ?_ | refine lBa H ?_ | refine lPa H ?_ | refine lSa H ?_)
   refine cm_eq (c:=(vstepM t.s t.m r owned pp).1) (d:=(rstepM t.d t.n r owned).1) ?_
   unfold zzhR
   refine cnd_i (fun hb=>?_) fun hb=>?_
   · have hlen:(vstepM t.s t.m r owned pp).2.1.length < 9223372036854775807:=by have:=step_len (bs:=t.m) (r:=r) (owned:=owned) (p:=pp) gs; omega
     refine call_oa H (same_t (p:=q1) (q:=q2) (c:=c1) (e:=c2) (ys:=(rstepM t.d t.n r owned).2.1) hlen) fun vx L' wx hq H=>?_
     obtain ⟨rfl,rfl⟩:=hq
     simp only [List.cons_append,List.nil_append] at H
     refine ⟨_,rfl,cnd_i (fun hc=>?_) fun hc=>?_⟩
     · refine ⟨_,⟨pp,?_,rfl⟩,?_⟩
       · rw [e,hb,hc,Bool.true_and,Bool.true_and]
       · rw [e]; exact H.dp
     · refine ⟨_,⟨pp,?_,rfl⟩,?_⟩
       · rw [e,hb,hc,Bool.true_and,Bool.false_and]
       · rw [e]; exact H.dp
   · refine ⟨_,⟨pp,?_,rfl⟩,?_⟩
     · rw [e,hb,Bool.false_and]
     · rw [e]; exact H.dp
 · have h:x.d≠1:=by simpa using h
   have h2:x.d≠2:=by simpa using h2
   have h3:x.d≠3:=by simpa using h3
   have h4:x.d = 4:=by simpa using h4
   have e:doesM 0 r owned x t = ((vwriteM t.s x.at' (wideM x) x.v r).2 == (rwriteM t.d x.at' (wideM x) x.v r).2,{ t with s:=(vwriteM t.s x.at' (wideM x) x.v r).1,d:=(rwriteM t.d x.at' (wideM x) x.v r).1 }):=by unfold doesM; rw [if_neg h,if_neg h2,if_neg h3,if_pos h4]
   refine drw_o H fun wx H=>?_
   repeat (first | refine lIa H ?_ | refine lLa H ?_ | refine lBa H ?_ | refine lPa H ?_ | refine lSa H ?_)
   refine call_pa H (wide_t x) fun wx H=>?_
   refine ⟨_,rfl,?_⟩
   refine ⟨by (repeat (first | refine lIa H ?_ | refine lLa H ?_ | refine lBa H ?_ | refine lPa H ?_ | refine lSa H ?_)); rfl,?_⟩
   refine ⟨by (repeat (first | refine lIa H ?_ | refine lLa H ?_ | refine lBa H ?_ | refine lPa H ?_ | refine lSa H ?_)); rfl,?_⟩
   refine ⟨by (repeat (first | refine lIa H ?_ | refine lLa H ?_ | refine lBa H ?_ | refine lPa H ?_ | refine lSa H ?_)); rfl,?_⟩
   refine ⟨by (repeat (first | refine lIa H ?_ | refine lLa H ?_ | refine lBa H ?_ | refine lPa H ?_ | refine lSa H ?_)); rfl,?_⟩
   refine ⟨by (repeat (first | refine lIa H ?_ | refine lLa H ?_ | refine lBa H ?_ | refine lPa H ?_ | refine lSa H ?_)); rfl,?_⟩
   refine ⟨by (repeat (first | refine lIa H ?_ | refine lLa H ?_ | refine lBa H ?_ | refine lPa H ?_ | refine lSa H ?_)); rfl,?_⟩
   refine ⟨by (repeat (first | refine lIa H ?_ | refine lLa H ?_ | refine lBa H ?_ | refine lPa H ?_ | refine lSa H ?_)); rfl,?_⟩
   refine ⟨by (repeat (first | refine lIa H ?_ | refine lLa H ?_ | refine lBa H ?_ | refine lPa H ?_ | refine lSa H ?_)); rfl,?_⟩
   refine ⟨by (repeat (first | refine lIa H ?_ | refine lLa H ?_ | refine lBa H ?_ | refine lPa H ?_ | refine lSa H ?_)); rfl,?_⟩
   refine call_oa H (VWrite_t bs t.s x.at' (wideM x) x.v r (po:=q) (no:=owned.length) (co:=cq)) fun vx L' wx hq H=>?_
   obtain ⟨rfl,rfl⟩:=hq
   simp only [List.cons_append,List.nil_append] at H
   refine ⟨_,rfl,?_⟩
   refine ⟨by (repeat (first | refine lIa H ?_ | refine lLa H ?_ | refine lBa H ?_ | refine lPa H ?_ | refine lSa H ?_)); rfl,?_⟩
   refine ⟨by (repeat (first | refine lIa H ?_ | refine lLa H ?_ | refine lBa H ?_ | refine lPa H ?_ | refine lSa H ?_)); rfl,?_⟩
   refine ⟨by (repeat (first | refine lIa H ?_ | refine lLa H ?_ | refine lBa H ?_ | refine lPa H ?_ | refine lSa H ?_)); rfl,?_⟩
   refine ⟨by (repeat (first | refine lIa H ?_ | refine lLa H ?_ | refine lBa H ?_ | refine lPa H ?_ | refine lSa H ?_)); rfl,?_⟩
   refine ⟨by (repeat (first | refine lIa H ?_ | refine lLa H ?_ | refine lBa H ?_ | refine lPa H ?_ | refine lSa H ?_)); rfl,?_⟩
   refine call_pa H (wide_t x) fun wx H=>?_
   refine ⟨_,rfl,?_⟩
   refine ⟨by (repeat (first | refine lIa H ?_ | refine lLa H ?_ | refine lBa H ?_ | refine lPa H ?_ | refine lSa H ?_)); rfl,?_⟩
   refine ⟨by (repeat (first | refine lIa H ?_ | refine lLa H ?_ | refine lBa H ?_ | refine lPa H ?_ | refine lSa H ?_)); rfl,?_⟩
   refine ⟨by (repeat (first | refine lIa H ?_ | refine lLa H ?_ | refine lBa H ?_ | refine lPa H ?_ | refine lSa H ?_)); rfl,?_⟩
   refine ⟨by (repeat (first | refine lIa H ?_ | refine lLa H ?_ | refine lBa H ?_ | refine lPa H ?_ | refine lSa H ?_)); rfl,?_⟩
   refine call_oa H (RWrite_t bd t.d x.at' (wideM x) x.v r (po:=p) (no:=owned.length) (co:=c) gd.sq) fun vx L' wx hq H=>?_
   obtain ⟨rfl,rfl⟩:=hq
   simp only [List.cons_append,List.nil_append] at H
   refine ⟨_,rfl,_,⟨0,?_,rfl⟩,?_⟩
   · rw [e]
   · rw [e]; exact H.dp
 · have h:x.d≠1:=by simpa using h
   have h2:x.d≠2:=by simpa using h2
   have h3:x.d≠3:=by simpa using h3
   have h4:x.d≠4:=by simpa using h4
   have e:doesM 0 r owned x t = (true,t):=by unfold doesM; rw [if_neg h,if_neg h2,if_neg h3,if_neg h4]
   refine ⟨_,⟨0,?_,rfl⟩,?_⟩
   · rw [e]
   · rw [e]; exact H.dp
theorem VNum.step {r:Ru} {s:Vi} {bs:List Int} {owned:List Int} {p:Nat} (hv:0 < r.vcpus) (n:VNum r s) (g:VGood s):VNum r (vstepM s bs r owned p).2.2.1:=by
 have hs:=stp s bs r owned p
 have hn:=NT.vdo (c:=(headQ s.q bs).1) (owned:=owned) (p:=p) hv n g
 generalize vstepM s bs r owned p = M at *
 cases hs with
 | off=>exact n
 | st=>exact n
 | fit=>exact n.like rfl rfl
 | empty=>exact n
 | head=>exact n.like rfl rfl
 | err=>exact n.like rfl rfl
 | ok=>exact hn.1.like rfl rfl
theorem VNum.write {r:Ru} {s:Vi} {off width v:Int} (n:VNum r s):VNum r (vwriteM s off width v r).1:=by
 unfold vwriteM
 generalize itsM off width = I
 refine ite_p (fun A:Vi×Int=>VNum r A.1) (fun _=>n) fun _=>?_
 refine ite_p (fun A:Vi×Int=>VNum r A.1) (fun _=>n.like rfl rfl) fun _=>?_
 refine ite_p (fun A:Vi×Int=>VNum r A.1) (fun _=>?_) fun _=>?_
 · show VNum r (if s.on then s else rebM s v r)
   cases s.on
   · exact n.like (reb_same s v r).1 (reb_same s v r).2
   · exact n
 refine ite_p (fun A:Vi×Int=>VNum r A.1) (fun _=>?_) fun _=>n
 show VNum r (stop1 v (if s.fit then { s with q:=(setQ s.q (wi (bitX .and .u64 v 1048544))).1 } else s))
 cases s.fit
 · exact n.like rfl rfl
 · exact n.like rfl rfl
structure SdOk (r:Ru) (t:Sd):Prop where
 vg:VGood t.s
 rg:RGood t.d
 vq:VQ t.s
 vn:VNum r t.s
abbrev I64 (n:Int):Prop:=-9223372036854775808≤n∧n≤9223372036854775807
def Cm.Fit (c:Cm):Prop:=I64 c.op∧I64 c.dev∧I64 c.ev∧I64 c.num∧I64 c.coll∧I64 c.tgt∧I64 c.bits∧I64 c.addr
def Ac.Fit (x:Ac):Prop:=I64 x.d∧I64 x.at'∧x.c.Fit∧0≤x.v∧x.v < 18446744073709551616
theorem SdOk.does {r:Ru} {t:Sd} {owned:List Int} {x:Ac} {p:Nat} (h:SdOk r t) (hv:0 < r.vcpus) (hx:x.Fit):SdOk r (doesM p r owned x t).2:=by
 obtain ⟨g1,g2,g3,g4⟩:=h
 obtain ⟨-,-,⟨-,-,-,-,-,-,-,hI⟩,v0,v1⟩:=hx
 unfold doesM
 refine ite_p (fun A:Bool×Sd=>SdOk r A.2) (fun _=>⟨g1.vdo,g2.vdo hI,g3.hd (vdo_hd _ _ _ _ _),(NT.vdo hv g4 g1).1⟩) fun _=>?_
 refine ite_p (fun A:Bool×Sd=>SdOk r A.2) (fun _=>?_) fun _=>?_
 · exact ite_p (fun A:Bool×Sd=>SdOk r A.2) (fun _=>⟨g1,g2,g3,g4⟩) fun _=>⟨g1,g2,g3,g4⟩
 refine ite_p (fun A:Bool×Sd=>SdOk r A.2) (fun _=>⟨g1.step,g2.step,g3.step,g4.step hv g1⟩) fun _=>?_
 exact ite_p (fun A:Bool×Sd=>SdOk r A.2) (fun _=>⟨g1.write,g2.write,g3.write v0 v1,g4.write⟩) fun _=>⟨g1,g2,g3,g4⟩
def sd0:Sd:=⟨vi0,List.replicate 4096 0,rv0,List.replicate 4096 0⟩
theorem sdok0 (r:Ru):SdOk r sd0:=⟨vgood0,rgood0,vq0,vnum0 r⟩
theorem ruA_vcpus {a b:Int} (ha:0≤a∧a≤255) (hb:0≤b∧b≤255):(ruA a b).vcpus = 1 + a % 4∧(ruA a b).lpis = b % 50:=by
 unfold ruA
 have h1:Int.tmod a 4 = a % 4:=Int.tmod_eq_emod_of_nonneg ha.1
 have h2:Int.tmod b 50 = b % 50:=Int.tmod_eq_emod_of_nonneg hb.1
 dsimp only
 rw [h1,h2]
 constructor
 · rw [W_id (n:=a % 4) (by omega) (by omega)]; exact W_id (by omega) (by omega)
 · exact W_id (by omega) (by omega)
theorem sh_cm {w:World} (f:Nat) (cs:List Value) (h:Sh P w 0 f 26 cs):∃ x:Cm,cs = x.cells∧x.Fit:=by
 cases f with
 | zero=>exact h.elim
 | succ f =>
  unfold Sh at h
  rw [Tryz.underlying26] at h
  obtain ⟨hl,h⟩:=h
  have hc:P.cellsOf 26 = 9:=by kernel_rfl
  have hc3:P.cellsOf 3 = 1:=by kernel_rfl
  have hc4:P.cellsOf 4 = 1:=by kernel_rfl
  have hc24:P.cellsOf 24 = 1:=by kernel_rfl
  rw [hc] at hl
  match cs,hl with
  | [y0,y1,y2,y3,y4,y5,y6,y7,y8],_ =>
   obtain ⟨a0,h0,g0⟩:=sh_num Tryz.underlying24 _ _ (h 0 _ rfl)
   obtain ⟨a1,h1,g1⟩:=sh_num Tryz.underlying3 _ _ (h 1 _ rfl)
   obtain ⟨a2,h2,g2⟩:=sh_num Tryz.underlying3 _ _ (h 2 _ rfl)
   obtain ⟨a3,h3,g3⟩:=sh_num Tryz.underlying3 _ _ (h 3 _ rfl)
   obtain ⟨a4,h4,g4⟩:=sh_num Tryz.underlying3 _ _ (h 4 _ rfl)
   obtain ⟨a5,h5,g5⟩:=sh_num Tryz.underlying3 _ _ (h 5 _ rfl)
   obtain ⟨a6,h6,g6⟩:=sh_num Tryz.underlying3 _ _ (h 6 _ rfl)
   obtain ⟨a7,h7,g7⟩:=sh_num Tryz.underlying3 _ _ (h 7 _ rfl)
   obtain ⟨a8,h8,_⟩:=sh_bool Tryz.underlying4 _ _ (h 8 _ rfl)
   simp [hc3,hc4,hc24] at h0 h1 h2 h3 h4 h5 h6 h7 h8
   exact ⟨⟨a0,a1,a2,a3,a4,a5,a6,a7,a8⟩,by rw [h0,h1,h2,h3,h4,h5,h6,h7,h8]; rfl,wf_i64 g0,wf_i64 g1,wf_i64 g2,wf_i64 g3,wf_i64 g4,wf_i64 g5,wf_i64 g6,wf_i64 g7⟩
theorem wf_u64 {x:Int} (h:(Lit.int .u64 x).wf = true):0≤x∧x < 18446744073709551616:=by
 simp [Lit.wf,IntKind.min,IntKind.max,IntKind.signed,IntKind.bits] at h; omega
theorem sh_ac {w:World} (f:Nat) (cs:List Value) (h:Sh P w 0 f 68 cs):∃ x:Ac,cs = x.cells∧x.Fit:=by
 cases f with
 | zero=>exact h.elim
 | succ f =>
  unfold Sh at h
  rw [Tryz.underlying68] at h
  obtain ⟨hl,h⟩:=h
  have hc:P.cellsOf 68 = 13:=by kernel_rfl
  have hc3:P.cellsOf 3 = 1:=by kernel_rfl
  have hc4:P.cellsOf 4 = 1:=by kernel_rfl
  have hc26:P.cellsOf 26 = 9:=by kernel_rfl
  have hc61:P.cellsOf 61 = 1:=by kernel_rfl
  rw [hc] at hl
  match cs,hl with
  | [y0,y1,y2,y3,y4,y5,y6,y7,y8,y9,y10,y11,y12],_ =>
   obtain ⟨a0,h0,g0⟩:=sh_num Tryz.underlying3 _ _ (h 0 _ rfl)
   obtain ⟨a1,h1,g1⟩:=sh_num Tryz.underlying3 _ _ (h 1 _ rfl)
   obtain ⟨c,h2,g2⟩:=sh_cm _ _ (h 2 _ rfl)
   obtain ⟨a3,h3,_⟩:=sh_bool Tryz.underlying4 _ _ (h 3 _ rfl)
   obtain ⟨a4,h4,g4⟩:=sh_num Tryz.underlying61 _ _ (h 4 _ rfl)
   have e2:[y2,y3,y4,y5,y6,y7,y8,y9,y10] = c.cells:=by rw [← h2]; simp [hc26]
   simp [hc3,hc4,hc61] at h0 h1 h3 h4
   refine ⟨⟨a0,a1,c,a3,a4⟩,?_,wf_i64 g0,wf_i64 g1,g2,wf_u64 g4⟩
   show _ = .int .i64 a0 :: .int .i64 a1 :: (c.cells ++ [.bool a3,.int .u64 a4])
   rw [← e2,h0,h1,h3,h4]; rfl
theorem sh_acts {w:World} {fuel:Nat} {v:Value} (h:Sh P w 0 fuel 23 [v]) :
 ∃ q c,∃ xs:List Ac,v = .slice q xs.length c∧xs.length≤9223372036854775807∧(∀ x∈xs,x.Fit)∧Slots w q 13 (xs.map Ac.cells) :=
 sh_slice Tryz.underlying23 (by kernel_rfl) sh_ac h
theorem sh_ints {w:World} {fuel:Nat} {v:Value} (h:Sh P w 0 fuel 22 [v]):∃ q c,∃ xs:List Int,v = .slice q xs.length c∧Sl w q (i64s xs)∧xs.length * 8≤140737488355328:=by
 have hb:P.bytesOf 3 = 8:=by kernel_rfl
 have hcap:∀ q n c,v = .slice q n c→n * 8≤140737488355328:=by
  intro q n c hv
  cases fuel with
  | zero=>exact h.elim
  | succ f =>
   unfold Sh at h
   rw [Tryz.underlying22] at h
   rcases h with h | ⟨a,len,cap,h1,h2,h3,h4,_⟩
   · simp only [List.cons.injEq,and_true] at h
     rw [h] at hv; cases hv; omega
   · simp only [List.cons.injEq,and_true] at h1
     rw [h1] at hv; cases hv
     rw [hb] at h4
     have h4:=Nat.le_trans h4 (show reachBytes≤140737488355328 by decide)
     exact h4
 obtain ⟨q,c,xs,e,_,_,h3⟩:=sh_slice (mk:=fun x:Int=>[Value.int .i64 x]) (Good:=fun _=>True) Tryz.underlying22 (by kernel_rfl) (fun f cs h=>by
  obtain ⟨x,hx,_⟩:=sh_num Tryz.underlying3 f cs h
  exact ⟨x,hx,trivial⟩) h
 refine ⟨q,c,xs,e,Slots.sl ?_,hcap _ _ _ e⟩
 unfold i64s
 rw [List.map_map]; exact h3
theorem posL_in {α:Type} {p:α→Bool} {l:List α}:(0≤posL p l↔∃ x∈l,p x = true):=by
 rcases posL_cases p l with ⟨h,hno⟩ | ⟨k,h,hk,hp,_⟩
 · rw [h]
   constructor
   · intro hh; omega
   · rintro ⟨x,hx,hp⟩; rw [hno x hx] at hp; cases hp
 · rw [h]
   exact ⟨fun _=>⟨l[k],List.getElem_mem hk,hp⟩,fun _=>by omega⟩
theorem posL_get {α:Type} {p:α→Bool} {l:List α} (h:0≤posL p l):∃ x,l[(posL p l).toNat]? = some x∧p x = true:=by
 rcases posL_cases p l with ⟨h1,hno⟩ | ⟨k,h1,hk,hp,_⟩
 · omega
 · rw [h1,Int.toNat_natCast]
   exact ⟨l[k],List.getElem?_eq_getElem hk,hp⟩
def dOf (d:Rv) (dev:Int):Option Int:=if 0≤atR d dev then d.bits[(atR d dev).toNat]? else none
def xOf (d:Rv) (dev ev:Int):Option Rr:=if 0≤findR d dev ev then d.routes[(findR d dev ev).toNat]? else none
def cOf (d:Rv) (c:Int):Option Int:=if 0≤c∧c < 8∧0≤d.colls.getD c.toNat 0 then some (d.colls.getD c.toNat 0) else none
def rtO (x:Rr):RtE:=⟨x.num,x.coll,true⟩
structure Rel (s:Vi) (d:Rv):Prop where
 hd:d.head = (s.on,s.st,s.fit,s.base,s.q)
 dev:∀ dev,(lk s.devs dev).map DvI.bits = dOf d dev
 ev:∀ dev ev,evOf s dev ev = (xOf d dev ev).map rtO
 coll:∀ c,lk s.colls c = cOf d c
 c8:d.colls.length = 8
section
variable {s:Vi} {d:Rv}
theorem x_of {dev ev:Int} {x:Rr} (h:xOf d dev ev = some x):x∈d.routes∧x.dev = dev∧x.ev = ev∧0≤findR d dev ev:=by
 unfold xOf at h
 by_cases hf:0≤findR d dev ev
 · rw [if_pos hf] at h
   obtain ⟨y,hy,hp⟩:=posL_get (p:=fun x:Rr=>x.dev == dev && x.ev == ev) (l:=d.routes) hf
   have h:d.routes[(posL (fun x:Rr=>x.dev == dev && x.ev == ev) d.routes).toNat]? = some x:=h
   rw [hy] at h
   cases h
   simp only [Bool.and_eq_true,beq_iff_eq] at hp
   exact ⟨List.mem_of_getElem? hy,hp.1,hp.2,hf⟩
 · rw [if_neg hf] at h; cases h
theorem x_no {dev ev:Int}:xOf d dev ev = none↔findR d dev ev < 0:=by
 unfold xOf
 by_cases hf:0≤findR d dev ev
 · rw [if_pos hf]
   obtain ⟨y,hy,hp⟩:=posL_get (p:=fun x:Rr=>x.dev == dev && x.ev == ev) (l:=d.routes) hf
   have hy:d.routes[(findR d dev ev).toNat]? = some y:=hy
   rw [hy]
   constructor
   · intro h; cases h
   · intro h; omega
 · rw [if_neg hf]
   exact ⟨fun _=>by omega,fun _=>rfl⟩
theorem x_getD {dev ev:Int} {x:Rr} (h:xOf d dev ev = some x):d.routes.getD (findR d dev ev).toNat rr0 = x:=by
 have hf:=(x_of h).2.2.2
 unfold xOf at h
 rw [if_pos hf] at h
 rw [List.getD_eq_getElem?_getD,h]; rfl
theorem x_iff (g:RGood d) {dev ev:Int} {x:Rr}:xOf d dev ev = some x↔x∈d.routes∧x.dev = dev∧x.ev = ev:=by
 constructor
 · intro h; have:=x_of h; exact ⟨this.1,this.2.1,this.2.2.1⟩
 · rintro ⟨hm,rfl,rfl⟩
   cases h:xOf d x.dev x.ev with
   | none =>
    have:=x_no.1 h
    have h2:0≤findR d x.dev x.ev:=posL_in.2 ⟨x,hm,by simp⟩
    omega
   | some y =>
    obtain ⟨h1,h2,h3,-⟩:=x_of h
    obtain ⟨i,hi,ei⟩:=List.mem_iff_getElem.1 h1
    obtain ⟨j,hj,ej⟩:=List.mem_iff_getElem.1 hm
    have hn:=List.pairwise_iff_getElem.1 g.rnd
    have hkey:∀ (i j:Nat) (hi:i < d.routes.length) (hj:j < d.routes.length),i < j→(d.routes[i].dev * 16 + d.routes[i].ev)≠d.routes[j].dev * 16 + d.routes[j].ev:=by
     intro i j hi hj hij
     have:=hn i j (by rw [List.length_map]; exact hi) (by rw [List.length_map]; exact hj) hij
     simpa using this
    have:i = j:=by
     rcases Nat.lt_trichotomy i j with h4 | h4 | h4
     · exfalso; apply hkey i j hi hj h4; rw [ei,ej,h2,h3]
     · exact h4
     · exfalso; apply hkey j i hj hi h4; rw [ei,ej,h2,h3]
    subst this
    rw [← ei,← ej]
theorem d_no {dev:Int} (g:RGood d):dOf d dev = none↔atR d dev < 0:=by
 unfold dOf
 by_cases hf:0≤atR d dev
 · rw [if_pos hf]
   obtain ⟨y,hy,hp⟩:=posL_get (p:=fun x=>x == dev) (l:=d.devs) hf
   have hk:(atR d dev).toNat < d.devs.length:=(List.getElem?_eq_some_iff.1 hy).1
   rw [List.getElem?_eq_getElem (by rw [← g.len]; exact hk)]
   constructor
   · intro h; cases h
   · intro h; omega
 · rw [if_neg hf]
   exact ⟨fun _=>by omega,fun _=>rfl⟩
theorem d_getD {dev b:Int} (h:dOf d dev = some b):d.bits.getD (atR d dev).toNat 0 = b:=by
 unfold dOf at h
 by_cases hf:0≤atR d dev
 · rw [if_pos hf] at h
   rw [List.getD_eq_getElem?_getD,h]; rfl
 · rw [if_neg hf] at h; cases h
theorem d_iff (g:RGood d) {dev b:Int}:dOf d dev = some b↔∃ i:Nat,d.devs[i]? = some dev∧d.bits[i]? = some b:=by
 constructor
 · intro h
   unfold dOf at h
   by_cases hf:0≤atR d dev
   · rw [if_pos hf] at h
     obtain ⟨y,hy,hp⟩:=posL_get (p:=fun x=>x == dev) (l:=d.devs) hf
     have hp:y = dev:=by simpa using hp
     subst hp
     exact ⟨_,hy,h⟩
   · rw [if_neg hf] at h; cases h
 · rintro ⟨i,h1,h2⟩
   have hf:0≤atR d dev:=posL_in.2 ⟨dev,List.mem_of_getElem? h1,by simp⟩
   unfold dOf
   rw [if_pos hf]
   obtain ⟨y,hy,hp⟩:=posL_get (p:=fun x=>x == dev) (l:=d.devs) hf
   have hp:y = dev:=by simpa using hp
   subst hp
   obtain ⟨hi,ei⟩:=List.getElem?_eq_some_iff.1 h1
   obtain ⟨hj,ej⟩:=List.getElem?_eq_some_iff.1 hy
   have hn:=List.pairwise_iff_getElem.1 g.nd
   have:(atR d y).toNat = i:=by
    rcases Nat.lt_trichotomy (atR d y).toNat i with h4 | h4 | h4
    · exact absurd (ej.trans ei.symm) (hn _ _ hj hi h4)
    · exact h4
    · exact absurd (ei.trans ej.symm) (hn _ _ hi hj h4)
   rw [this]; exact h2
theorem d_mem (g:RGood d) {dev:Int}:dev∈d.devs↔dOf d dev≠none:=by
 rw [ne_eq,d_no g]
 constructor
 · intro h
   have:0≤atR d dev:=posL_in.2 ⟨dev,h,by simp⟩
   omega
 · intro h
   have:0≤atR d dev:=by omega
   obtain ⟨x,hx,hp⟩:=posL_in.1 this
   have:x = dev:=by simpa using hp
   rw [← this]; exact hx
end
section
variable {s:Vi} {d:Rv}
theorem Rel.goes (r:Rel s d) (c:Int):goesM s.colls c = goesR d c:=by
 have h:=r.coll c
 unfold goesM goesR
 unfold cOf at h
 by_cases hc:0≤c∧c < 8∧0≤d.colls.getD c.toNat 0
 · rw [if_pos hc] at h ⊢
   rw [has_of h,if_pos rfl,get_of h]
 · rw [if_neg hc] at h ⊢
   rw [hasnt_of h,if_neg (by simp)]
theorem Rel.has (r:Rel s d) (g:RGood d) (dev:Int):hasK s.devs dev = decide (0≤atR d dev):=by
 have h:=r.dev dev
 cases hl:lk s.devs dev with
 | none =>
  rw [hl] at h
  have:=(d_no g).1 h.symm
  rw [hasnt_of hl,decide_eq_false (by omega)]
 | some x =>
  rw [hl] at h
  have h2:¬ (atR d dev < 0):=fun hh=>by rw [(d_no g).2 hh] at h; cases h
  rw [has_of hl,decide_eq_true (by omega)]
theorem Rel.event (r:Rel s d) (g:RGood d) (dev ev:Int):eventR d dev ev = (match lk s.devs dev with | none=>(rr0,181) | some _=>match xOf d dev ev with | none=>(rr0,182) | some x=>(x,0)):=by
 have h:=r.dev dev
 unfold eventR
 cases hl:lk s.devs dev with
 | none =>
  rw [hl] at h
  rw [if_pos ((d_no g).1 h.symm)]
 | some y =>
  rw [hl] at h
  have h2:¬ (atR d dev < 0):=fun hh=>by rw [(d_no g).2 hh] at h; cases h
  rw [if_neg h2]
  cases hx:xOf d dev ev with
  | none=>rw [if_pos (x_no.1 hx)]
  | some x =>
   have:=(x_of hx).2.2.2
   rw [if_neg (by omega),x_getD hx]
theorem Rel.route (r:Rel s d) (g:RGood d) (dev ev:Int):routeM s dev ev = routeR d dev ev:=by
 have he:=r.event g dev ev
 unfold routeR
 rw [he]
 cases hl:lk s.devs dev with
 | none =>
  dsimp only
  unfold routeM
  rw [hasnt_of hl,if_neg (by simp),if_pos (by omega)]
 | some y =>
  have hh:=has_of hl
  have hdv:s.dev dev = y:=by have:=dev_lk hh; rw [hl] at this; exact (Option.some.inj this).symm
  have h2:=r.ev dev ev
  rw [evOf_has hh] at h2
  cases hx:xOf d dev ev with
  | none =>
   dsimp only
   rw [hx] at h2
   unfold routeM
   rw [hh,if_pos rfl,hasnt_of h2,if_neg (by simp),if_pos (by omega)]
  | some x =>
   dsimp only
   rw [hx] at h2
   have h3:lk (s.dev dev).evs ev = some (rtO x):=h2
   have hg:=r.goes x.coll
   unfold routeM
   rw [hh,if_pos rfl,has_of h3,if_pos rfl,get_of h3,if_neg (show ¬ ((0:Int)≠0) by omega)]
   show (if hasK s.colls x.coll = true then (rtO x,getK 0 s.colls x.coll,0) else (rt0,0,183)) = _
   rw [← hg]
   unfold goesM
   cases hc:hasK s.colls x.coll with
   | true=>rfl
   | false=>rfl
theorem Rel.bind (r:Rel s d) (g:RGood d) (dev ev:Int):boundM s dev ev = bindR d dev ev:=by
 unfold boundM bindR
 rw [r.route g]
end
section
variable {s:Vi} {d:Rv}
theorem keys_apart (g:RGood d) {i j:Nat} (hi:i < d.routes.length) (hj:j < d.routes.length) (hd:d.routes[i].dev = d.routes[j].dev) (he:d.routes[i].ev = d.routes[j].ev):i = j:=by
 have hn:=List.pairwise_iff_getElem.1 g.rnd
 have hkey:∀ (i j:Nat) (hi:i < d.routes.length) (hj:j < d.routes.length),i < j→(d.routes[i].dev * 16 + d.routes[i].ev)≠d.routes[j].dev * 16 + d.routes[j].ev:=by
  intro i j hi hj hij
  have:=hn i j (by rw [List.length_map]; exact hi) (by rw [List.length_map]; exact hj) hij
  simpa using this
 rcases Nat.lt_trichotomy i j with h | h | h
 · exfalso; apply hkey i j hi hj h; rw [hd,he]
 · exact h
 · exfalso; apply hkey j i hj hi h; rw [hd,he]
theorem forg_mem (g:RGood d) {dev ev:Int} {x:Rr}:x∈(rforgS d dev ev).routes↔x∈d.routes∧¬ (x.dev = dev∧x.ev = ev):=by
 show x∈dropAt (findR d dev ev) d.routes↔_
 unfold dropAt
 by_cases hf:findR d dev ev < 0
 · rw [if_pos hf]
   refine ⟨fun h=>⟨h,fun he=>?_⟩,fun h=>h.1⟩
   have:0≤findR d dev ev:=posL_in.2 ⟨x,h,by simp [he.1,he.2]⟩
   omega
 · rw [if_neg hf]
   obtain ⟨y,hy,hp⟩:=posL_get (p:=fun x:Rr=>x.dev == dev && x.ev == ev) (l:=d.routes) (by unfold findR at hf; omega)
   have hy:d.routes[(findR d dev ev).toNat]? = some y:=hy
   obtain ⟨hk,ek⟩:=List.getElem?_eq_some_iff.1 hy
   simp only [Bool.and_eq_true,beq_iff_eq] at hp
   rw [List.mem_eraseIdx_iff_getElem]
   constructor
   · rintro ⟨j,hj,hne,rfl⟩
     exact ⟨List.getElem_mem hj,fun he=>hne (keys_apart g hj hk (by rw [ek,he.1,hp.1]) (by rw [ek,he.2,hp.2]))⟩
   · rintro ⟨hm,hne⟩
     obtain ⟨j,hj,rfl⟩:=List.mem_iff_getElem.1 hm
     refine ⟨j,hj,?_,rfl⟩
     rintro rfl
     exact hne (by rw [ek]; exact hp)
theorem set_mem (g:RGood d) {x y:Rr}:y∈(rsetS d x).routes↔y = x∨(y∈d.routes∧¬ (y.dev = x.dev∧y.ev = x.ev)):=by
 show y∈(if 0≤findR d x.dev x.ev then d.routes.set (findR d x.dev x.ev).toNat x else d.routes ++ [x])↔_
 by_cases hf:0≤findR d x.dev x.ev
 · rw [if_pos hf]
   obtain ⟨z,hz,hp⟩:=posL_get (p:=fun z:Rr=>z.dev == x.dev && z.ev == x.ev) (l:=d.routes) hf
   have hz:d.routes[(findR d x.dev x.ev).toNat]? = some z:=hz
   obtain ⟨hk,ek⟩:=List.getElem?_eq_some_iff.1 hz
   simp only [Bool.and_eq_true,beq_iff_eq] at hp
   generalize (findR d x.dev x.ev).toNat = k at *
   constructor
   · intro hm
     obtain ⟨j,hj,rfl⟩:=List.mem_iff_getElem.1 hm
     rw [List.length_set] at hj
     rw [List.getElem_set]
     by_cases hkj:k = j
     · rw [if_pos hkj]; exact .inl rfl
     · rw [if_neg hkj]
       exact .inr ⟨List.getElem_mem hj,fun he=>hkj (keys_apart g hk hj (by rw [ek,he.1,hp.1]) (by rw [ek,he.2,hp.2]))⟩
   · rintro (rfl | ⟨hm,hne⟩)
     · exact List.mem_iff_getElem.2 ⟨k,by rw [List.length_set]; exact hk,by rw [List.getElem_set_self]⟩
     · obtain ⟨j,hj,rfl⟩:=List.mem_iff_getElem.1 hm
       refine List.mem_iff_getElem.2 ⟨j,by rw [List.length_set]; exact hj,?_⟩
       rw [List.getElem_set,if_neg]
       rintro rfl
       exact hne (by rw [ek]; exact hp)
 · rw [if_neg hf,List.mem_append,List.mem_singleton]
   constructor
   · rintro (h | rfl)
     · refine .inr ⟨h,fun he=>hf (posL_in.2 ⟨y,h,by simp [he.1,he.2]⟩)⟩
     · exact .inl rfl
   · rintro (rfl | ⟨h,-⟩)
     · exact .inr rfl
     · exact .inl h
theorem x_forg (g:RGood d) (dev ev dev' ev':Int):xOf (rforgS d dev ev) dev' ev' = if dev' = dev∧ev' = ev then none else xOf d dev' ev':=by
 refine Option.ext fun x=>?_
 show _ = some x↔_ = some x
 rw [x_iff (g.forg dev ev),forg_mem g]
 by_cases e:dev' = dev∧ev' = ev
 · rw [if_pos e]
   refine ⟨fun h=>absurd ?_ h.1.2,fun h=>by cases h⟩
   rw [h.2.1,h.2.2]; exact e
 · rw [if_neg e,x_iff g]
   exact ⟨fun h=>⟨h.1.1,h.2⟩,fun h=>⟨⟨h.1,by rw [h.2.1,h.2.2]; exact e⟩,h.2⟩⟩
theorem x_set (g:RGood d) {x:Rr} (hx:0≤x.dev∧x.dev < 4294967296∧0≤x.ev∧x.ev < 16) (dev ev:Int):xOf (rsetS d x) dev ev = if dev = x.dev∧ev = x.ev then some x else xOf d dev ev:=by
 refine Option.ext fun y=>?_
 show _ = some y↔_ = some y
 rw [x_iff (g.set hx),set_mem g]
 by_cases e:dev = x.dev∧ev = x.ev
 · rw [if_pos e]
   constructor
   · rintro ⟨rfl | h,h2,h3⟩
     · rfl
     · exact absurd (by rw [h2,h3]; exact e) h.2
   · intro h; cases h; exact ⟨.inl rfl,e.1.symm,e.2.symm⟩
 · rw [if_neg e,x_iff g]
   constructor
   · rintro ⟨rfl | h,h2,h3⟩
     · exact absurd ⟨h2.symm,h3.symm⟩ e
     · exact ⟨h.1,h2,h3⟩
   · rintro ⟨h1,h2,h3⟩
     exact ⟨.inr ⟨h1,by rw [h2,h3]; exact e⟩,h2,h3⟩
theorem bits_evs (v:VGood s) {dev:Int} {l:List (Int×RtE)} (h:hasK s.devs dev = true) (dev':Int):(lk (s.evs dev l).devs dev').map DvI.bits = (lk s.devs dev').map DvI.bits:=by
 rw [evs_lk v h]
 by_cases e:dev' = dev
 · subst e
   rw [if_pos rfl,dev_lk h]; rfl
 · rw [if_neg e]
theorem Rel.forget (r:Rel s d) (v:VGood s) (g:RGood d) {dev:Int} (h:hasK s.devs dev = true) (ev:Int):Rel (forgetS s dev ev) (rforgS d dev ev):=by
 refine ⟨r.hd,fun dev'=>(bits_evs v h dev').trans (r.dev dev'),fun dev' ev'=>?_,r.coll,r.c8⟩
 rw [forget_of v h,x_forg g]
 by_cases e:dev' = dev∧ev' = ev
 · rw [if_pos e,if_pos e]; rfl
 · rw [if_neg e,if_neg e]; exact r.ev dev' ev'
theorem Rel.put (r:Rel s d) (v:VGood s) (g:RGood d) {x:Rr} (h:hasK s.devs x.dev = true) (hx:0≤x.dev∧x.dev < 4294967296∧0≤x.ev∧x.ev < 16):Rel (s.evs x.dev (putK (s.dev x.dev).evs x.ev (rtO x))) (rsetS d x):=by
 refine ⟨r.hd,fun dev'=>(bits_evs v h dev').trans (r.dev dev'),fun dev' ev'=>?_,r.coll,r.c8⟩
 rw [put_of v h,x_set g hx]
 by_cases e:dev' = x.dev∧ev' = x.ev
 · rw [if_pos e,if_pos e]; rfl
 · rw [if_neg e,if_neg e]; exact r.ev dev' ev'
theorem Rel.led (r:Rel s d) (v:VGood s) {c:Cm} (hc:0≤c.coll) (h8:¬ c.coll≥8) (ht:0≤c.tgt):Rel { s with colls:=if c.val then putK s.colls c.coll c.tgt else takeK s.colls c.coll } (ledR d c):=by
 refine ⟨r.hd,r.dev,r.ev,fun k=>?_,?_⟩
 · have hl:lk (if c.val then putK s.colls c.coll c.tgt else takeK s.colls c.coll) k = if k = c.coll then (if c.val then some c.tgt else none) else lk s.colls k:=by
    cases c.val
    · exact lk_take v.cup k
    · exact lk_put v.cup k
   show lk (if c.val then putK s.colls c.coll c.tgt else takeK s.colls c.coll) k = _
   rw [hl]
   unfold cOf ledR
   dsimp only
   by_cases hk:k = c.coll
   · subst hk
     rw [if_pos rfl]
     have e:(d.colls.set c.coll.toNat (if c.val = true then c.tgt else -1)).getD c.coll.toNat 0 = if c.val = true then c.tgt else -1:=by
      rw [List.getD_eq_getElem?_getD,List.getElem?_set_self (by rw [r.c8]; omega)]; rfl
     rw [e]
     cases c.val
     · rw [if_neg (by simp)]; simp
     · simp only [if_true]; rw [if_pos ⟨hc,by omega,ht⟩]
   · rw [if_neg hk,r.coll k]
     unfold cOf
     by_cases hk2:0≤k∧k < 8
     · have e:(d.colls.set c.coll.toNat (if c.val = true then c.tgt else -1)).getD k.toNat 0 = d.colls.getD k.toNat 0:=by
        rw [List.getD_eq_getElem?_getD,List.getElem?_set_ne (by omega),List.getD_eq_getElem?_getD]
       rw [e]
     · rw [if_neg fun h=>hk2 ⟨h.1,h.2.1⟩,if_neg fun h=>hk2 ⟨h.1,h.2.1⟩]
 · show (d.colls.set _ _).length = 8
   rw [List.length_set]; exact r.c8
theorem d_drop (g:RGood d) {dev:Int} (hf:0≤atR d dev) (dev':Int):dOf (dropR d (atR d dev)) dev' = if dev' = dev then none else dOf d dev':=by
 obtain ⟨y,hy,hp⟩:=posL_get (p:=fun x=>x == dev) (l:=d.devs) hf
 have hp:y = dev:=by simpa using hp
 subst hp
 have hy:d.devs[(atR d y).toNat]? = some y:=hy
 obtain ⟨hk,ek⟩:=List.getElem?_eq_some_iff.1 hy
 have hn:=List.pairwise_iff_getElem.1 g.nd
 refine Option.ext fun b=>?_
 show _ = some b↔_ = some b
 rw [d_iff (g.drop _)]
 have e1:(dropR d (atR d y)).devs = d.devs.eraseIdx (atR d y).toNat:=by show dropAt _ _ = _; unfold dropAt; rw [if_neg (by omega)]
 have e2:(dropR d (atR d y)).bits = d.bits.eraseIdx (atR d y).toNat:=by show dropAt _ _ = _; unfold dropAt; rw [if_neg (by omega)]
 rw [e1,e2]
 generalize (atR d y).toNat = k at *
 by_cases e:dev' = y
 · rw [if_pos e]
   refine ⟨fun ⟨i,h1,h2⟩=>?_,fun h=>by cases h⟩
   exfalso
   subst e
   rw [List.getElem?_eraseIdx] at h1
   split at h1
   · rename_i hik
     obtain ⟨h3,h4⟩:=List.getElem?_eq_some_iff.1 h1
     exact hn _ _ h3 hk hik (h4.trans ek.symm)
   · rename_i hik
     obtain ⟨h3,h4⟩:=List.getElem?_eq_some_iff.1 h1
     exact hn _ _ hk h3 (by omega) (ek.trans h4.symm)
 · rw [if_neg e,d_iff g]
   constructor
   · rintro ⟨i,h1,h2⟩
     rw [List.getElem?_eraseIdx] at h1 h2
     split at h1
     · rename_i hik
       rw [if_pos hik] at h2
       exact ⟨i,h1,h2⟩
     · rename_i hik
       rw [if_neg hik] at h2
       exact ⟨i + 1,h1,h2⟩
   · rintro ⟨i,h1,h2⟩
     have hne:i≠k:=by
      rintro rfl
      rw [hy] at h1; cases h1; exact e rfl
     by_cases hik:i < k
     · exact ⟨i,by rw [List.getElem?_eraseIdx,if_pos hik]; exact h1,by rw [List.getElem?_eraseIdx,if_pos hik]; exact h2⟩
     · refine ⟨i - 1,?_,?_⟩
       · rw [List.getElem?_eraseIdx,if_neg (by omega),show i - 1 + 1 = i by omega]; exact h1
       · rw [List.getElem?_eraseIdx,if_neg (by omega),show i - 1 + 1 = i by omega]; exact h2
theorem Rel.drop (r:Rel s d) (v:VGood s) (g:RGood d) {dev:Int} (hf:0≤atR d dev) (hn:∀ ev,evOf s dev ev = none):Rel (dropS s dev) (dropR d (atR d dev)):=by
 refine ⟨r.hd,fun dev'=>?_,fun dev' ev'=>?_,r.coll,r.c8⟩
 · rw [d_drop g hf]
   show (lk (takeK s.devs dev) dev').map _ = _
   rw [lk_take v.up]
   by_cases e:dev' = dev
   · rw [if_pos e,if_pos e]; rfl
   · rw [if_neg e,if_neg e]; exact r.dev dev'
 · rw [drop_of v]
   show _ = (xOf d dev' ev').map rtO
   by_cases e:dev' = dev
   · rw [if_pos e,e,← r.ev,hn]
   · rw [if_neg e]; exact r.ev dev' ev'
theorem Rel.add (r:Rel s d) (v:VGood s) (g:RGood d) {dev b:Int} (p:Nat) (hn:dOf d dev = none) (hd:0≤dev∧dev < 4294967296) (hb:0≤b∧b < 4) :
 Rel { s with devs:=putK s.devs dev ⟨b,p,[]⟩ } { d with devs:=d.devs ++ [dev],bits:=d.bits ++ [b] }:=by
 have hnm:dev ∉ d.devs:=fun h=>(d_mem g).1 h hn
 have g2:=g.add hnm hd hb
 have hlk:lk s.devs dev = none:=by
  have:=r.dev dev
  rw [hn] at this
  cases hl:lk s.devs dev with
  | none=>rfl
  | some y=>rw [hl] at this; cases this
 refine ⟨r.hd,fun dev'=>?_,fun dev' ev'=>?_,r.coll,r.c8⟩
 · show (lk (putK s.devs dev ⟨b,p,[]⟩) dev').map _ = _
   rw [lk_put v.up]
   refine Option.ext fun z=>?_
   show _ = some z↔_ = some z
   rw [d_iff g2]
   show _↔∃ i:Nat,(d.devs ++ [dev])[i]? = some dev'∧(d.bits ++ [b])[i]? = some z
   by_cases e:dev' = dev
   · subst e
     rw [if_pos rfl]
     constructor
     · intro h; cases h
       exact ⟨d.devs.length,by simp,by rw [g.len]; simp⟩
     · rintro ⟨i,h1,h2⟩
       by_cases hi:i < d.devs.length
       · rw [List.getElem?_append_left hi] at h1
         exact absurd (List.mem_of_getElem? h1) hnm
       · have hi2:i = d.devs.length:=by
          have:=(List.getElem?_eq_some_iff.1 h1).1
          rw [List.length_append] at this
          simp at this
          omega
         rw [hi2,g.len] at h2
         simp at h2
         rw [← h2]; rfl
   · rw [if_neg e,r.dev dev',d_iff g]
     constructor
     · rintro ⟨i,h1,h2⟩
       exact ⟨i,by rw [List.getElem?_append_left (List.getElem?_eq_some_iff.1 h1).1]; exact h1,by rw [List.getElem?_append_left (List.getElem?_eq_some_iff.1 h2).1]; exact h2⟩
     · rintro ⟨i,h1,h2⟩
       by_cases hi:i < d.devs.length
       · rw [List.getElem?_append_left hi] at h1
         rw [List.getElem?_append_left (by rw [← g.len]; exact hi)] at h2
         exact ⟨i,h1,h2⟩
       · rw [List.getElem?_append_right (by omega)] at h1
         have:=List.mem_of_getElem? h1
         exact absurd (List.mem_singleton.1 this) e
 · show (lk (putK s.devs dev ⟨b,p,[]⟩) dev').bind _ = (xOf d dev' ev').map rtO
   rw [lk_put v.up]
   by_cases e:dev' = dev
   · subst e
     rw [if_pos rfl]
     have:=r.ev dev' ev'
     rw [← this]
     unfold evOf
     rw [hlk]; rfl
   · rw [if_neg e]; exact r.ev dev' ev'
end
theorem below_next (n:Int):∀ {K:List Int},K.Pairwise (· < ·)→K.filter (fun e=>decide (e < n + 1)) = K.filter (fun e=>decide (e < n)) ++ if n∈K then [n] else []
 | [],_=>by simp
 | x :: r,h=>by
  obtain ⟨h1,h2⟩:=List.pairwise_cons.1 h
  have ih:=below_next n h2
  rw [List.filter_cons,List.filter_cons]
  by_cases hx:x < n
  · rw [if_pos (decide_eq_true (by omega)),if_pos (decide_eq_true hx),ih,List.cons_append]
    have:(n∈x :: r)↔n∈r:=by
     rw [List.mem_cons]
     exact ⟨fun h=>h.resolve_left (by omega),.inr⟩
    simp only [this]
  · have hno:r.filter (fun e=>decide (e < n)) = []:=by
     rw [List.filter_eq_nil_iff]
     intro a ha
     have:=h1 a ha
     simp; omega
    rw [if_neg (show ¬ decide (x < n) = true by rw [decide_eq_true_eq]; omega),hno]
    by_cases hx2:x = n
    · subst hx2
      have hn:x ∉ r:=fun hm=>by have:=h1 x hm; omega
      have hno1:r.filter (fun e=>decide (e < x + 1)) = []:=by rw [ih,hno,if_neg hn]; rfl
      rw [if_pos (decide_eq_true (by omega)),hno1,if_pos (by simp)]; rfl
    · have hn:n ∉ r:=fun hm=>by have:=h1 n hm; omega
      rw [if_neg (show ¬ decide (x < n + 1) = true by rw [decide_eq_true_eq]; omega),ih,hno,if_neg hn,if_neg (show ¬ n∈x :: r by rw [List.mem_cons]; rintro (h | h); omega; exact hn h)]
section
variable {s:Vi} {d:Rv}
theorem Rel.forgC (r:Rel s d) (v:VGood s) (g:RGood d) {dev:Int} (h:hasK s.devs dev = true) (ev:Int):forgetC s dev ev = rforgC d dev ev:=by
 unfold forgetC rforgC
 rw [r.route g,(r.forget v g h ev).bind (g.forg dev ev)]
structure Both (s:Vi) (dev:Int) (n:Nat) (A:List Ch×Vi) (B:List Ch×Rv):Prop where
 l:A.1 = B.1
 rel:Rel A.2 B.2
 v:VGood A.2
 g:RGood B.2
 has:hasK A.2.devs dev = true
 rest:∀ e:Int,(n:Int)≤e→evOf A.2 dev e = evOf s dev e
theorem both_all (r:Rel s d) (v:VGood s) (g:RGood d) {dev:Int} (h:hasK s.devs dev = true):∀ n:Nat,Both s dev n (((ks (s.dev dev).evs).filter fun e=>decide (e < (n:Int))).foldl (fgtF dev) ([],s)) (allR d dev n)
 | 0=>by
  have e:(ks (s.dev dev).evs).filter (fun e=>decide (e < ((0:Nat):Int))) = []:=by
   rw [List.filter_eq_nil_iff]
   intro a ha
   unfold ks at ha
   obtain ⟨u,hu,rfl⟩:=List.mem_map.1 ha
   have:=v.ev _ (dev_mem h) u hu
   simp; omega
  rw [e]
  exact ⟨rfl,r,v,g,h,fun _ _=>rfl⟩
 | n + 1=>by
  have hb:=both_all r v g h n
  have e:(ks (s.dev dev).evs).filter (fun e=>decide (e < ((n + 1:Nat):Int))) = (ks (s.dev dev).evs).filter (fun e=>decide (e < (n:Int))) ++ if (n:Int)∈ks (s.dev dev).evs then [(n:Int)] else []:=by
   have:=below_next (n:Int) (v.evu h)
   push_cast
   exact this
  rw [e,List.foldl_append,allR_succ]
  generalize ((ks (s.dev dev).evs).filter fun e=>decide (e < (n:Int))).foldl (fgtF dev) ([],s) = A at *
  generalize allR d dev n = B at *
  obtain ⟨h1,h2,h3,h4,h5,h6⟩:=hb
  have hm:(n:Int)∈ks (s.dev dev).evs↔0≤findR B.2 dev n:=by
   rw [← hasK_iff (v.evu h),hasK_lk,← evOf_has h,← h6 n (Int.le_refl _),h2.ev dev n]
   constructor
   · intro hh
     by_cases hf:findR B.2 dev n < 0
     · rw [x_no.2 hf] at hh; cases hh
     · omega
   · intro hh
     cases hx:xOf B.2 dev n with
     | none=>have:=x_no.1 hx; omega
     | some x=>rfl
  by_cases hin:(n:Int)∈ks (s.dev dev).evs
  · have hf:=hm.1 hin
    rw [if_pos hin]
    have eB:fgR dev B n = (B.1 ++ rforgC B.2 dev n,rforgS B.2 dev n):=by unfold fgR; rw [if_pos hf]
    rw [eB]
    show Both s dev (n + 1) (A.1 ++ forgetC A.2 dev n,forgetS A.2 dev n) _
    refine ⟨?_,h2.forget h3 h4 h5 n,h3.forget h5,h4.forg dev n,ev_has h5,fun e he=>?_⟩
    · show A.1 ++ forgetC A.2 dev n = B.1 ++ rforgC B.2 dev n
      rw [h1,h2.forgC h3 h4 h5]
    · show evOf (forgetS A.2 dev n) dev e = _
      rw [forget_of h3 h5,if_neg (by push_cast at he; omega)]
      exact h6 e (by push_cast at he; omega)
  · have hf:¬ 0≤findR B.2 dev n:=fun hh=>hin (hm.2 hh)
    rw [if_neg hin]
    have eB:fgR dev B n = B:=by unfold fgR; rw [if_neg hf]
    rw [eB]
    exact ⟨h1,h2,h3,h4,h5,fun e he=>h6 e (by push_cast at he; omega)⟩
theorem gone_rel (r:Rel s d) (v:VGood s) (g:RGood d) (dev:Int):(goneM s dev).1 = (goneR d dev).1∧Rel (goneM s dev).2 (goneR d dev).2:=by
 have hh:=r.has g dev
 unfold goneM goneR
 cases h:hasK s.devs dev with
 | false =>
  rw [h] at hh
  rw [if_neg (by simp),if_neg (of_decide_eq_false hh.symm)]
  exact ⟨rfl,r⟩
 | true =>
  rw [h] at hh
  have hf:=of_decide_eq_true hh.symm
  rw [if_pos rfl,if_pos hf]
  have hb:=both_all r v g h 16
  have e:(ks (s.dev dev).evs).filter (fun e=>decide (e < ((16:Nat):Int))) = ks (s.dev dev).evs:=by
   rw [List.filter_eq_self]
   intro a ha
   unfold ks at ha
   obtain ⟨u,hu,rfl⟩:=List.mem_map.1 ha
   have h1:=v.ev _ (dev_mem h) u hu
   have h2:=(evN_16 (v.bits _ (dev_mem h))).1
   dsimp only at h1 h2
   exact decide_eq_true (by push_cast; omega)
  rw [e] at hb
  have hn:=fgt_none (ks (s.dev dev).evs) ([],s) v h fun ev=>ks_all v h
  have hat:atR (allR d dev 16).2 dev = atR d dev:=by unfold atR; rw [(allR_inv (dev:=dev) g.fits.small 16).2.2.1]
  have ef:fgt s dev (ks (s.dev dev).evs) = (ks (s.dev dev).evs).foldl (fgtF dev) ([],s):=rfl
  rw [ef]
  generalize (ks (s.dev dev).evs).foldl (fgtF dev) ([],s) = A at *
  generalize allR d dev 16 = B at *
  refine ⟨hb.l,?_⟩
  rw [← hat]
  exact hb.rel.drop hb.v hb.g (by rw [hat]; exact hf) hn
end
theorem rise_ext:∀ {l m:List Int},l.Pairwise (· < ·)→m.Pairwise (· < ·)→(∀ x,x∈l↔x∈m)→l = m
 | [],[],_,_,_=>rfl
 | [],y :: m,_,_,h=>by have:=(h y).2 (by simp); cases this
 | x :: l,[],_,_,h=>by have:=(h x).1 (by simp); cases this
 | x :: l,y :: m,hl,hm,h=>by
  obtain ⟨h1,h2⟩:=List.pairwise_cons.1 hl
  obtain ⟨h3,h4⟩:=List.pairwise_cons.1 hm
  have hxy:x = y:=by
   have e1:=(h x).1 (by simp)
   have e2:=(h y).2 (by simp)
   rcases List.mem_cons.1 e1 with e | e
   · exact e
   · rcases List.mem_cons.1 e2 with e' | e'
     · exact e'.symm
     · have:=h3 x e; have:=h1 y e'; omega
  subst hxy
  congr 1
  refine rise_ext h2 h4 fun z=>?_
  constructor
  · intro hz
    have h5:=h1 z hz
    have:=(h z).1 (List.mem_cons_of_mem _ hz)
    exact (List.mem_cons.1 this).resolve_left (by omega)
  · intro hz
    have h5:=h3 z hz
    have:=(h z).2 (List.mem_cons_of_mem _ hz)
    exact (List.mem_cons.1 this).resolve_left (by omega)
theorem insS_mem {x y:Int}:∀ {l:List Int},y∈insS x l↔y = x∨y∈l
 | []=>by simp [insS]
 | z :: r=>by
  unfold insS
  split
  · simp
  · rw [List.mem_cons,insS_mem,List.mem_cons]
    constructor
    · rintro (h | h | h)
      · exact .inr (.inl h)
      · exact .inl h
      · exact .inr (.inr h)
    · rintro (h | h | h)
      · exact .inr (.inl h)
      · exact .inl h
      · exact .inr (.inr h)
theorem insS_rise {x:Int}:∀ {l:List Int},l.Pairwise (· < ·)→x ∉ l→(insS x l).Pairwise (· < ·)
 | [],_,_=>by simp [insS]
 | z :: r,h,hn=>by
  obtain ⟨h1,h2⟩:=List.pairwise_cons.1 h
  rw [List.mem_cons,not_or] at hn
  unfold insS
  split
  · rename_i hx
    refine List.pairwise_cons.2 ⟨?_,h⟩
    intro y hy
    rcases List.mem_cons.1 hy with rfl | hy
    · exact hx
    · have:=h1 y hy; omega
  · rename_i hx
    refine List.pairwise_cons.2 ⟨?_,insS_rise h2 hn.2⟩
    intro y hy
    rcases insS_mem.1 hy with rfl | hy
    · have:=hn.1; omega
    · exact h1 y hy
theorem sortR_aux:∀ (l a:List Int),a.Pairwise (· < ·)→l.Nodup→(∀ x∈l,x ∉ a)→(l.foldl (fun a x=>insS x a) a).Pairwise (· < ·)∧∀ y,y∈l.foldl (fun a x=>insS x a) a↔y∈l∨y∈a
 | [],a,h,_,_=>⟨h,fun y=>by simp⟩
 | x :: l,a,h,hn,hd=>by
  obtain ⟨n1,n2⟩:=List.nodup_cons.1 hn
  rw [List.foldl_cons]
  obtain ⟨h1,h2⟩:=sortR_aux l (insS x a) (insS_rise h (hd x (by simp))) n2 (fun y hy hm=>by
   rcases insS_mem.1 hm with rfl | hm
   · exact n1 hy
   · exact hd y (by simp [hy]) hm)
  refine ⟨h1,fun y=>?_⟩
  rw [h2,insS_mem,List.mem_cons]
  constructor
  · rintro (h | h | h)
    · exact .inl (.inr h)
    · exact .inl (.inl h)
    · exact .inr h
  · rintro ((h | h) | h)
    · exact .inr (.inl h)
    · exact .inl h
    · exact .inr (.inr h)
theorem sortR_rise {l:List Int} (h:l.Nodup):(sortR l).Pairwise (· < ·)∧∀ y,y∈sortR l↔y∈l:=by
 obtain ⟨h1,h2⟩:=sortR_aux l [] List.Pairwise.nil h (fun _ _ h=>by cases h)
 exact ⟨h1,fun y=>by rw [sortR,h2]; simp⟩
section
variable {s:Vi} {d:Rv}
theorem Rel.keys (r:Rel s d) (v:VGood s) (g:RGood d):ks s.devs = sortR d.devs:=by
 obtain ⟨h1,h2⟩:=sortR_rise g.nd
 refine rise_ext v.up h1 fun x=>?_
 rw [h2,d_mem g,← r.dev x,← hasK_iff v.up,hasK_lk]
 cases lk s.devs x <;> simp
theorem hit_iff (g:RGood d) {coll dev:Int} {n:Nat}:hitR d coll dev n = true↔∃ x,xOf d dev n = some x∧x.coll = coll:=by
 unfold hitR
 rw [Bool.and_eq_true,decide_eq_true_eq,beq_iff_eq]
 constructor
 · rintro ⟨h1,h2⟩
   cases hx:xOf d dev n with
   | none=>have:=x_no.1 hx; omega
   | some x=>rw [x_getD hx] at h2; exact ⟨x,rfl,h2⟩
 · rintro ⟨x,hx,h⟩
   exact ⟨(x_of hx).2.2.2,by rw [x_getD hx]; exact h⟩
theorem mapcE_rel (r:Rel s d) (v:VGood s) (g:RGood d) (coll:Int) {dev:Int} (h:hasK s.devs dev = true):mapcF s coll dev (s.dev dev).evs = mapcE d coll dev 16:=by
 have key:((s.dev dev).evs.filter fun e=>e.2.coll == coll).map (·.1) = ((List.range 16).filter fun ev=>hitR d coll dev ev).map fun n:Nat=>(n:Int):=by
  refine rise_ext ?_ ?_ fun e=>?_
  · exact (v.evu h).sublist ((List.filter_sublist).map _)
  · rw [List.pairwise_map]
    have:(List.range 16).Pairwise (· < ·):=List.pairwise_lt_range
    exact (this.sublist List.filter_sublist).imp fun h=>by exact_mod_cast h
  · rw [List.mem_map,List.mem_map]
    constructor
    · rintro ⟨u,hu,rfl⟩
      obtain ⟨h1,h2⟩:=List.mem_filter.1 hu
      have h3:=(lk_iff (v.evu h)).2 h1
      have h4:=r.ev dev u.1
      rw [evOf_has h,h3] at h4
      cases hx:xOf d dev u.1 with
      | none=>rw [hx] at h4; cases h4
      | some x =>
       rw [hx] at h4
       have h5:u.2 = rtO x:=Option.some.inj h4
       obtain ⟨hm,hdv,hev,-⟩:=x_of hx
       have hr:=g.rt x hm
       refine ⟨u.1.toNat,List.mem_filter.2 ⟨List.mem_range.2 (by omega),(hit_iff g).2 ⟨x,?_,?_⟩⟩,by omega⟩
       · rw [show ((u.1.toNat:Nat):Int) = u.1 by omega]; exact hx
       · rw [h5] at h2; simpa [rtO] using h2
    · rintro ⟨n,hn,rfl⟩
      obtain ⟨h1,h2⟩:=List.mem_filter.1 hn
      obtain ⟨x,hx,hc⟩:=(hit_iff g).1 h2
      have h4:=r.ev dev n
      rw [evOf_has h,hx] at h4
      have h5:=(lk_iff (v.evu h)).1 h4
      exact ⟨((n:Int),rtO x),List.mem_filter.2 ⟨h5,by simp [rtO,hc]⟩,rfl⟩
 unfold mapcF mapcE
 have e1:((s.dev dev).evs.filter fun e=>e.2.coll == coll).map (fun e=>boundM s dev e.1) = (((s.dev dev).evs.filter fun e=>e.2.coll == coll).map (·.1)).map (boundM s dev):=by rw [List.map_map]; rfl
 have e2:((List.range 16).filter fun ev=>hitR d coll dev ev).map (fun ev:Nat=>bindR d dev (ev:Int)) = (((List.range 16).filter fun ev=>hitR d coll dev ev).map fun n:Nat=>(n:Int)).map (bindR d dev):=by rw [List.map_map]; rfl
 rw [e1,e2,key]
 exact List.map_congr_left fun e _=>r.bind g dev e
theorem mapc_rel (r:Rel s d) (v:VGood s) (g:RGood d) (coll:Int):mapcC s coll s.devs = mapcA d coll (sortR d.devs):=by
 rw [← r.keys v g]
 unfold mapcC mapcA ks
 rw [List.flatMap_def,List.flatMap_def,List.map_map]
 congr 1
 refine List.map_congr_left fun u hu=>?_
 have h1:=(lk_iff v.up).2 hu
 have h2:=has_of h1
 have h3:s.dev u.1 = u.2:=by have:=dev_lk h2; rw [h1] at this; exact (Option.some.inj this).symm
 have:=mapcE_rel r v g coll h2
 rw [h3] at this
 exact this
end
abbrev RT (M:List Ch×Vi×Int) (D:List Ch×Rv×Int):Prop:=M.1 = D.1∧M.2.2 = D.2.2∧Rel M.2.1 D.2.1
theorem ite_rt {p q:Prop} [Decidable p] [Decidable q] {a b:List Ch×Vi×Int} {a' b':List Ch×Rv×Int} (h:p↔q) (ha:p→RT a a') (hb:¬ p→RT b b'):RT (if p then a else b) (if q then a' else b'):=by
 by_cases hp:p
 · rw [if_pos hp,if_pos (h.1 hp)]; exact ha hp
 · rw [if_neg hp,if_neg fun hq=>hp (h.2 hq)]; exact hb hp
section
variable {s:Vi} {d:Rv}
theorem RT.err (r:Rel s d) (e:Int):RT ([],s,e) ([],d,e):=⟨rfl,rfl,r⟩
theorem mapdE_eq {c:Cm} {size:Int} (hb:0≤c.bits∧c.bits < 32) (ha:0≤c.addr∧c.addr < 281474976710656) (hs:0≤size∧size≤1099511627776):mapdE c size = mapdRE c size:=by
 unfold mapdE mapdRE
 by_cases h:evN c.bits > 16
 · rw [if_pos h,if_pos h]
 rw [if_neg h,if_neg h]
 have h1:=bits_4 hb h
 have h2:=evN_16 (k:=c.bits) ⟨hb.1,h1⟩
 have e1:IntKind.i64.wrap (8 * evN c.bits) = 8 * evN c.bits:=W_id (by omega) (by omega)
 have e2:IntKind.i64.wrap (size - c.addr) = size - c.addr:=W_id (by omega) (by omega)
 have e3:wi (8 * evN c.bits) = 8 * evN c.bits:=e1
 have e4:wi (size - 8 * evN c.bits) = size - 8 * evN c.bits:=W_id (by omega) (by omega)
 rw [e1,e2,e3,e4]
 have:(c.val = true∧(c.addr > size∨8 * evN c.bits > size - c.addr))↔(c.val = true∧(size < 8 * evN c.bits∨c.addr > size - 8 * evN c.bits)):=by
  refine and_congr_right fun _=>?_
  omega
 simp only [this]
theorem mapd_rel (r:Rel s d) (v:VGood s) (g:RGood d) {c:Cm} {size:Int} (p:Nat) (hd:0≤c.dev∧c.dev < 4294967296) (hb:0≤c.bits∧c.bits < 32) (ha:0≤c.addr∧c.addr < 281474976710656) (hs:0≤size∧size≤1099511627776):RT (mapdM s c size p) (mapdR d c size):=by
 unfold mapdM mapdR
 rw [mapdE_eq hb ha hs]
 refine ite_rt Iff.rfl (fun _=>.err r _) fun h=>?_
 have h16:¬ evN c.bits > 16:=by
  intro hh
  apply h
  unfold mapdRE
  rw [if_pos hh]; omega
 obtain ⟨h1,h2⟩:=gone_rel r v g c.dev
 have v2:=VGood.gone c.dev v
 have g2:=RGood.gone c.dev g
 generalize goneM s c.dev = A at *
 generalize goneR d c.dev = B at *
 refine ⟨h1,rfl,?_⟩
 show Rel (if c.val then { A.2 with devs:=putK A.2.devs c.dev ⟨c.bits,p,[]⟩ } else A.2) (if c.val then { B.2 with devs:=B.2.devs ++ [c.dev],bits:=B.2.bits ++ [c.bits] } else B.2)
 cases c.val
 · exact h2
 · refine h2.add v2 g2.1 p ?_ hd ⟨hb.1,bits_4 hb h16⟩
   have:=g2.2
   rw [d_mem g2.1,ne_eq,Classical.not_not] at this
   exact this
theorem mapcM_rel (r:Rel s d) (v:VGood s) (g:RGood d) {c:Cm} {vcpus:Int} (hc:0≤c.coll) (ht:0≤c.tgt):RT (mapcM s c vcpus) (mapcR d c vcpus):=by
 unfold mapcM mapcR
 refine ite_rt Iff.rfl (fun _=>.err r _) fun h8=>ite_rt Iff.rfl (fun _=>.err r _) fun _=>?_
 have r2:=r.led v hc h8 ht
 have v2:VGood { s with colls:=if c.val then putK s.colls c.coll c.tgt else takeK s.colls c.coll }:=v.led c.val c.tgt ⟨hc,by omega⟩
 have g2:RGood (ledR d c):=g.like rfl rfl rfl g.sq
 exact ⟨mapc_rel r2 v2 g2 c.coll,rfl,r2⟩
theorem mapti_rel (r:Rel s d) (v:VGood s) (g:RGood d) {c:Cm} {n lpis:Int} (hd:0≤c.dev∧c.dev < 4294967296) (he:0≤c.ev):RT (maptiM s c n lpis) (maptiR d c n lpis):=by
 unfold maptiM maptiR
 have hh:=r.has g c.dev
 refine ite_rt ?_ (fun _=>.err r _) fun h0=>?_
 · rw [hh,decide_eq_false_iff_not]; omega
 have h:hasK s.devs c.dev = true:=by simpa using h0
 have hb:d.bits.getD (atR d c.dev).toNat 0 = (s.dev c.dev).bits:=by
  have:=r.dev c.dev
  rw [dev_lk h] at this
  exact d_getD this.symm
 rw [hb]
 refine ite_rt Iff.rfl (fun _=>.err r _) fun hev=>ite_rt Iff.rfl (fun _=>.err r _) fun _=>ite_rt Iff.rfl (fun _=>.err r _) fun _=>?_
 have h16:=(evN_16 (v.bits _ (dev_mem h))).1
 have hx:0≤c.dev∧c.dev < 4294967296∧0≤c.ev∧c.ev < 16:=⟨hd.1,hd.2,he,by dsimp only at h16; omega⟩
 have ha:VGood (if hasK (s.dev c.dev).evs c.ev = true then (forgetC s c.dev c.ev,forgetS s c.dev c.ev) else (([]:List Ch),s)).2∧hasK (if hasK (s.dev c.dev).evs c.ev = true then (forgetC s c.dev c.ev,forgetS s c.dev c.ev) else (([]:List Ch),s)).2.devs c.dev = true∧RGood (if 0≤findR d c.dev c.ev then (rforgC d c.dev c.ev,rforgS d c.dev c.ev) else (([]:List Ch),d)).2∧(if hasK (s.dev c.dev).evs c.ev = true then (forgetC s c.dev c.ev,forgetS s c.dev c.ev) else (([]:List Ch),s)).1 = (if 0≤findR d c.dev c.ev then (rforgC d c.dev c.ev,rforgS d c.dev c.ev) else (([]:List Ch),d)).1∧Rel (if hasK (s.dev c.dev).evs c.ev = true then (forgetC s c.dev c.ev,forgetS s c.dev c.ev) else (([]:List Ch),s)).2 (if 0≤findR d c.dev c.ev then (rforgC d c.dev c.ev,rforgS d c.dev c.ev) else (([]:List Ch),d)).2:=by
  have hiff:hasK (s.dev c.dev).evs c.ev = true↔0≤findR d c.dev c.ev:=by
   rw [hasK_lk,← evOf_has h,r.ev c.dev c.ev]
   cases hx:xOf d c.dev c.ev with
   | none=>have:=x_no.1 hx; simp; omega
   | some x=>have:=(x_of hx).2.2.2; simp [this]
  by_cases hq:0≤findR d c.dev c.ev
  · rw [if_pos (hiff.2 hq),if_pos hq]
    exact ⟨v.forget h,ev_has h,g.forg _ _,r.forgC v g h c.ev,r.forget v g h c.ev⟩
  · rw [if_neg fun hp=>hq (hiff.1 hp),if_neg hq]
    exact ⟨v,h,g,rfl,r⟩
 dsimp only
 generalize (if hasK (s.dev c.dev).evs c.ev = true then (forgetC s c.dev c.ev,forgetS s c.dev c.ev) else (([]:List Ch),s)) = A at *
 generalize (if 0≤findR d c.dev c.ev then (rforgC d c.dev c.ev,rforgS d c.dev c.ev) else (([]:List Ch),d)) = B at *
 obtain ⟨vA,hA,gB,e1,rA⟩:=ha
 have r2:=rA.put vA gB (x:=⟨c.dev,c.ev,n,c.coll⟩) hA hx
 have g2:=gB.set (x:=⟨c.dev,c.ev,n,c.coll⟩) hx
 have r2:Rel (A.2.evs c.dev (putK (A.2.dev c.dev).evs c.ev ⟨n,c.coll,true⟩)) (rsetS B.2 ⟨c.dev,c.ev,n,c.coll⟩):=r2
 refine ⟨?_,rfl,r2⟩
 show A.1 ++ _ = B.1 ++ _
 rw [e1,r2.bind g2]
theorem single_rel (r:Rel s d) (v:VGood s) (g:RGood d) {c:Cm} (h1:c.op = 1∨c.op = 3∨c.op = 4∨c.op = 12∨c.op = 15):RT (if c.op = 1 then moviM s c else eventM s c) (singleR d c):=by
 have he:=r.event g c.dev c.ev
 unfold singleR
 rw [he]
 cases hl:lk s.devs c.dev with
 | none =>
  have hh:=hasnt_of hl
  dsimp only
  rw [if_pos (show (181:Int)≠0 by omega)]
  by_cases h:c.op = 1
  · rw [if_pos h]; unfold moviM; rw [if_pos hh]; exact .err r _
  · rw [if_neg h]; unfold eventM; rw [if_pos hh]; exact .err r _
 | some y =>
  have hh:=has_of hl
  have h2:=r.ev c.dev c.ev
  rw [evOf_has hh] at h2
  cases hx:xOf d c.dev c.ev with
  | none =>
   rw [hx] at h2
   have h3:=hasnt_of h2
   dsimp only
   rw [if_pos (show (182:Int)≠0 by omega)]
   by_cases h:c.op = 1
   · rw [if_pos h]; unfold moviM; rw [if_neg (by rw [hh]; simp),if_pos h3]; exact .err r _
   · rw [if_neg h]; unfold eventM; rw [if_neg (by rw [hh]; simp),if_pos h3]; exact .err r _
  | some x =>
   rw [hx] at h2
   have h3:lk (s.dev c.dev).evs c.ev = some (rtO x):=h2
   have h4:=has_of h3
   have h5:getK rt0 (s.dev c.dev).evs c.ev = rtO x:=get_of h3
   obtain ⟨hm,hdv,hev,-⟩:=x_of hx
   have hr:=g.rt x hm
   dsimp only
   rw [if_neg (show ¬ ((0:Int)≠0) by omega)]
   by_cases h:c.op = 1
   · rw [if_pos h,if_neg (by omega),if_neg (by omega),if_neg (by omega)]
     unfold moviM
     rw [if_neg (by rw [hh]; simp),if_neg (by rw [h4]; simp),h5,r.goes]
     refine ite_rt Iff.rfl (fun _=>.err r _) fun _=>?_
     have hx2:0≤({ x with coll:=c.coll }:Rr).dev∧({ x with coll:=c.coll }:Rr).dev < 4294967296∧0≤({ x with coll:=c.coll }:Rr).ev∧({ x with coll:=c.coll }:Rr).ev < 16:=hr
     have r2:=r.put v g (x:={ x with coll:=c.coll }) (by show hasK s.devs x.dev = true; rw [hdv]; exact hh) hx2
     have g2:=g.set (x:={ x with coll:=c.coll }) hx2
     have r2:Rel (s.evs x.dev (putK (s.dev x.dev).evs x.ev ⟨x.num,c.coll,true⟩)) (rsetS d { x with coll:=c.coll }):=r2
     have r3:Rel (s.evs c.dev (putK (s.dev c.dev).evs c.ev ⟨x.num,c.coll,true⟩)) (rsetS d { x with coll:=c.coll }):=by rw [← hdv,← hev]; exact r2
     refine ⟨?_,rfl,r3⟩
     show (if (goesM s.colls x.coll).2 = 0 then [(⟨5,0,0,x.num,(goesM s.colls x.coll).1,(goesR d c.coll).1⟩:Ch)] else []) ++ [boundM (s.evs c.dev (putK (s.dev c.dev).evs c.ev ⟨x.num,c.coll,true⟩)) c.dev c.ev] = _
     rw [r.goes,r3.bind g2]
   · rw [if_neg h]
     unfold eventM
     rw [if_neg (by rw [hh]; simp),if_neg (by rw [h4]; simp),h5]
     dsimp only
     refine ite_rt Iff.rfl (fun _=>⟨r.forgC v g hh c.ev,rfl,r.forget v g hh c.ev⟩) fun _=>ite_rt Iff.rfl (fun _=>⟨rfl,rfl,r⟩) fun _=>?_
     rw [if_pos h]
     show RT (if (goesM s.colls x.coll).2≠0 then ([],s,(goesM s.colls x.coll).2) else if c.op = 3 then ([⟨3,0,0,x.num,0,(goesM s.colls x.coll).1⟩],s,0) else ([⟨4,0,0,x.num,(goesM s.colls x.coll).1,0⟩],s,0)) _
     rw [r.goes]
     exact ite_rt Iff.rfl (fun _=>.err r _) fun _=>ite_rt Iff.rfl (fun _=>⟨rfl,rfl,r⟩) fun _=>⟨rfl,rfl,r⟩
theorem vdo_rel (r:Rel s d) (v:VGood s) (g:RGood d) {c:Cm} {ru:Ru} {owned:List Int} (p:Nat) (hI:-9223372036854775808≤c.addr∧c.addr≤9223372036854775807) (hs:0≤ru.s∧ru.s≤1099511627776):RT (vdoM s c ru owned p) (vdoR d c ru owned):=by
 unfold vdoM vdoR
 rw [ref_enc hI]
 cases he:encM c with
 | none=>rw [if_pos rfl,if_pos rfl]; exact .err r _
 | some ws =>
  rw [if_neg (show ¬ (some ws = none) by simp),if_neg (show ¬ (some ws = none) by simp)]
  obtain ⟨hk,hf,-,-,-⟩:=encM_some he
  have f0:0≤c.dev∧c.dev < 4294967296:=⟨(hf 0 (by omega)).1,(hf 0 (by omega)).2.1⟩
  have f1:0≤c.ev:=(hf 1 (by omega)).1
  have f3:0≤c.coll:=(hf 3 (by omega)).1
  have f4:0≤c.tgt:=(hf 4 (by omega)).1
  have f5:0≤c.bits∧c.bits < 32:=⟨(hf 5 (by omega)).1,(hf 5 (by omega)).2.1⟩
  have f6:0≤c.addr∧c.addr < 281474976710656:=by
   have h1:0≤c.addr / 256:=(hf 6 (by omega)).1
   have h2:c.addr / 256 < 1099511627776:=(hf 6 (by omega)).2.1
   omega
  unfold knownB at hk
  have hk:=of_decide_eq_true hk
  by_cases h9:c.op = 9
  · have hn:namesB c.op = false:=by unfold namesB; simp [h9]
    rw [if_neg (show ¬ (namesB c.op = true∧c.dev ∉ owned) by rw [hn]; simp),if_neg (show ¬ c.op = 8 by omega),if_pos h9,if_pos h9]
    exact mapcM_rel r v g f3 f4
  by_cases h13:c.op = 13
  · have hn:namesB c.op = false:=by unfold namesB; simp [h13]
    rw [if_neg (show ¬ (namesB c.op = true∧c.dev ∉ owned) by rw [hn]; simp),if_neg (show ¬ c.op = 8 by omega),if_neg h9,if_neg (by omega),if_neg (by omega),if_neg (by omega),if_pos h13,if_neg h9,if_pos h13,r.goes]
    exact ite_rt Iff.rfl (fun _=>.err r _) fun _=>⟨rfl,rfl,r⟩
  by_cases h14:c.op = 14∨c.op = 5
  · have hn:namesB c.op = false:=by unfold namesB; rcases h14 with h | h <;> simp [h]
    rw [if_neg (show ¬ (namesB c.op = true∧c.dev ∉ owned) by rw [hn]; simp),if_neg (show ¬ c.op = 8 by omega),if_neg h9,if_neg (by omega),if_neg (by omega),if_neg (by omega),if_neg h13,if_pos h14,if_neg h9,if_neg h13,if_pos h14]
    exact ite_rt Iff.rfl (fun _=>.err r _) fun _=>ite_rt Iff.rfl (fun _=>.err r _) fun _=>⟨rfl,rfl,r⟩
  have hn:namesB c.op = true:=by unfold namesB; rw [decide_eq_true_eq]; omega
  rw [if_neg h9,if_neg h9,if_neg h13,if_neg h13,if_neg h14,if_neg h14]
  refine ite_rt (by rw [hn]; simp) (fun _=>.err r _) fun _=>?_
  refine ite_rt Iff.rfl (fun _=>mapd_rel r v g p f0 f5 f6 hs) fun h8=>?_
  refine ite_rt Iff.rfl (fun _=>mapti_rel r v g f0 f1) fun h10=>?_
  refine ite_rt Iff.rfl (fun _=>mapti_rel r v g f0 f1) fun h11=>?_
  exact single_rel r v g (by omega)
end
end Go.Proofs.YtidcijbnbdemeaaGreat
