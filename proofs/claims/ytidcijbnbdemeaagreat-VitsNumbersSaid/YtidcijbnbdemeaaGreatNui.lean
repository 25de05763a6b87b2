/-
  The walks and the laws beneath the statement: part 9.
-/
import Derived.Test.YtidcijbnbdemeaaGreatNuh
set_option maxRecDepth 100000
set_option linter.unusedVariables false
set_option linter.unusedSimpArgs false
set_option maxHeartbeats 4000000
namespace Go.Proofs.YtidcijbnbdemeaaGreat
open Go Go.RowKit X
theorem ch_at {w w0:World} {S0:Nat→Prop} {L F:List It} {p:Option Addr} {c k:Nat} {xs:List Ch} {x:Ch} (H:X.Own w0 S0 L w) (hp:Pick L (chs p c xs) F) (hx:xs[k]? = some x) :
 ∃ a,p = some a∧w.cell? (a.add (k * 6)) = some (.int .i64 x.k)∧w.cell? ((a.add (k * 6)).add 1) = some (.int .i64 x.d)∧w.cell? ((a.add (k * 6)).add 2) = some (.int .i64 x.e) ∧
  w.cell? ((a.add (k * 6)).add 3) = some (.int .i64 x.n)∧w.cell? ((a.add (k * 6)).add 4) = some (.int .i64 x.f)∧w.cell? ((a.add (k * 6)).add 5) = some (.int .i64 x.t):=by
 obtain ⟨d,rfl,hcell⟩:=els_at (E:=EC) (q:=p) (c:=c) H hp hx
 have hce:∀ i v,x.cells[i]? = some v→w.cell? (((⟨d,0,none⟩:Addr).add (k * 6)).add i) = some v:=by
  intro i v hv
  rw [add_lit,add_lit,Nat.zero_add]; exact hcell i v hv
 refine ⟨_,rfl,?_,hce 1 _ rfl,hce 2 _ rfl,hce 3 _ rfl,hce 4 _ rfl,hce 5 _ rfl⟩
 rw [add_lit,Nat.zero_add]; exact hcell 0 _ rfl
theorem vitsNumbers_cv {W:World} {a b:Int} (ha:0≤a∧a≤255) (hb:0≤b∧b≤255) {p:Option Addr} {c:Nat} {owned:List Int} (ho:Sl W p (i64s owned)) (hl:owned.length * 8≤140737488355328)
 {q2:Option Addr} {c2:Nat} {ys:List Ac} (hq2:Slots W q2 13 (ys.map Ac.cells)) (hy:∀ y∈ys,y.Fit) (hl2:ys.length≤9223372036854775807) (cc:Cm) :
 CV P F.zzbD [.int .u8 a,.int .u8 b,.slice p owned.length c,.slice q2 ys.length c2,cmV cc] W fun r w'=>r = .bool true∧Below W.heap.size W w':=by
 refine zzid ?_
 unfold zzbD
 have H:=keep_start W
 refine alc_o H fun b18 wx H=>?_
 refine call_oa H (awake_t) fun vx L' wx hq H=>?_
 obtain ⟨rfl,rfl⟩:=hq
 simp only [List.cons_append,List.nil_append] at H
 refine ⟨_,rfl,cnd_i (fun h=>by cases h) fun _=>?_⟩
 refine call_oa H (played_t (p:=p) (c:=c) (q2:=q2) (c2:=c2) ha hb ho hl hq2 hy hl2) fun vx L' wx hq H=>?_
 obtain ⟨bs,bm,bd,bn,q,cq,t,hok,rfl,rfl⟩:=hq
 simp only [sdL,List.cons_append,List.nil_append] at H
 refine ⟨_,_,_,_,_,_,_,_,_,_,_,_,_,_,_,_,_,_,_,rfl,alc_o H fun b48 wx H=>?_⟩
 iterate 14 refine sta H fun wx H=>?_
 simp only [List.set_cons_zero,List.set_cons_succ] at H
 refine join_o (cnd_i (fun h=>by cases h) fun _=>?_)
 unfold zzfc
 refine cnd_i (fun h=>by cases h) fun _=>?_
 have hlo:owned.length < 9223372036854775807:=by omega
 have hr:=ruA_vcpus ha hb
 have hvp:0 < (ruA a b).vcpus:=by omega
 repeat (first | refine lIa H ?_ | refine lLa H ?_ | refine lBa H ?_ | refine lPa H ?_ | refine lSa H ?_)
 refine call_oa H (VDo_t bs t.s cc (ruA a b) (nums q cq owned) nums_sl hlo hok.vg.fits (by omega)) fun vx L' wx hq H=>?_
 obtain ⟨pp,q1,k1,rfl,rfl⟩:=hq
 simp only [List.cons_append,List.nil_append] at H
 have hlen:=vdo_len (c:=cc) (r:=ruA a b) (owned:=owned) (p:=pp) hok.vg
 have hgd:=(NT.vdo (c:=cc) (owned:=owned) (p:=pp) hvp hok.vn hok.vg).2
 generalize vdoM t.s cc (ruA a b) owned pp = M at *
 refine ⟨_,_,_,_,rfl,?_⟩
 refine loop_o (fun (st:Int) L=>∃ i:Nat,i≤M.1.length∧st = i∧L = [chs q1 k1 M.1,sideR b48 bs bm bd bn (ruA a b) q p owned.length cq c,keep W]) (fun (st:Int)=>((M.1.length:Int) - st).toNat) (H.dp) ⟨0,by omega,rfl,rfl⟩ ?_
 rintro _ _ wx ⟨i,hi,rfl,rfl⟩ H
 unfold zzfb
 refine cnd_i (fun hcc=>?_) fun hcc=>⟨rfl,keep_done H (by repeat (first | exact Pick.here | apply Pick.there))⟩
 have hcc:=of_decide_eq_true hcc
 have hil:i < M.1.length:=by omega
 have hk:M.1[i]? = some M.1[i]:=List.getElem?_eq_getElem hil
 have hx:=hgd _ (List.getElem_mem hil)
 generalize M.1[i] = x at *
 refine ix_i hil ?_
 obtain ⟨a1,rfl,e0,e1,e2,e3,e4,e5⟩:=ch_at H (p:=q1) (c:=k1) (xs:=M.1) (by repeat (first | exact Pick.here | apply Pick.there)) hk
 refine ⟨_,e0,_,e1,_,e2,_,e3,_,e4,_,e5,alc_o H fun b98 wx H=>?_⟩
 iterate 6 refine sta H fun wx H=>?_
 simp only [List.set_cons_zero,List.set_cons_succ] at H
 obtain ⟨hn,hf,ht,hkk⟩:=hx
 have last:zzc4 (fun r w'=>r = .bool true∧Below W.heap.size W w') (i:Int) (fun (s':Int) w'=>(∃ L',(∃ i:Nat,i≤M.1.length∧s' = i∧L' = [chs (some a1) k1 M.1,sideR b48 bs bm bd bn (ruA a b) q p owned.length cq c,keep W])∧X.Own W (fun k=>k < W.heap.size) L' w')∧((M.1.length:Int) - s').toNat < ((M.1.length:Int) - i).toNat) false wx:=by
  unfold zzc4
  refine cnd_i (fun h=>by cases h) fun _=>?_
  rw [W_id (by omega) (by omega)]
  exact ⟨⟨_,⟨i + 1,by omega,by push_cast; rfl,rfl⟩,H.dp⟩,by omega⟩
 have fin:∀ v:Bool,(v = true→x.k = 1∨x.k = 3∨x.k = 4∨x.k = 5∨x.k = 7)→zzc5 (fun r w'=>r = .bool true∧Below W.heap.size W w') b48 (i:Int) (fun (s':Int) w'=>(∃ L',(∃ i:Nat,i≤M.1.length∧s' = i∧L' = [chs (some a1) k1 M.1,sideR b48 bs bm bd bn (ruA a b) q p owned.length cq c,keep W])∧X.Own W (fun k=>k < W.heap.size) L' w')∧((M.1.length:Int) - s').toNat < ((M.1.length:Int) - i).toNat) b98 v wx:=by
  intro v hv
  unfold zzc5
  refine join_o ?_
  have e8:decide (x.k > 8) = false:=decide_eq_false (by omega)
  refine cnd_i (fun h=>?_) fun h=>?_
  · have hn:=hn (hv h)
    repeat (first | refine lIa H ?_ | refine lLa H ?_ | refine lBa H ?_ | refine lPa H ?_ | refine lSa H ?_)
    refine cnd_i (fun h=>absurd (of_decide_eq_true h) (by omega)) fun _=>?_
    repeat (first | refine lIa H ?_ | refine lLa H ?_ | refine lBa H ?_ | refine lPa H ?_ | refine lSa H ?_)
    refine cnd_i (fun h=>absurd (of_decide_eq_true h) (by have:=hn.2; omega)) fun _=>?_
    repeat (first | refine lIa H ?_ | refine lLa H ?_ | refine lBa H ?_ | refine lPa H ?_ | refine lSa H ?_)
    refine cnd_i (fun h=>absurd (of_decide_eq_true h) (by omega)) fun _=>?_
    repeat (first | refine lIa H ?_ | refine lLa H ?_ | refine lBa H ?_ | refine lPa H ?_ | refine lSa H ?_)
    refine cnd_i (fun h=>absurd (of_decide_eq_true h) (by omega)) fun _=>?_
    repeat (first | refine lIa H ?_ | refine lLa H ?_ | refine lBa H ?_ | refine lPa H ?_ | refine lSa H ?_)
    refine cnd_i (fun h=>absurd (of_decide_eq_true h) (by omega)) fun _=>?_
    repeat (first | refine lIa H ?_ | refine lLa H ?_ | refine lBa H ?_ | refine lPa H ?_ | refine lSa H ?_)
    refine cnd_i (fun h=>absurd (of_decide_eq_true h) (by omega)) fun _=>?_
    repeat (first | refine lIa H ?_ | refine lLa H ?_ | refine lBa H ?_ | refine lPa H ?_ | refine lSa H ?_)
    refine cnd_i (fun h=>absurd (of_decide_eq_true h) (by omega)) fun _=>?_
    repeat (first | refine lIa H ?_ | refine lLa H ?_ | refine lBa H ?_ | refine lPa H ?_ | refine lSa H ?_)
    rw [e8]; exact last
  · repeat (first | refine lIa H ?_ | refine lLa H ?_ | refine lBa H ?_ | refine lPa H ?_ | refine lSa H ?_)
    refine cnd_i (fun h=>absurd (of_decide_eq_true h) (by omega)) fun _=>?_
    repeat (first | refine lIa H ?_ | refine lLa H ?_ | refine lBa H ?_ | refine lPa H ?_ | refine lSa H ?_)
    refine cnd_i (fun h=>absurd (of_decide_eq_true h) (by omega)) fun _=>?_
    repeat (first | refine lIa H ?_ | refine lLa H ?_ | refine lBa H ?_ | refine lPa H ?_ | refine lSa H ?_)
    refine cnd_i (fun h=>absurd (of_decide_eq_true h) (by omega)) fun _=>?_
    repeat (first | refine lIa H ?_ | refine lLa H ?_ | refine lBa H ?_ | refine lPa H ?_ | refine lSa H ?_)
    refine cnd_i (fun h=>absurd (of_decide_eq_true h) (by omega)) fun _=>?_
    repeat (first | refine lIa H ?_ | refine lLa H ?_ | refine lBa H ?_ | refine lPa H ?_ | refine lSa H ?_)
    refine cnd_i (fun h=>absurd (of_decide_eq_true h) (by omega)) fun _=>?_
    repeat (first | refine lIa H ?_ | refine lLa H ?_ | refine lBa H ?_ | refine lPa H ?_ | refine lSa H ?_)
    rw [e8]; exact last
 refine join_o ?_
 repeat (first | refine lIa H ?_ | refine lLa H ?_ | refine lBa H ?_ | refine lPa H ?_ | refine lSa H ?_)
 refine cnd_i (fun h=>fin _ fun _=>.inl (by simpa using h)) fun _=>?_
 repeat (first | refine lIa H ?_ | refine lLa H ?_ | refine lBa H ?_ | refine lPa H ?_ | refine lSa H ?_)
 refine cnd_i (fun h=>fin _ fun _=>.inr (.inl (by simpa using h))) fun _=>?_
 repeat (first | refine lIa H ?_ | refine lLa H ?_ | refine lBa H ?_ | refine lPa H ?_ | refine lSa H ?_)
 refine cnd_i (fun h=>fin _ fun _=>.inr (.inr (.inl (by simpa using h)))) fun _=>?_
 repeat (first | refine lIa H ?_ | refine lLa H ?_ | refine lBa H ?_ | refine lPa H ?_ | refine lSa H ?_)
 refine cnd_i (fun h=>fin _ fun _=>.inr (.inr (.inr (.inl (by simpa using h))))) fun _=>?_
 repeat (first | refine lIa H ?_ | refine lLa H ?_ | refine lBa H ?_ | refine lPa H ?_ | refine lSa H ?_)
 exact fin _ fun h=>.inr (.inr (.inr (.inr (by simpa using h))))
end Go.Proofs.YtidcijbnbdemeaaGreat
