/-
  The walks and the laws beneath the statement: part 8.
-/
import Derived.Test.YtidcijbnbdemeaaGreatSag
set_option maxRecDepth 100000
set_option linter.unusedVariables false
set_option linter.unusedSimpArgs false
set_option maxHeartbeats 4000000
namespace Go.Proofs.YtidcijbnbdemeaaGreat
open Go Go.RowKit X
def refDecV (ws:List Int):Value:=match decM ws with
 | some c=>.tuple [cmV c,.bool true].toArray
 | none=>.tuple [cmV cm0,.bool false].toArray
theorem put_addr (c:Cm) (n:Int) (k:Nat):(c.put n k).addr = c.addr∨∃ m,(c.put n k).addr = IntKind.i64.wrap m:=by
 unfold Cm.put
 split <;> first | exact .inl rfl | exact .inr ⟨_,rfl⟩
theorem fold_addr (o:Int) (ws:List Int):∀ (ks:List Nat) (c:Cm),(-9223372036854775808≤c.addr∧c.addr≤9223372036854775807)→-9223372036854775808≤(ks.foldl (stP o ws) c).addr∧(ks.foldl (stP o ws) c).addr≤9223372036854775807
 | [],c,h=>h
 | k :: ks,c,h=>by
  rw [List.foldl_cons]
  refine fold_addr o ws ks _ ?_
  unfold stP
  rcases put_addr c (ext (ws.getD (pw o k) 0) (pf o k) (ps o k)) k with e | ⟨m,e⟩
  · rw [e]; exact h
  · rw [e]; exact W_range m
theorem refDecode_t (a0 a1 a2 a3:Int) (ha:∀ x∈[a0,a1,a2,a3],0≤x∧x < 2 ^ 64):Tri P F.zzcf [.agg (wI [a0,a1,a2,a3]).toArray] [] fun v L'=>v = refDecV [a0,a1,a2,a3]∧L' = []:=by
 intro w S hS
 refine zzj1 ?_
 unfold zzcf
 have H:=Own.start hS
 have h0:=ha a0 (by simp)
 refine alc_o H fun b5 wx H=>alc_o H fun b7 wx H=>ix_i (i:=0) (by omega) ?_
 rw [add_lit]
 repeat (first | refine lIa H ?_ | refine lLa H ?_ | refine lBa H ?_ | refine lPa H ?_ | refine lSa H ?_)
 refine ⟨by omega,alc_o H fun b11 wx H=>?_⟩
 iterate 9 refine sta H fun wx H=>?_
 have e0:IntKind.i64.wrap (Int.tmod a0 256) = (cd [a0,a1,a2,a3] 0).op:=by
  rw [cd_zero,low8 h0.1 h0.2,Int.tmod_eq_emod_of_nonneg h0.1,W_id (by omega) (by omega)]
 rw [e0] at H
 generalize hws:[a0,a1,a2,a3] = ws at *
 have hl:ws.length = 4:=by rw [← hws]; rfl
 have hc0:cd ws 0 = ⟨(cd ws 0).op,0,0,0,0,0,0,0,false⟩:=by rw [← hws]; rfl
 generalize ho:(cd ws 0).op = o at *
 repeat (first | refine lIa H ?_ | refine lLa H ?_ | refine lBa H ?_ | refine lPa H ?_ | refine lSa H ?_)
 refine alc_o H fun b23 wx H=>?_
 iterate 9 refine sta H fun wx H=>?_
 repeat (first | refine lIa H ?_ | refine lLa H ?_ | refine lBa H ?_ | refine lPa H ?_ | refine lSa H ?_)
 have hd:refDecV ws = if knownB o = true then (if encM (cd ws 8) = some ws then .tuple [cmV (cd ws 8),.bool true].toArray else .tuple [cmV cm0,.bool false].toArray) else .tuple [cmV cm0,.bool false].toArray:=by
  have hk8:(cd ws 8).op = o:=by rw [cd_op,ho]
  unfold refDecV decM
  by_cases hk:knownB o = true
  · rw [if_pos hk]; split <;> split <;> simp_all
  · rw [if_neg hk]
    have:encM (cd ws 8) = none:=by
     unfold encM badC
     rw [hk8,show knownB o = false by simpa using hk]; rfl
    rw [this,if_neg (by simp)]
 refine call_oa H (Fields_t ⟨o,0,0,0,0,0,0,0,false⟩ (by show (0:Int)≤9223372036854775807; decide)) fun vx L' wx hq H=>?_
 obtain ⟨p,cap,hq⟩:=hq
 rw [if_neg (by unfold badA; simp)] at hq
 obtain ⟨rfl,rfl⟩:=hq
 simp only [List.cons_append,List.nil_append] at H
 refine ⟨_,_,_,_,rfl,?_⟩
 repeat (first | refine lIa H ?_ | refine lLa H ?_ | refine lBa H ?_ | refine lPa H ?_ | refine lSa H ?_)
 refine call_pa H (refKnown_t o) fun wx H=>?_
 refine ⟨_,rfl,?_⟩
 cases hk:knownB o with
 | false =>
  refine cnd_i (fun _=>?_) (fun h=>by cases h)
  iterate 9 refine sta H fun wx H=>?_
  repeat (first | refine lIa H ?_ | refine lLa H ?_ | refine lBa H ?_ | refine lPa H ?_ | refine lSa H ?_)
  exact ⟨_,⟨by rw [hd,hk]; rfl,rfl⟩,H.dp⟩
 | true =>
  refine cnd_i (fun h=>by cases h) fun _=>?_
  have hfs:fsK ⟨o,0,0,0,0,0,0,0,false⟩ 8 = ((List.range 8).filter (ph o)).map (fdOf ⟨o,0,0,0,0,0,0,0,false⟩):=rfl
  have hcd:cd ws 8 = ((List.range 8).filter (ph o)).foldl (stP o ws) (cd ws 0):=by rw [cd_fold,ho]
  have hks:∀ (j:Nat) k,((List.range 8).filter (ph o))[j]? = some k→k < 8∧ph o k = true:=by
   intro j k h
   have:=List.mem_filter.1 (List.mem_of_getElem? h)
   exact ⟨List.mem_range.1 this.1,this.2⟩
  have hlen:((List.range 8).filter (ph o)).length≤8:=by
   have:=List.length_filter_le (ph o) (List.range 8)
   rw [List.length_range] at this; exact this
  rw [hfs] at H ⊢
  generalize (List.range 8).filter (ph o) = ks at *
  have hml:(ks.map (fdOf ⟨o,0,0,0,0,0,0,0,false⟩)).length = ks.length:=List.length_map _
  have hfa:=fold_addr o ws
  rw [hml] at H ⊢
  have H:=H.drop (L1:=[row b11 (ks.take 0 |>.foldl (stP o ws) (cd ws 0)).cells tCmd,own tFd 4 (.slice p ks.length cap) ks.length (flatF (ks.map (fdOf ⟨o,0,0,0,0,0,0,0,false⟩))),row b7 [.int .i64 0,.int .i64 0,.int .i64 0,.int .i64 0,.int .i64 0,.int .i64 0,.int .i64 0,.int .i64 0,.bool false] tCmd,row b5 (wI ws) tW4]) (by
   rw [List.take_zero,List.foldl_nil,hc0,← hws]; exact (by repeat (first | exact Cut.nil | (apply Cut.cons; (repeat (first | exact Pick.here | apply Pick.there))))))
  refine loop_o (fun (st:Int) L=>∃ j:Nat,j≤ks.length∧st = j∧L = [row b11 (ks.take j |>.foldl (stP o ws) (cd ws 0)).cells tCmd,own tFd 4 (.slice p ks.length cap) ks.length (flatF (ks.map (fdOf ⟨o,0,0,0,0,0,0,0,false⟩))),row b7 [.int .i64 0,.int .i64 0,.int .i64 0,.int .i64 0,.int .i64 0,.int .i64 0,.int .i64 0,.int .i64 0,.bool false] tCmd,row b5 (wI ws) tW4])
   (fun (st:Int)=>((ks.length:Int) - st).toNat) H ⟨0,by omega,rfl,rfl⟩ ?_
  rintro _ _ wx ⟨j,hj,rfl,rfl⟩ H
  unfold zzhl
  refine cnd_i (fun hc=>?_) fun hc=>?_
  · have hc:=of_decide_eq_true hc
    have hlt:j < ks.length:=by omega
    obtain ⟨k,hk2⟩:∃ k,ks[j]? = some k:=⟨_,List.getElem?_eq_getElem hlt⟩
    obtain ⟨hk8,hph⟩:=hks j k hk2
    have hf:(ks.map (fdOf ⟨o,0,0,0,0,0,0,0,false⟩))[j]? = some (fdOf ⟨o,0,0,0,0,0,0,0,false⟩ k):=by rw [List.getElem?_map,hk2]; rfl
    refine ix_i hlt ?_
    obtain ⟨x1,rfl,e1,ee⟩:=slot_cells (Own.rdS H (i:=own tFd 4 (.slice p ks.length cap) ks.length (flatF (ks.map (fdOf ⟨o,0,0,0,0,0,0,0,false⟩)))) (by repeat (first | exact Pick.here | apply Pick.there)) ownF_slots) hf
    dsimp only [nn]
    refine ⟨_,e1 _ rfl,⟨_,ee 1 _ rfl,⟨_,ee 2 _ rfl,⟨_,ee 3 _ rfl,?_⟩⟩⟩⟩
    refine alc_o H fun b81 wx H=>?_
    iterate 4 refine sta H fun wx H=>?_
    refine drw_o H fun wx H=>?_
    repeat (first | refine lIa H ?_ | refine lLa H ?_ | refine lBa H ?_ | refine lPa H ?_ | refine lSa H ?_)
    refine ix_i (pw_lt o k) ?_
    rw [add_lit,Nat.mul_one,Nat.zero_add]
    refine ldI_o H (by repeat (first | exact Pick.here | apply Pick.there)) (wI_get (by rw [hl]; exact pw_lt _ _)) ?_
    repeat (first | refine lIa H ?_ | refine lLa H ?_ | refine lBa H ?_ | refine lPa H ?_ | refine lSa H ?_)
    have hwr:0≤ws.getD (pw o k) 0∧ws.getD (pw o k) 0 < 2 ^ 64:=by
     refine ha _ ?_
     rw [List.getD_eq_getElem?_getD,List.getElem?_eq_getElem (by rw [hl]; exact pw_lt _ _)]
     exact List.getElem_mem _
    refine call_pa H (part_t (n:=ws.getD (pw o k) 0) (f:=pf o k) (s:=ps o k) hwr (pf_lt o k) (by have:=ps_le o k; omega)) fun wx H=>?_
    refine ⟨_,rfl,join_o ?_⟩
    refine asg (J97:=fun (_:zzaE.S) w129=>zzeV (j:Int) _ w129) (o:=o) (k:=k) (n:=ext (ws.getD (pw o k) 0) (pf o k) (ps o k)) (c:=ks.take j |>.foldl (stP o ws) (cd ws 0)) hk8 hph H .here fun wx H=>?_
    unfold zzeV
    have e1':IntKind.i64.wrap ((j:Int) + 1) = ((j + 1:Nat):Int):=by rw [W_id (by omega) (by omega)]; push_cast; rfl
    rw [e1']
    refine ⟨⟨_,⟨j + 1,by omega,rfl,rfl⟩,?_⟩,by omega⟩
    have e2:(ks.take (j + 1)).foldl (stP o ws) (cd ws 0) = stP o ws ((ks.take j).foldl (stP o ws) (cd ws 0)) k:=by
     obtain ⟨h1,h2⟩:=List.getElem?_eq_some_iff.1 hk2
     rw [List.take_succ_eq_append_getElem h1,List.foldl_append,h2]; rfl
    rw [e2]
    exact H.dp
  · have hc:=of_decide_eq_false hc
    have:j = ks.length:=by omega
    subst this
    rw [List.take_length,← hcd] at H
    have hI:-9223372036854775808≤(cd ws 8).addr∧(cd ws 8).addr≤9223372036854775807:=by
     rw [hcd]
     refine hfa ks _ ?_
     rw [hc0]
     exact ⟨by show (-9223372036854775808:Int)≤0; decide,by show (0:Int)≤9223372036854775807; decide⟩
    repeat (first | refine lIa H ?_ | refine lLa H ?_ | refine lBa H ?_ | refine lPa H ?_ | refine lSa H ?_)
    refine call_pa H (refEncode_t (cd ws 8) hI) fun wx H=>?_
    have fin:∀ bb:Bool,(bb = true↔encM (cd ws 8)≠some ws)→∀ wx L,X.Own w S (row b11 (cd ws 8).cells tCmd :: row b7 [.int .i64 0,.int .i64 0,.int .i64 0,.int .i64 0,.int .i64 0,.int .i64 0,.int .i64 0,.int .i64 0,.bool false] tCmd :: L) wx →
     zzeX (fun v w'=>∃ L',(v = refDecV ws∧L' = [])∧X.Own w S L' w') b7 b11 bb wx:=by
     intro bb hbb wx L H
     unfold zzeX
     rw [hd,if_pos hk]
     refine cnd_i (fun h=>?_) fun h=>?_
     · rw [if_neg (hbb.1 h)]
       iterate 9 refine sta H fun wx H=>?_
       repeat (first | refine lIa H ?_ | refine lLa H ?_ | refine lBa H ?_ | refine lPa H ?_ | refine lSa H ?_)
       exact ⟨_,⟨rfl,rfl⟩,H.drop .nil⟩
     · rw [if_pos (Classical.not_not.1 fun hn=>by rw [hbb.2 hn] at h; cases h)]
       repeat (first | refine lIa H ?_ | refine lLa H ?_ | refine lBa H ?_ | refine lPa H ?_ | refine lSa H ?_)
       iterate 9 refine sta H fun wx H=>?_
       repeat (first | refine lIa H ?_ | refine lLa H ?_ | refine lBa H ?_ | refine lPa H ?_ | refine lSa H ?_)
       exact ⟨_,⟨rfl,rfl⟩,H.drop .nil⟩
    have hre:=ref_enc (c:=cd ws 8) hI
    cases he:encM (cd ws 8) with
    | none =>
     have e:refV (cd ws 8) = .tuple [.agg [.int .u64 0,.int .u64 0,.int .u64 0,.int .u64 0].toArray,.bool false].toArray:=by unfold refV; rw [hre,he]; rfl
     rw [e]
     refine ⟨_,_,_,_,_,rfl,?_⟩
     refine alc_o H fun b146 wx H=>?_
     iterate 4 refine sta H fun wx H=>?_
     refine join_o (cnd_i (fun _=>?_) (fun h=>by cases h))
     exact fin true (by rw [he]; simp) _ _ (H.perm (L1:=[row b11 (cd ws 8).cells tCmd,row b7 [.int .i64 0,.int .i64 0,.int .i64 0,.int .i64 0,.int .i64 0,.int .i64 0,.int .i64 0,.int .i64 0,.bool false] tCmd]) (by repeat (first | exact Cut.nil | (apply Cut.cons; (repeat (first | exact Pick.here | apply Pick.there))))))
    | some xs =>
     obtain ⟨x0,x1,x2,x3,rfl⟩:=four (enc_range he).1
     have e:refV (cd ws 8) = .tuple [.agg [.int .u64 x0,.int .u64 x1,.int .u64 x2,.int .u64 x3].toArray,.bool true].toArray:=by unfold refV; rw [hre,he]; rfl
     rw [e]
     refine ⟨_,_,_,_,_,rfl,?_⟩
     refine alc_o H fun b146 wx H=>?_
     iterate 4 refine sta H fun wx H=>?_
     refine join_o (cnd_i (fun h=>by cases h) fun _=>?_)
     subst hws
     repeat (first | refine lIa H ?_ | refine lLa H ?_ | refine lBa H ?_ | refine lPa H ?_ | refine lSa H ?_)
     refine eq4 ?_
     exact fin _ (by rw [he]; simp only [ne_eq,Option.some.injEq,Bool.not_eq_true',decide_eq_false_iff_not]) _ _ (H.perm (L1:=[row b11 (cd [a0,a1,a2,a3] 8).cells tCmd,row b7 [.int .i64 0,.int .i64 0,.int .i64 0,.int .i64 0,.int .i64 0,.int .i64 0,.int .i64 0,.int .i64 0,.bool false] tCmd]) (by repeat (first | exact Cut.nil | (apply Cut.cons; (repeat (first | exact Pick.here | apply Pick.there))))))
theorem rd8_range {bs:List Int} (h:∀ x∈bs,0≤x∧x < 256) (a off:Int) (k:Nat):0≤rd8 bs a off k∧rd8 bs a off k < 2 ^ 64:=by
 unfold rd8
 have h1:=le_nonneg (bs:=cut bs (a + offK off k).toNat 8) fun x hx=>h x (cut_mem hx)
 have hl:(cut bs (a + offK off k).toNat 8).length≤8:=by unfold cut; rw [List.length_take]; omega
 have hp:(256:Int) ^ (cut bs (a + offK off k).toNat 8).length≤256 ^ 8:=by
  have:(256:Nat) ^ (cut bs (a + offK off k).toNat 8).length≤256 ^ 8:=Nat.pow_le_pow_right (by omega) hl
  exact_mod_cast this
 have h8:(256:Int) ^ 8 = 18446744073709551616:=by decide
 exact ⟨h1.1,by omega⟩
theorem refLoad_t (b:Nat) (bs:List Int) (a s off:Int):Tri P F.zzcS [ptr b,winV a s,.int .i64 off] [memI b bs] fun v L'=>v = loadV bs a s off∧L' = [memI b bs]:=by
 intro w S hS
 refine zzk7 ?_
 unfold zzcS
 have H:=Own.start hS
 obtain ⟨hr,hlen⟩:=zzlR H (b:=b) (bs:=bs) .here
 refine alc_o H fun b5 wx H=>alc_o H fun b7 wx H=>alc_o H fun b9 wx H=>?_
 refine loop_o (fun (st:Int) L=>∃ k:Nat,k≤4∧(∀ j,j < k→errE bs.length a s (offK off j) 8 = 0)∧st = k∧L = [row b9 (wI (rds bs a off k)) tW4,row b7 [.int .i64 0,.int .i64 0,.int .i64 0,.int .i64 0,.int .i64 0,.int .i64 0,.int .i64 0,.int .i64 0,.bool false] tCmd,row b5 [.int .i64 a,.int .i64 s] tWin,memI b bs])
  (fun (st:Int)=>(4 - st).toNat) H ⟨0,by omega,fun _ h=>absurd h (by omega),rfl,rfl⟩ ?_
 rintro _ _ wx ⟨k,hk,hg,rfl,rfl⟩ H
 unfold zzhR
 refine cnd_i (fun hc=>?_) fun hc=>?_
 · have hc:=of_decide_eq_true hc
   have hk4:k < 4:=by omega
   repeat (first | refine lIa H ?_ | refine lLa H ?_ | refine lBa H ?_ | refine lPa H ?_ | refine lSa H ?_)
   refine call_pa H (refRead_t b bs a s (offK off k) 8) fun wx H=>?_
   unfold readV
   have e1:IntKind.i64.wrap ((k:Int) + 1) = ((k + 1:Nat):Int):=by rw [W_id (by omega) (by omega)]; push_cast; rfl
   by_cases he:errE bs.length a s (offK off k) 8 = 0
   · rw [if_pos he]
     refine ⟨_,_,rfl,cnd_i (fun h=>by cases h) fun _=>?_⟩
     refine ix_i hk4 ?_
     rw [add_lit,Nat.mul_one,Nat.zero_add,e1]
     refine st1_o H (by repeat (first | exact Rep.here | apply Rep.there)) (by rw [wI_length]; exact hk4) fun wx H=>⟨⟨_,⟨k + 1,by omega,?_,rfl,rfl⟩,?_⟩,by omega⟩
     · intro j hj
       by_cases e:j = k
       · rw [e]; exact he
       · exact hg j (by omega)
     · rw [wI_set] at H
       rw [← rds_next bs a off hk4]
       exact H
   · rw [if_neg he]
     refine ⟨_,_,rfl,cnd_i (fun _=>?_) (fun h=>absurd (by simpa using h) he)⟩
     iterate 9 refine sta H fun wx H=>?_
     repeat (first | refine lIa H ?_ | refine lLa H ?_ | refine lBa H ?_ | refine lPa H ?_ | refine lSa H ?_)
     have hl:ldOk bs.length a s off = false:=by
      unfold ldOk
      refine Bool.eq_false_iff.2 fun h=>he ?_
      exact of_decide_eq_true (List.all_eq_true.1 h k (List.mem_range.2 hk4))
     have e:loadM bs a s off = (cm0,42):=by unfold loadM; rw [hl]; rfl
     exact ⟨_,⟨by unfold loadV; rw [e]; rfl,rfl⟩,H.dp⟩
 · have hc:=of_decide_eq_false hc
   have:k = 4:=by omega
   subst this
   have hl:ldOk bs.length a s off = true:=by
    unfold ldOk
    exact List.all_eq_true.2 fun k hk=>decide_eq_true (hg k (List.mem_range.1 hk))
   repeat (first | refine lIa H ?_ | refine lLa H ?_ | refine lBa H ?_ | refine lPa H ?_ | refine lSa H ?_)
   refine call_p H (refDecode_t (rd8 bs a off 0) (rd8 bs a off 1) (rd8 bs a off 2) (rd8 bs a off 3) ?_) (by repeat (first | exact Cut.nil | (apply Cut.cons; (repeat (first | exact Pick.here | apply Pick.there))))) fun wx H=>?_
   · intro x hx
     simp only [List.mem_cons,List.not_mem_nil,or_false] at hx
     rcases hx with rfl | rfl | rfl | rfl <;> exact rd8_range hr _ _ _
   have hrd:rds bs a off 4 = [rd8 bs a off 0,rd8 bs a off 1,rd8 bs a off 2,rd8 bs a off 3]:=rfl
   unfold refDecV
   rw [← hrd]
   cases hd:decM (rds bs a off 4) with
   | none =>
    have e:loadM bs a s off = (cm0,160):=by unfold loadM; rw [hl,if_pos rfl,hd]
    refine ⟨_,_,_,_,_,_,_,_,_,_,rfl,alc_o H fun b57 wx H=>?_⟩
    iterate 9 refine sta H fun wx H=>?_
    refine cnd_i (fun _=>?_) (fun h=>by cases h)
    iterate 9 refine sta H fun wx H=>?_
    repeat (first | refine lIa H ?_ | refine lLa H ?_ | refine lBa H ?_ | refine lPa H ?_ | refine lSa H ?_)
    exact ⟨_,⟨by unfold loadV; rw [e]; rfl,rfl⟩,H.dp⟩
   | some c =>
    have e:loadM bs a s off = (c,0):=by unfold loadM; rw [hl,if_pos rfl,hd]
    refine ⟨_,_,_,_,_,_,_,_,_,_,rfl,alc_o H fun b57 wx H=>?_⟩
    iterate 9 refine sta H fun wx H=>?_
    refine cnd_i (fun h=>by cases h) fun _=>?_
    repeat (first | refine lIa H ?_ | refine lLa H ?_ | refine lBa H ?_ | refine lPa H ?_ | refine lSa H ?_)
    iterate 9 refine sta H fun wx H=>?_
    repeat (first | refine lIa H ?_ | refine lLa H ?_ | refine lBa H ?_ | refine lPa H ?_ | refine lSa H ?_)
    exact ⟨_,⟨by unfold loadV; rw [e]; rfl,rfl⟩,H.dp⟩
theorem refStore_t (b:Nat) (bs:List Int) (a s off:Int) (c:Cm) (hI:-9223372036854775808≤c.addr∧c.addr≤9223372036854775807):Tri P F.zzcv [ptr b,winV a s,.int .i64 off,cmV c] [memI b bs] fun v L'=>v = .int .i64 (storeE bs.length a s off c)∧L' = [memI b (storeM bs a s off c)]:=by
 intro w S hS
 refine zzkv ?_
 unfold zzcv
 have H:=Own.start hS
 obtain ⟨hr,hlen⟩:=zzlR H (b:=b) (bs:=bs) .here
 refine alc_o H fun b14 wx H=>alc_o H fun b16 wx H=>?_
 repeat (first | refine lIa H ?_ | refine lLa H ?_ | refine lBa H ?_ | refine lPa H ?_ | refine lSa H ?_)
 refine call_pa H (refEncode_t c hI) fun wx H=>?_
 have hre:=ref_enc (c:=c) hI
 cases he:encM c with
 | none =>
  have e:refV c = .tuple [.agg [.int .u64 0,.int .u64 0,.int .u64 0,.int .u64 0].toArray,.bool false].toArray:=by unfold refV; rw [hre,he]; rfl
  rw [e]
  refine ⟨_,_,_,_,_,rfl,?_⟩
  refine alc_o H fun b34 wx H=>?_
  iterate 4 refine sta H fun wx H=>?_
  refine cnd_i (fun _=>⟨[memI b (storeM bs a s off c)],⟨by unfold storeE; rw [he],rfl⟩,?_⟩) (fun h=>by cases h)
  unfold storeM
  rw [he]
  exact H.dp
 | some ws =>
  obtain ⟨h4,hwr⟩:=enc_range he
  obtain ⟨x0,x1,x2,x3,rfl⟩:=four h4
  have e:refV c = .tuple [.agg [.int .u64 x0,.int .u64 x1,.int .u64 x2,.int .u64 x3].toArray,.bool true].toArray:=by unfold refV; rw [hre,he]; rfl
  rw [e]
  refine ⟨_,_,_,_,_,rfl,?_⟩
  refine alc_o H fun b34 wx H=>?_
  iterate 4 refine sta H fun wx H=>?_
  refine cnd_i (fun h=>by cases h) fun _=>join_o ?_
  repeat (first | refine lIa H ?_ | refine lLa H ?_ | refine lBa H ?_ | refine lPa H ?_ | refine lSa H ?_)
  refine call_pa H (refHolds_t b bs a s) fun wx H=>?_
  refine ⟨_,rfl,?_⟩
  have bad:(mayE s off 8≠0∨off > IntKind.i64.wrap (s - 32)∨holdsB bs.length a s = false)→∀ wx,X.Own w S [row b34 [.int .u64 x0,.int .u64 x1,.int .u64 x2,.int .u64 x3] tW4,row b16 c.cells tCmd,row b14 [.int .i64 a,.int .i64 s] tWin,memI b bs] wx →
   zzdU (some ⟨b,0,none⟩) off (fun v w'=>∃ L',(v = .int .i64 (storeE bs.length a s off c)∧L' = [memI b (storeM bs a s off c)])∧X.Own w S L' w') b14 b34 true wx:=by
   intro hb wx H
   unfold zzdU
   refine cnd_i (fun _=>⟨[memI b (storeM bs a s off c)],⟨by unfold storeE; rw [he]; dsimp only; rw [if_pos hb],rfl⟩,?_⟩) (fun h=>by cases h)
   unfold storeM
   rw [he]
   dsimp only
   rw [if_pos hb]
   exact H.dp
  cases hh:holdsB bs.length a s
  · exact cnd_i (fun _=>bad (.inr (.inr hh)) _ H) (fun h=>by cases h)
  obtain ⟨g1,g2,g3,g4⟩:=holdsB_iff.1 hh
  have hw8:IntKind.i64.wrap (s - 8) = s - 8:=W_id (by omega) (by omega)
  have hw32:IntKind.i64.wrap (s - 32) = s - 32:=W_id (by omega) (by omega)
  refine cnd_i (fun h=>by cases h) fun _=>⟨by omega,cnd_i (fun h=>bad (.inl ?_) _ H) fun h=>cnd_i (fun h2=>bad (.inl ?_) _ H) fun h2=>?_⟩
  · have h:Int.tmod off 8≠0:=by simpa using h
    unfold mayE
    rw [if_neg (by omega),if_pos h]; omega
  · have h:Int.tmod off 8 = 0:=by simpa using h
    have h2:=of_decide_eq_true h2
    unfold mayE
    rw [if_neg (by omega),if_neg (by omega),if_pos (.inl h2)]; omega
  have h:Int.tmod off 8 = 0:=by simpa using h
  have h2:=of_decide_eq_false h2
  repeat (first | refine lIa H ?_ | refine lLa H ?_ | refine lBa H ?_ | refine lPa H ?_ | refine lSa H ?_)
  by_cases h3:off > IntKind.i64.wrap (s - 32)
  · rw [decide_eq_true h3]
    exact bad (.inr (.inl h3)) _ H
  rw [decide_eq_false h3]
  have hn:¬ (mayE s off 8≠0∨off > IntKind.i64.wrap (s - 32)∨holdsB bs.length a s = false):=by
   rw [hh]
   have:mayE s off 8 = 0:=by
    unfold mayE
    rw [if_neg (by omega),if_neg (by omega),if_neg (by omega)]
   rintro (h4 | h4 | h4)
   · exact h4 this
   · exact h3 h4
   · cases h4
  unfold zzdU
  refine cnd_i (fun h=>by cases h) fun _=>?_
  refine loop_o (fun (st:Int) L=>∃ k:Nat,k≤4∧st = k∧L = [row b34 [.int .u64 x0,.int .u64 x1,.int .u64 x2,.int .u64 x3] tW4,row b16 c.cells tCmd,row b14 [.int .i64 a,.int .i64 s] tWin,memI b (stW bs a s off [x0,x1,x2,x3] k)])
   (fun (st:Int)=>(4 - st).toNat) H ⟨0,by omega,rfl,rfl⟩ ?_
  rintro _ _ wx ⟨k,hk,rfl,rfl⟩ H
  unfold zzhr
  refine cnd_i (fun hc=>?_) fun hc=>?_
  · have hc:=of_decide_eq_true hc
    have hk4:k < 4:=by omega
    have e1:IntKind.i64.wrap ((k:Int) + 1) = ((k + 1:Nat):Int):=by rw [W_id (by omega) (by omega)]; push_cast; rfl
    have hv:0≤([x0,x1,x2,x3]:List Int).getD k 0∧([x0,x1,x2,x3]:List Int).getD k 0 < 2 ^ 64:=by
     refine hwr _ ?_
     rw [List.getD_eq_getElem?_getD,List.getElem?_eq_getElem (by exact hk4)]
     exact List.getElem_mem _
    refine drw_o H fun wx H=>?_
    repeat (first | refine lIa H ?_ | refine lLa H ?_ | refine lBa H ?_ | refine lPa H ?_ | refine lSa H ?_)
    refine ix_i hk4 ?_
    rw [add_lit,Nat.mul_one,Nat.zero_add]
    refine ldI_o H .here (wI_get (ws:=[x0,x1,x2,x3]) hk4) ?_
    refine call_oa H (refWrite_t b (stW bs a s off [x0,x1,x2,x3] k) a s (offK off k) 8 ([x0,x1,x2,x3].getD k 0) hv) fun vx L' wx hq H=>?_
    obtain ⟨rfl,rfl⟩:=hq
    simp only [List.cons_append,List.nil_append] at H
    refine ⟨_,rfl,?_⟩
    rw [e1]
    exact ⟨⟨_,⟨k + 1,by omega,rfl,rfl⟩,H.perm (L1:=[row b34 [.int .u64 x0,.int .u64 x1,.int .u64 x2,.int .u64 x3] tW4,row b16 c.cells tCmd,row b14 [.int .i64 a,.int .i64 s] tWin,memI b (stW bs a s off [x0,x1,x2,x3] (k + 1))]) (F:=[]) (by repeat (first | exact Cut.nil | (apply Cut.cons; (repeat (first | exact Pick.here | apply Pick.there)))))⟩,by omega⟩
  · have hc:=of_decide_eq_false hc
    have:k = 4:=by omega
    subst this
    refine ⟨[memI b (storeM bs a s off c)],⟨by unfold storeE; rw [he]; dsimp only; rw [if_neg hn],rfl⟩,?_⟩
    unfold storeM
    rw [he]
    dsimp only
    rw [if_neg hn]
    exact H.dp
theorem right_form {s:Int} (hs:s≤9223372036854775807) (h:rightB s 32 = true):∃ N:Nat,s = 32 * (N:Int)∧1≤N∧N≤1024:=by
 obtain ⟨h1,h2,h3,h4⟩:=right_pos h
 rw [Int.tmod_eq_emod_of_nonneg (by omega)] at h3
 unfold W at h4
 rw [Int.tdiv_eq_ediv_of_nonneg (by omega),W_id (by omega) (by omega)] at h4
 exact ⟨(s / 32).toNat,by omega,by omega,by omega⟩
theorem may_form {s a:Int} (hs:s≤9223372036854775807) (h:mayB s 32 a = true):∃ N i:Nat,s = 32 * (N:Int)∧a = 32 * (i:Int)∧i < N∧N≤1024:=by
 obtain ⟨N,rfl,h1,h2⟩:=right_form hs (may_right h)
 unfold mayB at h
 simp only [Bool.and_eq_true,decide_eq_true_eq,beq_iff_eq] at h
 obtain ⟨-,g1,g2,g3⟩:=h
 rw [Int.tmod_eq_emod_of_nonneg (by omega)] at g3
 exact ⟨N,(a / 32).toNat,rfl,by omega,by omega,h2⟩
theorem refRight_t (s:Int):Tri P F.zzcz [.int .i64 s,.int .i64 32] [] fun v L'=>v = .bool (rightB s 32)∧L' = []:=by
 intro w S hS
 refine zzkF ?_
 unfold zzcz
 have H:=Own.start hS
 refine join_o (cnd_i (fun h=>by cases h) fun _=>?_)
 unfold zzhw zzhv
 have fin:∀ b:Bool,b = rightB s 32→∃ L',((Value.bool b) = .bool (rightB s 32)∧L' = [])∧X.Own w S L' w:=fun b h=>⟨_,⟨by rw [h],rfl⟩,H⟩
 refine cnd_i (fun h=>fin _ ?_) fun h=>join_o ⟨by omega,cnd_i (fun h2=>⟨by omega,fin _ ?_⟩) fun h2=>fin _ ?_⟩
 · have h:=of_decide_eq_true h
   unfold rightB; simp [h]
 · have h:=of_decide_eq_false h
   have h2:Int.tmod s 32 = 0:=by simpa using h2
   unfold rightB W
   rw [h2,decide_eq_false h]
   generalize IntKind.i64.wrap (Int.tdiv s 32) = x
   by_cases hx:x≤1024
   · rw [decide_eq_true hx,decide_eq_false (show ¬ (x > 1024) by omega)]; rfl
   · rw [decide_eq_false hx,decide_eq_true (show x > 1024 by omega)]; rfl
 · have h2:Int.tmod s 32≠0:=by simpa using h2
   unfold rightB; simp [h2]
theorem refIndex_t (s a:Int) (hs:s≤9223372036854775807):Tri P F.zzbn [.int .i64 s,.int .i64 32,.int .i64 a] [] fun v L'=>v = .int .i64 (if mayB s 32 a then a / 32 else -1)∧L' = []:=by
 intro w S hS
 refine zzkE ?_
 unfold zzbn
 have H:=Own.start hS
 refine call_pa H (refRight_t s) fun wx H=>?_
 refine ⟨_,rfl,?_⟩
 cases hr:rightB s 32 with
 | false =>
  have:mayB s 32 a = false:=by unfold mayB; rw [hr]; rfl
  refine cnd_i (fun _=>⟨_,⟨?_,rfl⟩,H⟩) (fun h=>by cases h)
  rw [this]; rfl
 | true =>
  refine cnd_i (fun h=>by cases h) fun _=>?_
  obtain ⟨N,rfl,h1,h2⟩:=right_form hs hr
  have hN:IntKind.i64.wrap (Int.tdiv (32 * (N:Int)) 32) = N:=by
   rw [Int.tdiv_eq_ediv_of_nonneg (by omega),show 32 * (N:Int) / 32 = N by omega,W_id (by omega) (by omega)]
  refine loop_o (fun (st:Int) L=>∃ k:Nat,k≤N∧(∀ j:Nat,j < k→(j:Int) * 32≠a)∧st = k∧L = []) (fun (st:Int)=>((N:Int) - st).toNat) H ⟨0,by omega,fun _ h=>absurd h (by omega),rfl,rfl⟩ ?_
  rintro _ _ wx ⟨k,hk,hg,rfl,rfl⟩ H
  unfold zzhu
  rw [hN]
  refine ⟨by omega,cnd_i (fun hc=>?_) fun hc=>?_⟩
  · have hc:=of_decide_eq_true hc
    rw [W_id (n:=(k:Int) * 32) (by omega) (by omega),W_id (n:=(k:Int) + 1) (by omega) (by omega)]
    refine cnd_i (fun h=>?_) fun h=>?_
    · have h:(k:Int) * 32 = a:=by simpa using h
      have e:a = 32 * (k:Int):=by omega
      refine ⟨_,⟨?_,rfl⟩,H⟩
      rw [e,may_n h2 (by omega),if_pos rfl]
      congr 1
      omega
    · have h:(k:Int) * 32≠a:=by simpa using h
      refine ⟨⟨_,⟨k + 1,by omega,?_,by push_cast; rfl,rfl⟩,H⟩,by omega⟩
      intro j hj
      by_cases e:j = k
      · rw [e]; exact h
      · exact hg j (by omega)
  · have hc:=of_decide_eq_false hc
    refine ⟨_,⟨?_,rfl⟩,H⟩
    cases hm:mayB (32 * (N:Int)) 32 a with
    | false=>rfl
    | true =>
     obtain ⟨N',i,e1,e2,e3,e4⟩:=may_form hs hm
     exact absurd (by omega) (hg i (by omega))
def waitL (q:Qu):List Int:=(List.range q.cnt).map (nth q.s q.r)
theorem both_form {q:Qu} (hs:q.s≤9223372036854775807) (h:q.both = true):∃ N i n:Nat,q.s = 32 * (N:Int)∧q.r = 32 * (i:Int)∧q.w = 32 * (((i + n) % N:Nat):Int)∧i < N∧n < N∧N≤1024∧q.left = n∧q.cnt = n∧leftV q.s 32 q.r q.w = n:=by
 have hb:=h
 unfold Qu.both at h
 simp only [Bool.and_eq_true] at h
 obtain ⟨N,i,e1,e2,e3,e4⟩:=may_form hs h.1
 obtain ⟨N',j,g1,g2,g3,g4⟩:=may_form hs h.2
 have:N' = N:=by omega
 subst this
 obtain ⟨n,hn,hj⟩:∃ n:Nat,n < N'∧j = (i + n) % N':=by
  by_cases e:i≤j
  · exact ⟨j - i,by omega,by rw [show i + (j - i) = j by omega,Nat.mod_eq_of_lt g3]⟩
  · exact ⟨j + N' - i,by omega,by rw [show i + (j + N' - i) = j + N' by omega,Nat.add_mod_right,Nat.mod_eq_of_lt g3]⟩
 have hl:leftV q.s 32 q.r q.w = n:=by
  rw [e1,e2,g2]
  exact left_n e4 e3 hn hj
 have hl2:q.left = n:=by unfold Qu.left; rw [hb,if_pos rfl,hl]
 exact ⟨N',i,n,e1,e2,by rw [g2,hj],e3,hn,e4,hl2,by unfold Qu.cnt; rw [hl2]; rfl,hl⟩
theorem refWaits_t (q:Qu) (hs:q.s≤9223372036854775807):Tri P F.zzcw [.int .i64 q.s,.int .i64 32,.int .i64 q.r,.int .i64 q.w] [] fun v L'=>∃ p c,v = .slice p q.cnt c∧L' = [own tInt 1 (.slice p q.cnt c) q.cnt (i64s (waitL q))]:=by
 intro w S hS
 refine zzkD ?_
 unfold zzcw
 have H:=Own.start hS
 refine call_pa H (refIndex_t q.s q.r hs) fun wx H=>?_
 refine ⟨_,rfl,?_⟩
 refine call_pa H (refIndex_t q.s q.w hs) fun wx H=>?_
 refine ⟨_,rfl,join_o ?_⟩
 have no:q.both = false→zzdV q.s 32 (fun v w'=>∃ L',(∃ p c,v = .slice p q.cnt c∧L' = [own tInt 1 (.slice p q.cnt c) q.cnt (i64s (waitL q))])∧X.Own w S L' w') (if mayB q.s 32 q.r then q.r / 32 else -1) (if mayB q.s 32 q.w then q.w / 32 else -1) true wx:=by
  intro hb
  have hc:q.cnt = 0:=by unfold Qu.cnt Qu.left; rw [hb]; rfl
  have hw:waitL q = []:=by unfold waitL; rw [hc]; rfl
  unfold zzdV
  refine cnd_i (fun _=>⟨_,⟨none,0,?_,rfl⟩,?_⟩) (fun h=>by cases h)
  · rw [hc]
  · rw [hc,hw]
    exact own_nil H
 cases hb:q.both with
 | false =>
  have hb2:=hb
  unfold Qu.both at hb
  cases hr:mayB q.s 32 q.r with
  | false =>
   have:=no hb2
   rw [hr] at this
   exact cnd_i (fun _=>this) (fun h=>by cases h)
  | true =>
   have hw:mayB q.s 32 q.w = false:=by rw [hr] at hb; simpa using hb
   obtain ⟨N,i,e1,e2,e3,e4⟩:=may_form hs hr
   have:=no hb2
   rw [hr,hw] at this
   rw [hw]
   exact cnd_i (fun h=>by have:=of_decide_eq_true h; rw [if_pos rfl,e2] at this; omega) fun _=>this
 | true =>
  obtain ⟨N,i,n,e1,e2,e3,hi,hn,hN,g1,g2,g3⟩:=both_form hs hb
  unfold Qu.both at hb
  simp only [Bool.and_eq_true] at hb
  have hwl:waitL q = (List.range n).map (nth q.s q.r):=by unfold waitL; rw [g2]
  rw [hb.1,hb.2,g2,hwl,e1,e2,e3]
  have hj:(i + n) % N < N:=Nat.mod_lt _ (by omega)
  rw [if_pos rfl,if_pos rfl,show 32 * (i:Int) / 32 = i by omega,show 32 * (((i + n) % N:Nat):Int) / 32 = (((i + n) % N:Nat):Int) by omega]
  refine cnd_i (fun h=>by have:=of_decide_eq_true h; omega) fun _=>?_
  rw [decide_eq_false (show ¬ ((((i + n) % N:Nat):Int) < 0) by omega)]
  unfold zzdV
  refine cnd_i (fun h=>by cases h) fun _=>?_
  have H:=own_nil (e:=tInt) (size:=1) H
  refine loop_o (fun (st:Int×Option Addr×Nat×Nat) L=>∃ (t:Nat) (p:Option Addr) (c:Nat),t≤n∧st = ((((i + t) % N:Nat):Int),p,t,c)∧L = [own tInt 1 (.slice p t c) t (i64s ((List.range t).map (nth (32 * (N:Int)) (32 * (i:Int)))))])
   (fun (st:Int×Option Addr×Nat×Nat)=>n - st.2.2.1) H ⟨0,none,0,by omega,by rw [Nat.add_zero,Nat.mod_eq_of_lt hi],rfl⟩ ?_
  rintro _ _ wx ⟨t,p,c,ht,rfl,rfl⟩ H
  unfold zzht
  dsimp only
  have hit:(i + t) % N < N:=Nat.mod_lt _ (by omega)
  have cs:∀ t:Nat,t < N→(i + t) % N = i + t∧i + t < N∨(i + t) % N = i + t - N∧N≤i + t:=by
   intro t ht
   by_cases e:i + t < N
   · exact .inl ⟨Nat.mod_eq_of_lt e,e⟩
   · exact .inr ⟨by rw [Nat.mod_eq_sub_mod (by omega),Nat.mod_eq_of_lt (by omega)],by omega⟩
  refine cnd_i (fun hc=>join_o ?_) fun hc=>?_
  · have hc:((((i + t) % N:Nat):Int))≠(((i + n) % N:Nat):Int):=by simpa using hc
    have htn:t < n:=by
     rcases Nat.lt_or_ge t n with h | h
     · exact h
     · have:t = n:=by omega
       subst this; exact absurd rfl hc
    refine alc_o H fun b34 wx H=>?_
    rw [W_id (n:=((((i + t) % N:Nat):Int)) * 32) (by omega) (by omega)] at H
    have hrow:=H.row (b:=b34) (by repeat (first | exact Pick.here | apply Pick.there))
    have hlen:(i64s ((List.range t).map (nth (32 * (N:Int)) (32 * (i:Int))))).length = t:=by rw [i64s_length]; simp
    refine app_o appPl (by omega) H (e:=tInt) (size:=1) (p:=p) (n:=t) (c:=c) (xs:=i64s ((List.range t).map (nth (32 * (N:Int)) (32 * (i:Int))))) (by repeat (first | exact Pick.here | apply Pick.there)) (q:=some ⟨b34,0,none⟩) (m:=1) (news:=[.int .i64 (((((i + t) % N:Nat):Int)) * 32)]) (fun j u hj=>⟨_,rfl,?_⟩) rfl (fun u hu=>by simp at hu; subst hu; rfl) (by unfold maxLen; omega) (by omega) fun p' c' wx H=>?_
    · rw [add_lit,Nat.zero_add,hrow.cell]; exact hj
    have hnew:i64s ((List.range t).map (nth (32 * (N:Int)) (32 * (i:Int)))) ++ [.int .i64 (((((i + t) % N:Nat):Int)) * 32)] = i64s ((List.range (t + 1)).map (nth (32 * (N:Int)) (32 * (i:Int)))):=by
     rw [List.range_succ,List.map_append,i64s_append]
     congr 1
     simp only [List.map_cons,List.map_nil,i64s]
     rw [nth_n hN hi,Int.mul_comm]
    rw [hnew] at H
    have hdiv:IntKind.i64.wrap (Int.tdiv (32 * (N:Int)) 32) = N:=by
     rw [Int.tdiv_eq_ediv_of_nonneg (by omega),show 32 * (N:Int) / 32 = N by omega,W_id (by omega) (by omega)]
    rw [hdiv,W_id (n:=_ + 1) (by omega) (by omega)]
    unfold zzhs
    have hnext:((i + (t + 1)) % N:Nat) = if (i + t) % N + 1 = N then 0 else (i + t) % N + 1:=by
     rw [show i + (t + 1) = i + t + 1 by omega,← Nat.mod_add_mod]
     split
     · rename_i e; rw [e,Nat.mod_self]
     · exact Nat.mod_eq_of_lt (by omega)
    refine ⟨by omega,cnd_i (fun h=>?_) fun h=>?_⟩
    · have h:((((i + t) % N:Nat):Int)) + 1 = (N:Int):=by simpa using h
      refine ⟨⟨_,⟨t + 1,p',c',by omega,?_,rfl⟩,H.dp⟩,by show n - (t + 1) < n - t; omega⟩
      rw [hnext,if_pos (by omega)]; rfl
    · have h:¬ (((((i + t) % N:Nat):Int)) + 1 = (N:Int)):=by simpa using h
      refine ⟨⟨_,⟨t + 1,p',c',by omega,?_,rfl⟩,H.dp⟩,by show n - (t + 1) < n - t; omega⟩
      rw [hnext,if_neg (by omega)]; push_cast; rfl
  · have hc:((((i + t) % N:Nat):Int)) = (((i + n) % N:Nat):Int):=by simpa using hc
    have htn:t = n:=by
     have:=cs t (by omega)
     have:=cs n hn
     omega
    subst htn
    exact ⟨_,⟨p,c,rfl,rfl⟩,H⟩
abbrev SmallS (q:Qu):Prop:=q.s≤9223372036854775807
theorem rWaits_t (q:Qu) (hs:SmallS q):Tri P F.zzaz [quV q] [] fun v L'=>∃ p c,v = .slice p q.cnt c∧L' = [own tInt 1 (.slice p q.cnt c) q.cnt (i64s (waitL q))]:=by
 intro w S hS
 refine zziA ?_
 unfold zzaz
 have H:=Own.start hS
 refine alc_o H fun b5 wx H=>?_
 repeat (first | refine lIa H ?_ | refine lLa H ?_ | refine lBa H ?_ | refine lPa H ?_ | refine lSa H ?_)
 refine call_oa H (refWaits_t q hs) fun vx L' wx hq H=>?_
 obtain ⟨p,c,rfl,rfl⟩:=hq
 simp only [List.cons_append,List.nil_append] at H
 exact ⟨_,_,_,rfl,_,⟨p,c,rfl,rfl⟩,H.dp⟩
theorem rMay_t (q:Qu) (hs:SmallS q) (a:Int):Tri P F.zzaF [quV q,.int .i64 a] [] fun v L'=>v = .bool (mayB q.s 32 a)∧L' = []:=by
 intro w S hS
 refine zzjn ?_
 unfold zzaF
 have H:=Own.start hS
 refine alc_o H fun b5 wx H=>?_
 repeat (first | refine lIa H ?_ | refine lLa H ?_ | refine lBa H ?_ | refine lPa H ?_ | refine lSa H ?_)
 refine call_pa H (refIndex_t q.s a hs) fun wx H=>?_
 refine ⟨_,rfl,_,⟨?_,rfl⟩,H.dp⟩
 cases hm:mayB q.s 32 a with
 | false=>rfl
 | true =>
  obtain ⟨N,i,e1,e2,e3,e4⟩:=may_form hs hm
  rw [if_pos rfl,decide_eq_true (by omega)]
theorem rRoom_t (q:Qu) (hs:SmallS q):Tri P F.zzbg [quV q] [] fun v L'=>v = .int .i64 q.room∧L' = []:=by
 intro w S hS
 refine zzi2 ?_
 unfold zzbg
 have H:=Own.start hS
 refine alc_o H fun b5 wx H=>join_o ?_
 unfold zzfI
 repeat (first | refine lIa H ?_ | refine lLa H ?_ | refine lBa H ?_ | refine lPa H ?_ | refine lSa H ?_)
 refine call_pa H (rMay_t q hs q.r) fun wx H=>?_
 refine ⟨_,rfl,?_⟩
 cases hr:mayB q.s 32 q.r with
 | false =>
  have:q.room = 0:=by unfold Qu.room Qu.both; rw [hr]; rfl
  rw [this]
  exact cnd_i (fun _=>cnd_i (fun _=>⟨_,⟨rfl,rfl⟩,H.dp⟩) (fun h=>by cases h)) (fun h=>by cases h)
 | true =>
  refine cnd_i (fun h=>by cases h) fun _=>?_
  repeat (first | refine lIa H ?_ | refine lLa H ?_ | refine lBa H ?_ | refine lPa H ?_ | refine lSa H ?_)
  refine call_pa H (rMay_t q hs q.w) fun wx H=>?_
  refine ⟨_,rfl,?_⟩
  cases hw:mayB q.s 32 q.w with
  | false =>
   have:q.room = 0:=by unfold Qu.room Qu.both; rw [hr,hw]; rfl
   rw [this]
   exact cnd_i (fun _=>⟨_,⟨rfl,rfl⟩,H.dp⟩) (fun h=>by cases h)
  | true =>
   have hb:q.both = true:=by unfold Qu.both; rw [hr,hw]; rfl
   obtain ⟨N,i,n,e1,e2,e3,hi,hn,hN,g1,g2,g3⟩:=both_form hs hb
   refine cnd_i (fun h=>by cases h) fun _=>?_
   refine drw_o H fun wx H=>?_
   repeat (first | refine lIa H ?_ | refine lLa H ?_ | refine lBa H ?_ | refine lPa H ?_ | refine lSa H ?_)
   refine ⟨by omega,?_⟩
   repeat (first | refine lIa H ?_ | refine lLa H ?_ | refine lBa H ?_ | refine lPa H ?_ | refine lSa H ?_)
   refine call_oa H (rWaits_t q hs) fun vx L' wx hq H=>?_
   obtain ⟨p,c,rfl,rfl⟩:=hq
   simp only [List.cons_append,List.nil_append] at H
   refine ⟨_,_,_,rfl,ldI_o H (by repeat (first | exact Pick.here | apply Pick.there)) rfl rfl,_,⟨?_,rfl⟩,H.dp⟩
   unfold Qu.room roomV
   rw [hb,if_pos rfl,g3,g2]
   rfl
theorem rNext_t (q:Qu) (hs:SmallS q) (a:Int) (hm:mayB q.s 32 a = true):Tri P F.zzaQ [quV q,.int .i64 a] [] fun v L'=>v = .int .i64 (nextQ q.s a)∧L' = []:=by
 intro w S hS
 refine zzi3 ?_
 unfold zzaQ
 have H:=Own.start hS
 refine alc_o H fun b5 wx H=>?_
 repeat (first | refine lIa H ?_ | refine lLa H ?_ | refine lBa H ?_ | refine lPa H ?_ | refine lSa H ?_)
 obtain ⟨N,i,e1,e2,e3,e4⟩:=may_form hs hm
 rw [e1,e2,nextQ_n e4 e3,W_id (by omega) (by omega)]
 refine cnd_i (fun h=>⟨_,⟨?_,rfl⟩,H.dp⟩) fun h=>⟨_,⟨?_,rfl⟩,H.dp⟩
 · have h:32 * (i:Int) + 32 = 32 * (N:Int):=by simpa using h
   rw [show i + 1 = N by omega,Nat.mod_self]; rfl
 · have h:¬ (32 * (i:Int) + 32 = 32 * (N:Int)):=by simpa using h
   rw [Nat.mod_eq_of_lt (by omega)]
   exact congrArg _ (by push_cast; omega)
theorem room_both {q:Qu} (h:¬ (q.room < 1)):q.both = true:=by
 cases hb:q.both with
 | true=>rfl
 | false =>
  exfalso
  apply h
  unfold Qu.room
  rw [hb,if_neg (by decide)]
  omega
theorem rPut_t (b m:Nat) (q:Qu) (hs:SmallS q) (bs:List Int) (c:Cm) (hI:-9223372036854775808≤c.addr∧c.addr≤9223372036854775807):Tri P F.zzbr [ptr b,ptr m,cmV c] [row b q.cells tRq,memI m bs] fun v L'=>v = .int .i64 (putQ q bs c).2.2∧L' = [row b (putQ q bs c).1.cells tRq,memI m (putQ q bs c).2.1]:=by
 intro w S hS
 refine zzjd ?_
 unfold zzbr
 have H:=Own.start hS
 unfold Qu.cells at H
 refine alc_o H fun b12 wx H=>?_
 dsimp only [nn]
 simp only [add_lit]
 repeat (first | refine lIa H ?_ | refine lLa H ?_ | refine lBa H ?_ | refine lPa H ?_ | refine lSa H ?_)
 refine call_pa H (rRoom_t q hs) fun wx H=>?_
 refine ⟨_,rfl,cnd_i (fun h=>?_) fun h=>?_⟩
 · have e:putQ q bs c = (q,bs,2):=by unfold putQ; rw [if_pos (of_decide_eq_true h)]
   rw [e]
   exact ⟨_,⟨rfl,rfl⟩,H.dp⟩
 have h:=of_decide_eq_false h
 have hb:=room_both h
 unfold Qu.both at hb
 simp only [Bool.and_eq_true] at hb
 refine drw_o H fun wx H=>?_
 repeat (first | refine lIa H ?_ | refine lLa H ?_ | refine lBa H ?_ | refine lPa H ?_ | refine lSa H ?_)
 refine call_oa H (refStore_t m bs q.a q.s q.w c hI) fun vx L' wx hq H=>?_
 obtain ⟨rfl,rfl⟩:=hq
 simp only [List.cons_append,List.nil_append] at H
 refine ⟨_,rfl,join_o ?_⟩
 unfold zzfW
 refine cnd_i (fun h2=>?_) fun h2=>?_
 · have h2:storeE bs.length q.a q.s q.w c = 0:=by simpa using h2
   have e:putQ q bs c = ({ q with w:=nextQ q.s q.w },storeM bs q.a q.s q.w c,0):=by unfold putQ; rw [if_neg h,if_neg (by rw [h2]; simp)]
   rw [e,h2]
   refine drw_o H fun wx H=>?_
   repeat (first | refine lIa H ?_ | refine lLa H ?_ | refine lBa H ?_ | refine lPa H ?_ | refine lSa H ?_)
   refine call_pa H (rNext_t q hs q.w hb.2) fun wx H=>?_
   refine ⟨_,rfl,?_⟩
   refine sta H fun wx H=>?_
   exact ⟨_,⟨rfl,rfl⟩,H.drop (by unfold Qu.cells; exact (by repeat (first | exact Cut.nil | (apply Cut.cons; (repeat (first | exact Pick.here | apply Pick.there))))))⟩
 · have h2:storeE bs.length q.a q.s q.w c≠0:=by simpa using h2
   have e:putQ q bs c = (q,storeM bs q.a q.s q.w c,storeE bs.length q.a q.s q.w c):=by unfold putQ; rw [if_neg h,if_pos h2]
   rw [e]
   exact ⟨_,⟨rfl,rfl⟩,H.drop (by unfold Qu.cells; exact (by repeat (first | exact Cut.nil | (apply Cut.cons; (repeat (first | exact Pick.here | apply Pick.there))))))⟩
theorem left_cnt {q:Qu} (hs:SmallS q):q.left = (q.cnt:Int):=by
 cases hb:q.both with
 | true =>
  obtain ⟨N,i,n,e1,e2,e3,hi,hn,hN,g1,g2,g3⟩:=both_form hs hb
  rw [g1,g2]
 | false =>
  unfold Qu.cnt Qu.left
  rw [hb]; rfl
theorem cnt_both {q:Qu} (h:q.cnt≠0):q.both = true:=by
 cases hb:q.both with
 | true=>rfl
 | false =>
  exfalso
  apply h
  unfold Qu.cnt Qu.left
  rw [hb]; rfl
theorem rHead_t (m:Nat) (q:Qu) (hs:SmallS q) (bs:List Int):Tri P F.zzbh [quV q,ptr m] [memI m bs] fun v L'=>v = .tuple [cmV (headQ q bs).1,.int .i64 (headQ q bs).2].toArray∧L' = [memI m bs]:=by
 intro w S hS
 refine zzi5 ?_
 unfold zzbh
 have H:=Own.start hS
 refine alc_o H fun b6 wx H=>alc_o H fun b8 wx H=>?_
 repeat (first | refine lIa H ?_ | refine lLa H ?_ | refine lBa H ?_ | refine lPa H ?_ | refine lSa H ?_)
 refine call_oa H (rWaits_t q hs) fun vx L' wx hq H=>?_
 obtain ⟨p,c,rfl,rfl⟩:=hq
 simp only [List.cons_append,List.nil_append] at H
 have hlc:=left_cnt hs
 refine ⟨_,_,_,rfl,cnd_i (fun h=>?_) fun h=>?_⟩
 · have h:(q.cnt:Int) = 0:=by simpa using h
   have e:headQ q bs = (cm0,170):=by unfold headQ; rw [if_pos (by omega)]
   rw [e]
   iterate 9 refine sta H fun wx H=>?_
   repeat (first | refine lIa H ?_ | refine lLa H ?_ | refine lBa H ?_ | refine lPa H ?_ | refine lSa H ?_)
   exact ⟨_,⟨rfl,rfl⟩,H.dp⟩
 have h:¬ ((q.cnt:Int) = 0):=by simpa using h
 have e:headQ q bs = loadM bs q.a q.s q.r:=by unfold headQ; rw [if_neg (by omega)]
 rw [e]
 repeat (first | refine lIa H ?_ | refine lLa H ?_ | refine lBa H ?_ | refine lPa H ?_ | refine lSa H ?_)
 refine call_pa H (refLoad_t m bs q.a q.s q.r) fun wx H=>?_
 unfold loadV
 generalize loadM bs q.a q.s q.r = z
 refine ⟨_,_,_,_,_,_,_,_,_,_,rfl,?_⟩
 iterate 9 refine sta H fun wx H=>?_
 repeat (first | refine lIa H ?_ | refine lLa H ?_ | refine lBa H ?_ | refine lPa H ?_ | refine lSa H ?_)
 exact ⟨_,⟨rfl,rfl⟩,H.dp⟩
def rv0:Rv:=⟨false,false,false,0,⟨0,0,0,0⟩,[],[],[],List.replicate 8 (-1)⟩
def a0:Sls:=⟨none,0,none,0,none,0⟩
theorem RNew_t:Tri P F.zzdw [] [] fun v L'=>∃ b,v = ptr b∧L' = [refI b rv0]:=by
 intro w S hS
 refine zzlo ?_
 unfold zzdw
 have H:=Own.start hS
 refine alc_o H fun b1 wx H=>?_
 refine loop_o (fun (st:Int) L=>∃ k:Nat,k≤8∧st = k∧L = [row b1 (Rv.cells { rv0 with colls:=List.replicate k (-1) ++ List.replicate (8 - k) 0 } a0) tRv]) (fun (st:Int)=>(8 - st).toNat) H ⟨0,by omega,rfl,rfl⟩ ?_
 rintro _ _ wx ⟨k,hk,rfl,rfl⟩ H
 unfold zzig
 refine cnd_i (fun h=>?_) fun h=>?_
 · have h:=of_decide_eq_true h
   have hk8:k < 8:=by omega
   refine ix_i hk8 ?_
   rw [add_lit,Nat.mul_one]
   have hlt:11 + k < (Rv.cells { rv0 with colls:=List.replicate k (-1) ++ List.replicate (8 - k) 0 } a0).length:=by
    simp only [Rv.cells,List.length_cons,i64s,List.length_map,List.length_append,List.length_replicate]; omega
   refine st1_o H .here hlt fun wx H=>?_
   rw [colls_set] at H
   rw [W_id (by omega) (by omega)]
   have e:(List.replicate k (-1:Int) ++ List.replicate (8 - k) 0).set k (-1) = List.replicate (k + 1) (-1) ++ List.replicate (8 - (k + 1)) 0:=by
    have h1:k = 0∨k = 1∨k = 2∨k = 3∨k = 4∨k = 5∨k = 6∨k = 7:=by omega
    rcases h1 with rfl | rfl | rfl | rfl | rfl | rfl | rfl | rfl <;> rfl
   rw [e] at H
   exact ⟨⟨_,⟨k + 1,by omega,by push_cast; rfl,rfl⟩,H⟩,by omega⟩
 · have h:=of_decide_eq_false h
   have hk:k = 8:=by omega
   subst hk
   have H:X.Own w S (nums none 0 [] :: _) wx:=own_nil H
   have H:X.Own w S (nums none 0 [] :: _) wx:=own_nil H
   have H:X.Own w S (els EQ none 0 [] :: _) wx:=own_nil H
   exact ⟨_,⟨b1,rfl,rfl⟩,ref_shut (d:=rv0) (a:=a0) rfl (H.perm (L1:=[row b1 (rv0.cells a0) tRv,nums none 0 [],nums none 0 [],els EQ none 0 []]) (by repeat (first | exact Cut.nil | (apply Cut.cons; (repeat (first | exact Pick.here | apply Pick.there))))))⟩
theorem refFair_t (a s:Int):Tri P F.zzcU [winV a s] [] fun v L'=>v = .bool (fairB a s)∧L' = []:=by
 intro w S hS
 refine zzla ?_
 unfold zzcU
 have H:=Own.start hS
 refine alc_o H fun b3 wx H=>join_o ?_
 unfold zzhU
 unfold fairB
 repeat (first | refine lIa H ?_ | refine lLa H ?_ | refine lBa H ?_ | refine lPa H ?_ | refine lSa H ?_)
 refine cnd_i (fun h=>?_) fun h=>?_
 · rw [h]
   repeat (first | refine lIa H ?_ | refine lLa H ?_ | refine lBa H ?_ | refine lPa H ?_ | refine lSa H ?_)
   refine cnd_i (fun h=>?_) fun h=>?_
   · rw [h]
     repeat (first | refine lIa H ?_ | refine lLa H ?_ | refine lBa H ?_ | refine lPa H ?_ | refine lSa H ?_)
     refine cnd_i (fun h=>?_) fun h=>?_
     · rw [h]
       repeat (first | refine lIa H ?_ | refine lLa H ?_ | refine lBa H ?_ | refine lPa H ?_ | refine lSa H ?_)
       exact ⟨_,⟨rfl,rfl⟩,H.dp⟩
     · rw [h]
       exact ⟨_,⟨rfl,rfl⟩,H.dp⟩
   · rw [h]
     exact ⟨_,⟨rfl,rfl⟩,H.dp⟩
 · rw [h]
   exact ⟨_,⟨rfl,rfl⟩,H.dp⟩
def partR (a s x n:Int):(Int×Int)×Int:=if fairB a s = true∧0≤x∧0≤n∧x≤s∧n≤wi (s - x) then ((wi (a + x),n),0) else ((0,0),42)
theorem refPart_t (a s x n:Int):Tri P F.zzb3 [winV a s,.int .i64 x,.int .i64 n] [] fun v L'=>v = .tuple [winV (partR a s x n).1.1 (partR a s x n).1.2,.int .i64 (partR a s x n).2].toArray∧L' = []:=by
 intro w S hS
 refine zzk4 ?_
 unfold zzb3
 have H:=Own.start hS
 refine alc_o H fun b5 wx H=>alc_o H fun b7 wx H=>join_o ?_
 have go:∀ (y:Bool) (wx:World),X.Own w S [row b7 [.int .i64 0,.int .i64 0] tWin,row b5 [.int .i64 a,.int .i64 s] tWin] wx→(y = true↔¬ (fairB a s = true∧0≤x∧0≤n∧x≤s∧n≤wi (s - x)))→zzfK x n (fun v w'=>∃ L',(v = .tuple [winV (partR a s x n).1.1 (partR a s x n).1.2,.int .i64 (partR a s x n).2].toArray∧L' = [])∧X.Own w S L' w') b5 b7 y wx:=by
  intro y wx H hy
  unfold zzfK
  refine cnd_i (fun h=>?_) fun h=>?_
  · iterate 2 refine sta H fun wx H=>?_
    repeat (first | refine lIa H ?_ | refine lLa H ?_ | refine lBa H ?_ | refine lPa H ?_ | refine lSa H ?_)
    exact ⟨_,⟨by unfold partR; rw [if_neg (hy.1 h)]; rfl,rfl⟩,H.dp⟩
  · have h:fairB a s = true∧0≤x∧0≤n∧x≤s∧n≤wi (s - x):=by
     rcases Decidable.em (fairB a s = true∧0≤x∧0≤n∧x≤s∧n≤wi (s - x)) with h1 | h1
     · exact h1
     · rw [hy.2 h1] at h; cases h
    repeat (first | refine lIa H ?_ | refine lLa H ?_ | refine lBa H ?_ | refine lPa H ?_ | refine lSa H ?_)
    iterate 2 refine sta H fun wx H=>?_
    repeat (first | refine lIa H ?_ | refine lLa H ?_ | refine lBa H ?_ | refine lPa H ?_ | refine lSa H ?_)
    exact ⟨_,⟨by unfold partR; rw [if_pos h]; rfl,rfl⟩,H.dp⟩
 repeat (first | refine lIa H ?_ | refine lLa H ?_ | refine lBa H ?_ | refine lPa H ?_ | refine lSa H ?_)
 refine call_pa H (refFair_t a s) fun wx H=>?_
 refine ⟨_,rfl,?_⟩
 refine cnd_i (fun h=>go true _ (H.dp) (by have h:fairB a s = false:=(by simpa using h); simp [h])) fun h=>?_
 have h:fairB a s = true:=by simpa using h
 refine cnd_i (fun h1=>go true _ (H.dp) (by have h1:=of_decide_eq_true h1; simp; omega)) fun h1=>?_
 have h1:=of_decide_eq_false h1
 refine cnd_i (fun h2=>go true _ (H.dp) (by have h2:=of_decide_eq_true h2; simp; omega)) fun h2=>?_
 have h2:=of_decide_eq_false h2
 repeat (first | refine lIa H ?_ | refine lLa H ?_ | refine lBa H ?_ | refine lPa H ?_ | refine lSa H ?_)
 refine cnd_i (fun h3=>go true _ (H.dp) (by have h3:=of_decide_eq_true h3; simp; omega)) fun h3=>?_
 have h3:=of_decide_eq_false h3
 repeat (first | refine lIa H ?_ | refine lLa H ?_ | refine lBa H ?_ | refine lPa H ?_ | refine lSa H ?_)
 refine go _ _ (H.dp) ?_
 rw [decide_eq_true_eq]
 constructor
 · rintro h4 ⟨-,-,-,-,h5⟩
   have h4:n > wi (s - x):=h4
   omega
 · intro h4
   show n > wi (s - x)
   rcases Decidable.em (n > wi (s - x)) with h5 | h5
   · exact h5
   · exact absurd ⟨h,by omega,by omega,by omega,by omega⟩ h4
theorem RPassV_t (b:Nat) (d:Rv) (a:Sls) (hs:SmallS d.q):Tri P F.zzbi [.pointer (some ⟨b,4,none⟩)] [row b (d.cells a) tRv] fun v L'=>v = .int .i64 (passQ d.q).2∧L' = [row b (Rv.cells { d with q:=(passQ d.q).1 } a) tRv]:=by
 intro w S hS
 refine zzi6 ?_
 unfold zzbi
 have H:=Own.start hS
 dsimp only [nn]
 simp only [add_lit]
 repeat (first | refine lIa H ?_ | refine lLa H ?_ | refine lBa H ?_ | refine lPa H ?_ | refine lSa H ?_)
 refine call_oa H (rWaits_t d.q hs) fun vx L' wx hq H=>?_
 obtain ⟨p,c,rfl,rfl⟩:=hq
 simp only [List.cons_append,List.nil_append] at H
 have hlc:=left_cnt hs
 refine ⟨_,_,_,rfl,cnd_i (fun h=>?_) fun h=>?_⟩
 · have h:(d.q.cnt:Int) = 0:=by simpa using h
   have e:passQ d.q = (d.q,170):=by unfold passQ; rw [if_pos (by omega)]
   rw [e]
   exact ⟨_,⟨rfl,rfl⟩,H.dp⟩
 have h:¬ ((d.q.cnt:Int) = 0):=by simpa using h
 have hb:=cnt_both (q:=d.q) (by omega)
 unfold Qu.both at hb
 simp only [Bool.and_eq_true] at hb
 have e:passQ d.q = ({ d.q with r:=nextQ d.q.s d.q.r },0):=by unfold passQ; rw [if_neg (by omega)]
 rw [e]
 refine drw_o H fun wx H=>?_
 repeat (first | refine lIa H ?_ | refine lLa H ?_ | refine lBa H ?_ | refine lPa H ?_ | refine lSa H ?_)
 refine call_pa H (rNext_t d.q hs d.q.r hb.1) fun wx H=>?_
 refine ⟨_,rfl,?_⟩
 refine sta H fun wx H=>?_
 exact ⟨_,⟨rfl,rfl⟩,H.dp⟩
theorem RSetWriteV_t (b:Nat) (d:Rv) (a:Sls) (hs:SmallS d.q) (at':Int):Tri P F.zzaI [.pointer (some ⟨b,4,none⟩),.int .i64 at'] [row b (d.cells a) tRv] fun v L'=>v = .int .i64 (setQ d.q at').2∧L' = [row b (Rv.cells { d with q:=(setQ d.q at').1 } a) tRv]:=by
 intro w S hS
 refine zzhG ?_
 unfold zzaI
 have H:=Own.start hS
 dsimp only [nn]
 simp only [add_lit]
 repeat (first | refine lIa H ?_ | refine lLa H ?_ | refine lBa H ?_ | refine lPa H ?_ | refine lSa H ?_)
 refine call_pa H (rMay_t d.q hs at') fun wx H=>?_
 refine ⟨_,rfl,?_⟩
 unfold setQ
 cases mayB d.q.s 32 at'
 · exact cnd_i (fun _=>⟨_,⟨rfl,rfl⟩,H⟩) (fun h=>by cases h)
 · refine cnd_i (fun h=>by cases h) fun _=>?_
   refine sta H fun wx H=>?_
   exact ⟨_,⟨rfl,rfl⟩,H⟩
def rbaseN (v:Int):Int:=IntKind.i64.wrap ((IntKind.i64.wrap ((IntKind.i64.wrap ((Int.tmod v 256))) + 1)) * 256)
def rbaseX (v:Int):Int:=IntKind.i64.wrap ((IntKind.u64.wrap ((IntKind.u64.wrap (Int.tdiv (Int.tmod v 281474976710656) 256)) * 256)))
def rbaseB (v:Int):Int:=IntKind.u64.wrap ((Int.tmod v 281474976710656) + (IntKind.u64.wrap ((Int.fdiv v (2 ^ min (Int.toNat 63) (IntKind.u64.bits))) * 2 ^ min (Int.toNat 63) (IntKind.u64.bits))))
def rbaseV (v:Int):Bool:=(Int.fdiv v (2 ^ min (Int.toNat 63) (IntKind.u64.bits))) == 1
def rwAt (v:Int):Int:=IntKind.i64.wrap ((IntKind.u64.wrap ((IntKind.u64.wrap (Int.tdiv (Int.tmod v 1048576) 32)) * 32)))
def rbaseOk (v:Int) (r:Ru):Bool:=rbaseV v && ((partR r.a r.s (rbaseX v) (rbaseN v)).2 == 0 && decide (IntKind.i64.wrap (Int.tdiv (rbaseN v) 32)≤1024))
def rbaseR (d:Rv) (v:Int) (r:Ru):Rv :=
 { d with base:=rbaseB v,st:=false,fit:=rbaseOk v r,q:=if rbaseOk v r then ⟨(partR r.a r.s (rbaseX v) (rbaseN v)).1.1,(partR r.a r.s (rbaseX v) (rbaseN v)).1.2,0,0⟩ else ⟨0,0,0,0⟩ }
def rstopR (v:Int) (d:Rv):Rv:=if (Int.tmod v 2) == 1 then { d with st:=false } else d
def rcwR (k v:Int) (d:Rv):Rv:=if k = 20 then rstopR v (if d.fit then { d with q:=(setQ d.q (rwAt v)).1 } else d) else d
def rcbR (k v:Int) (r:Ru) (d:Rv):Rv:=if k = 19∧d.on = false then rbaseR d v r else d
def rctR (k v:Int) (d:Rv):Rv:=if k = 1 then { d with on:=(Int.tmod v 2) == 1 } else d
def rwriteM (d:Rv) (off width v:Int) (r:Ru):Rv×Int :=
 if (itsM off width).2≠0 then (d,(itsM off width).2)
 else (rcwR (itsM off width).1.1 v (rcbR (itsM off width).1.1 v r (rctR (itsM off width).1.1 v d)),0)
theorem RWrite_t (b:Nat) (d:Rv) (off width v:Int) (r:Ru) {po:Option Addr} {no co:Nat} (hs:SmallS d.q):Tri P F.zzbe [ptr b,.int .i64 off,.int .i64 width,.int .u64 v,ruV r po no co] [refI b d] fun x L'=>x = .int .i64 (rwriteM d off width v r).2∧L' = [refI b (rwriteM d off width v r).1]:=by
 intro w S hS
 refine zziO ?_
 unfold zzbe
 have H:=Own.start hS
 refine alc_o H fun b12 wx H=>?_
 refine call_pa H (refIts_t off width) fun wx H=>?_
 unfold rwriteM
 generalize itsM off width = I at *
 obtain ⟨⟨k,f1,f2⟩,e⟩:=I
 dsimp only
 refine ⟨_,_,_,_,rfl,alc_o H fun b20 wx H=>?_⟩
 iterate 3 refine sta H fun wx H=>?_
 refine cnd_i (fun h=>?_) fun h=>join_o ?_
 · rw [if_pos (by simpa using h)]
   exact ⟨_,⟨rfl,rfl⟩,H.dp⟩
 rw [if_neg (by simpa using h)]
 have fin:∀ (d2:Rv) (wx:World),SmallS d2.q→X.Own w S [refI b d2,row b20 [.int .i64 k,.int .i64 f1,.int .i64 f2] tPlace10] wx→zzbo (some ⟨b,0,none⟩) v (fun x w'=>∃ L',(x = .int .i64 0∧L' = [refI b (rcwR k v d2)])∧X.Own w S L' w') b20 wx:=by
  intro d2 wx hs2 H
  unfold zzbo
  refine join_o ?_
  unfold zzfE
  unfold rcwR
  repeat (first | refine lIa H ?_ | refine lLa H ?_ | refine lBa H ?_ | refine lPa H ?_ | refine lSa H ?_)
  refine cnd_i (fun h1=>?_) fun h1=>?_
  · rw [if_pos (by simpa using h1)]
    refine join_o ?_
    have fin2:∀ (d3:Rv) (wx:World),X.Own w S [refI b d3] wx→zzdF (some ⟨b,0,none⟩) v (fun _ w'=>∃ L',(Value.int .i64 0 = .int .i64 0∧L' = [refI b (rstopR v d3)])∧X.Own w S L' w') wx:=by
     intro d3 wx H
     unfold zzdF
     unfold rstopR
     refine ⟨by omega,cnd_i (fun h2=>?_) fun h2=>?_⟩
     · rw [if_pos h2]
       obtain ⟨a,hc8,H⟩:=ref_open H (by repeat (first | exact Pick.here | apply Pick.there))
       dsimp only [nn]
       rw [add_lit]
       refine sta H fun wx H=>?_
       exact ⟨_,⟨rfl,rfl⟩,ref_shut (d:={ d3 with st:=false }) (a:=a) hc8 H⟩
     · rw [if_neg (by rw [h2]; simp)]
       exact ⟨_,⟨rfl,rfl⟩,H⟩
    obtain ⟨a,hc8,H⟩:=ref_open H (by repeat (first | exact Pick.here | apply Pick.there))
    dsimp only [nn]
    repeat (first | refine lIa H ?_ | refine lLa H ?_ | refine lBa H ?_ | refine lPa H ?_ | refine lSa H ?_)
    refine cnd_i (fun hf=>?_) fun hf=>?_
    · rw [if_pos hf,add_lit]
      refine ⟨by omega,by omega,?_⟩
      refine call_o H (RSetWriteV_t b d2 a hs2 (rwAt v)) (by repeat (first | exact Cut.nil | (apply Cut.cons; (repeat (first | exact Pick.here | apply Pick.there))))) fun vx L' wx hq H=>?_
      obtain ⟨rfl,rfl⟩:=hq
      simp only [List.cons_append,List.nil_append] at H
      refine ⟨_,rfl,fin2 { d2 with q:=(setQ d2.q (rwAt v)).1 } wx ?_⟩
      exact (ref_shut (d:={ d2 with q:=(setQ d2.q (rwAt v)).1 }) (a:=a) hc8 (H.perm (L1:=[row b (Rv.cells { d2 with q:=(setQ d2.q (rwAt v)).1 } a) tRv,nums a.p1 a.c1 d2.devs,nums a.p2 a.c2 d2.bits,els EQ a.p3 a.c3 d2.routes]) (by repeat (first | exact Cut.nil | (apply Cut.cons; (repeat (first | exact Pick.here | apply Pick.there))))))).dp
    · rw [if_neg (by rw [hf]; simp)]
      exact fin2 d2 wx ((ref_shut hc8 H).dp)
  · rw [if_neg (by simpa using h1)]
    exact ⟨_,⟨rfl,rfl⟩,H.dp⟩
 have mid:∀ (d1:Rv) (wx:World),SmallS d1.q→X.Own w S [refI b d1,row b20 [.int .i64 k,.int .i64 f1,.int .i64 f2] tPlace10,row b12 [.int .i64 r.a,.int .i64 r.s,.int .i64 r.vcpus,.int .i64 r.lpis,.slice po no co] tRru] wx →
  zzdI (some ⟨b,0,none⟩) v (fun x w'=>∃ L',(x = .int .i64 0∧L' = [refI b (rcwR k v (rcbR k v r d1))])∧X.Own w S L' w') b12 b20 wx:=by
  intro d1 wx hs1 H
  unfold zzdI
  refine join_o (join_o ?_)
  have go:∀ (x:Bool) (wx:World),(x = true↔(k = 19∧d1.on = false))→X.Own w S [refI b d1,row b20 [.int .i64 k,.int .i64 f1,.int .i64 f2] tPlace10,row b12 [.int .i64 r.a,.int .i64 r.s,.int .i64 r.vcpus,.int .i64 r.lpis,.slice po no co] tRru] wx →
   zzdH (some ⟨b,0,none⟩) v b12 (fun _ w'=>zzbo (some ⟨b,0,none⟩) v (fun x w'=>∃ L',(x = .int .i64 0∧L' = [refI b (rcwR k v (rcbR k v r d1))])∧X.Own w S L' w') b20 w') x wx:=by
   intro x wx hx H
   unfold zzdH
   refine cnd_i (fun h1=>?_) fun h1=>?_
   · have e1:rcbR k v r d1 = rbaseR d1 v r:=by unfold rcbR; rw [if_pos (hx.1 h1)]
     rw [e1]
     refine ⟨by omega,by omega,by omega,?_⟩
     obtain ⟨a,hc8,H⟩:=ref_open H (by repeat (first | exact Pick.here | apply Pick.there))
     dsimp only [nn]
     simp only [add_lit]
     iterate 7 refine sta H fun wx H=>?_
     refine ⟨by omega,?_⟩
     repeat (first | refine lIa H ?_ | refine lLa H ?_ | refine lBa H ?_ | refine lPa H ?_ | refine lSa H ?_)
     refine ⟨by omega,by omega,?_⟩
     change CV P F.zzb3 [winV r.a r.s,.int .i64 (rbaseX v),.int .i64 (rbaseN v)] _ _
     refine call_pa H (refPart_t r.a r.s (rbaseX v) (rbaseN v)) fun wx H=>?_
     have hsm:(partR r.a r.s (rbaseX v) (rbaseN v)).1.2≤9223372036854775807:=by
      unfold partR
      split
      · exact (W_range _).2
      · show (0:Int)≤_; omega
     generalize hp:partR r.a r.s (rbaseX v) (rbaseN v) = p at *
     obtain ⟨⟨pa,ps⟩,pe⟩:=p
     dsimp only at hsm
     refine ⟨_,_,_,rfl,alc_o H fun b66 wx H=>?_⟩
     iterate 2 refine sta H fun wx H=>?_
     refine join_o ?_
     have go2:∀ (y:Bool) (wx:World),y = rbaseOk v r→X.Own w S [row b66 [.int .i64 pa,.int .i64 ps] tWin,row b (Rv.cells { d1 with base:=rbaseB v,st:=false,fit:=false,q:=⟨0,0,0,0⟩ } a) tRv,nums a.p1 a.c1 d1.devs,nums a.p2 a.c2 d1.bits,els EQ a.p3 a.c3 d1.routes,row b20 [.int .i64 k,.int .i64 f1,.int .i64 f2] tPlace10] wx →
      zzdG (some ⟨b,0,none⟩) (fun _ w'=>zzbo (some ⟨b,0,none⟩) v (fun x w'=>∃ L',(x = .int .i64 0∧L' = [refI b (rcwR k v (rbaseR d1 v r))])∧X.Own w S L' w') b20 w') b66 y wx:=by
      intro y wx hy H
      unfold zzdG
      refine cnd_i (fun h2=>?_) fun h2=>?_
      · have e2:rbaseR d1 v r = { d1 with base:=rbaseB v,st:=false,fit:=true,q:=⟨pa,ps,0,0⟩ }:=by
         unfold rbaseR
         rw [← hy,h2,hp,if_pos rfl]
        rw [e2]
        dsimp only [nn]
        simp only [add_lit]
        refine sta H fun wx H=>?_
        repeat (first | refine lIa H ?_ | refine lLa H ?_ | refine lBa H ?_ | refine lPa H ?_ | refine lSa H ?_)
        iterate 2 refine sta H fun wx H=>?_
        refine fin { d1 with base:=rbaseB v,st:=false,fit:=true,q:=⟨pa,ps,0,0⟩ } wx hsm ?_
        have H:=H.perm (L1:=[row b (Rv.cells { d1 with base:=rbaseB v,st:=false,fit:=true,q:=⟨pa,ps,0,0⟩ } a) tRv,nums a.p1 a.c1 d1.devs,nums a.p2 a.c2 d1.bits,els EQ a.p3 a.c3 d1.routes]) (by repeat (first | exact Cut.nil | (apply Cut.cons; (repeat (first | exact Pick.here | apply Pick.there)))))
        exact (ref_shut (d:={ d1 with base:=rbaseB v,st:=false,fit:=true,q:=⟨pa,ps,0,0⟩ }) (a:=a) hc8 H).dp
      · have e2:rbaseR d1 v r = { d1 with base:=rbaseB v,st:=false,fit:=false,q:=⟨0,0,0,0⟩ }:=by
         unfold rbaseR
         rw [← hy,h2,if_neg (by simp)]
        rw [e2]
        refine fin { d1 with base:=rbaseB v,st:=false,fit:=false,q:=⟨0,0,0,0⟩ } wx (by show (0:Int)≤_; omega) ?_
        have H:=H.perm (L1:=[row b (Rv.cells { d1 with base:=rbaseB v,st:=false,fit:=false,q:=⟨0,0,0,0⟩ } a) tRv,nums a.p1 a.c1 d1.devs,nums a.p2 a.c2 d1.bits,els EQ a.p3 a.c3 d1.routes]) (by repeat (first | exact Cut.nil | (apply Cut.cons; (repeat (first | exact Pick.here | apply Pick.there)))))
        exact (ref_shut (d:={ d1 with base:=rbaseB v,st:=false,fit:=false,q:=⟨0,0,0,0⟩ }) (a:=a) hc8 H).dp
     have hok:rbaseOk v r = (rbaseV v && (pe == 0 && decide (IntKind.i64.wrap (Int.tdiv (rbaseN v) 32)≤1024))):=by unfold rbaseOk; rw [hp]
     refine ⟨by omega,cnd_i (fun h2=>cnd_i (fun h3=>⟨by omega,?_⟩) fun h3=>?_) fun h2=>?_⟩
     · have h2:rbaseV v = true:=h2
       exact go2 _ _ (by rw [hok,h2,h3]; rfl) (H.dp)
     · exact go2 false _ (by rw [hok,h3]; simp) (H.dp)
     · have h2:rbaseV v = false:=h2
       exact go2 false _ (by rw [hok,h2]; simp) (H.dp)
   · have e1:rcbR k v r d1 = d1:=by
      unfold rcbR
      rw [if_neg (fun hh=>by rw [hx.2 hh] at h1; cases h1)]
     rw [e1]
     exact fin d1 wx hs1 (H.dp)
  repeat (first | refine lIa H ?_ | refine lLa H ?_ | refine lBa H ?_ | refine lPa H ?_ | refine lSa H ?_)
  refine cnd_i (fun h1=>?_) fun h1=>?_
  · obtain ⟨a,hc8,H⟩:=ref_open H (by repeat (first | exact Pick.here | apply Pick.there))
    dsimp only [nn]
    repeat (first | refine lIa H ?_ | refine lLa H ?_ | refine lBa H ?_ | refine lPa H ?_ | refine lSa H ?_)
    exact go _ _ (by have h1:k = 19:=(by simpa using h1); simp [h1]) ((ref_shut hc8 H).dp)
  · exact go false _ (by have h1:k≠19:=(by simpa using h1); simp [h1]) H
 repeat (first | refine lIa H ?_ | refine lLa H ?_ | refine lBa H ?_ | refine lPa H ?_ | refine lSa H ?_)
 unfold rctR
 refine cnd_i (fun h1=>?_) fun h1=>?_
 · rw [if_pos (by simpa using h1)]
   refine ⟨by omega,?_⟩
   obtain ⟨a,hc8,H⟩:=ref_open H (by repeat (first | exact Pick.here | apply Pick.there))
   dsimp only [nn]
   refine sta H fun wx H=>?_
   refine mid { d with on:=(Int.tmod v 2) == 1 } wx hs ?_
   have H:=H.perm (L1:=[row b (Rv.cells { d with on:=(Int.tmod v 2) == 1 } a) tRv,nums a.p1 a.c1 d.devs,nums a.p2 a.c2 d.bits,els EQ a.p3 a.c3 d.routes]) (by repeat (first | exact Cut.nil | (apply Cut.cons; (repeat (first | exact Pick.here | apply Pick.there)))))
   exact (ref_shut (d:={ d with on:=(Int.tmod v 2) == 1 }) (a:=a) hc8 H).dp
 · rw [if_neg (by simpa using h1)]
   exact mid d wx hs (H.dp)
def Rv.head (d:Rv):Bool×Bool×Bool×Int×Qu:=(d.on,d.st,d.fit,d.base,d.q)
theorem allR_head (d:Rv) (dev:Int):∀ n,(allR d dev n).2.head = d.head
 | 0=>rfl
 | n + 1=>by
  rw [allR_succ,← allR_head d dev n]
  unfold fgR
  split <;> rfl
theorem goneR_head (d:Rv) (dev:Int):(goneR d dev).2.head = d.head:=by
 have h:=allR_head d dev 16
 unfold goneR
 generalize allR d dev 16 = A at *
 split
 · exact h
 · rfl
theorem mapdR_head (d:Rv) (c:Cm) (size:Int):(mapdR d c size).2.1.head = d.head:=by
 have hg:=goneR_head d c.dev
 unfold mapdR
 generalize goneR d c.dev = G at *
 generalize mapdRE c size = e
 by_cases h:e≠0
 · rw [if_pos h]
 · rw [if_neg h]
   dsimp only
   cases c.val
   · exact hg
   · exact hg
theorem vdoR_head (d:Rv) (c:Cm) (r:Ru) (owned:List Int):(vdoR d c r owned).2.1.head = d.head:=by
 unfold vdoR
 split
 · rfl
 split
 · unfold mapcR; split
   · rfl
   split <;> rfl
 split
 · split <;> rfl
 split
 · split
   · rfl
   split <;> rfl
 split
 · rfl
 split
 · exact mapdR_head d c r.s
 have hm:∀ n,(maptiR d c n r.lpis).2.1.head = d.head:=by
  intro n
  unfold maptiR
  split
  · rfl
  split
  · rfl
  split
  · rfl
  split
  · rfl
  dsimp only
  split <;> rfl
 split
 · exact hm _
 split
 · exact hm _
 unfold singleR
 split
 · rfl
 split
 · rfl
 split
 · rfl
 split
 · split
   · rfl
   split <;> rfl
 split
 · rfl
 · rfl
theorem vdoR_q (d:Rv) (c:Cm) (r:Ru) (owned:List Int):(vdoR d c r owned).2.1.q = d.q:=congrArg (fun x=>x.2.2.2.2) (vdoR_head d c r owned)
theorem load_addr {bs:List Int} {a s off:Int}:0≤(loadM bs a s off).1.addr∧(loadM bs a s off).1.addr < 1099511627776 * 256:=by
 unfold loadM
 split
 · split
   · rename_i c hc
     obtain ⟨-,hf,h3,-,-⟩:=encM_some (enc_dec hc)
     have h6:=hf 6 (by omega)
     have h7:c.get 6 = c.addr / 256:=rfl
     have h8:(2:Int) ^ ps c.op 6 = 1099511627776:=rfl
     rw [h7,h8] at h6
     dsimp only
     omega
   · show 0≤(0:Int)∧(0:Int) < _; omega
 · show 0≤(0:Int)∧(0:Int) < _; omega
theorem head_addr (q:Qu) (bs:List Int):0≤(headQ q bs).1.addr∧(headQ q bs).1.addr < 1099511627776 * 256:=by
 unfold headQ
 split
 · show 0≤(0:Int)∧(0:Int) < _; omega
 · exact load_addr
def rstepM (d:Rv) (bs:List Int) (r:Ru) (owned:List Int):Cm×List Ch×Rv×Int :=
 if d.on = false then (cm0,[],d,191)
 else if d.st = true then (cm0,[],d,190)
 else if d.fit = false then (cm0,[],{ d with st:=true },241)
 else if (headQ d.q bs).2 = 170 then (cm0,[],d,170)
 else if (headQ d.q bs).2≠0 then (cm0,[],{ d with st:=true },(headQ d.q bs).2)
 else if (vdoR d (headQ d.q bs).1 r owned).2.2≠0 then (cm0,[],{ (vdoR d (headQ d.q bs).1 r owned).2.1 with st:=true },(vdoR d (headQ d.q bs).1 r owned).2.2)
 else ((headQ d.q bs).1,(vdoR d (headQ d.q bs).1 r owned).1,{ (vdoR d (headQ d.q bs).1 r owned).2.1 with q:=(passQ (vdoR d (headQ d.q bs).1 r owned).2.1.q).1 },0)
theorem RStep_t (b m:Nat) (d:Rv) (bs:List Int) (r:Ru) (i:It) {po:Option Addr} {co:Nat} {owned:List Int} (hi:∀ w S,i.h w S→Sl w po (i64s owned)) (hl:owned.length < 9223372036854775807) (hF:RFits d) (hs:SmallS d.q) :
 Tri P F.zzbt [ptr b,ptr m,ruV r po owned.length co] [refI b d,memI m bs,i] fun v L'=>∃ q cc,v = .tuple [cmV (rstepM d bs r owned).1,.slice q (rstepM d bs r owned).2.1.length cc,.int .i64 (rstepM d bs r owned).2.2.2].toArray∧L' = [rcs q cc (rstepM d bs r owned).2.1,refI b (rstepM d bs r owned).2.2.1,memI m bs,i]:=by
 intro w S hS
 refine zzjf ?_
 unfold zzbt
 have H:=Own.start hS
 refine alc_o H fun b10 wx H=>alc_o H fun b12 wx H=>?_
 have err:∀ (e:Int) (s1:Rv) (wx:World),rstepM d bs r owned = (cm0,[],s1,e)→X.Own w S [refI b s1,memI m bs,i] wx →
  ∃ L',(∃ q cc,(.tuple [.agg [.int .i64 0,.int .i64 0,.int .i64 0,.int .i64 0,.int .i64 0,.int .i64 0,.int .i64 0,.int .i64 0,.bool false].toArray,.slice none 0 0,.int .i64 e].toArray:Value) = .tuple [cmV (rstepM d bs r owned).1,.slice q (rstepM d bs r owned).2.1.length cc,.int .i64 (rstepM d bs r owned).2.2.2].toArray∧L' = [rcs q cc (rstepM d bs r owned).2.1,refI b (rstepM d bs r owned).2.2.1,memI m bs,i])∧X.Own w S L' wx:=by
  intro e s1 wx h H
  refine ⟨_,⟨none,0,?_,rfl⟩,?_⟩
  · rw [h]; rfl
  · rw [h]; exact rcs_nil H
 obtain ⟨a,hc8,H⟩:=ref_open H (by repeat (first | exact Pick.here | apply Pick.there))
 dsimp only [nn]
 repeat (first | refine lIa H ?_ | refine lLa H ?_ | refine lBa H ?_ | refine lPa H ?_ | refine lSa H ?_)
 refine cnd_i (fun h=>?_) fun h=>?_
 · have h:d.on = false:=by simpa using h
   iterate 9 refine sta H fun wx H=>?_
   repeat (first | refine lIa H ?_ | refine lLa H ?_ | refine lBa H ?_ | refine lPa H ?_ | refine lSa H ?_)
   exact err 191 d _ (by unfold rstepM; rw [if_pos h]) ((ref_shut hc8 (H.perm (L1:=[row b (d.cells a) tRv,nums a.p1 a.c1 d.devs,nums a.p2 a.c2 d.bits,els EQ a.p3 a.c3 d.routes]) (by repeat (first | exact Cut.nil | (apply Cut.cons; (repeat (first | exact Pick.here | apply Pick.there))))))).dp)
 have hon:¬ d.on = false:=by simpa using h
 repeat (first | refine lIa H ?_ | refine lLa H ?_ | refine lBa H ?_ | refine lPa H ?_ | refine lSa H ?_)
 refine cnd_i (fun h=>?_) fun h=>?_
 · have h:d.st = true:=h
   iterate 9 refine sta H fun wx H=>?_
   repeat (first | refine lIa H ?_ | refine lLa H ?_ | refine lBa H ?_ | refine lPa H ?_ | refine lSa H ?_)
   exact err 190 d _ (by unfold rstepM; rw [if_neg hon,if_pos h]) ((ref_shut hc8 (H.perm (L1:=[row b (d.cells a) tRv,nums a.p1 a.c1 d.devs,nums a.p2 a.c2 d.bits,els EQ a.p3 a.c3 d.routes]) (by repeat (first | exact Cut.nil | (apply Cut.cons; (repeat (first | exact Pick.here | apply Pick.there))))))).dp)
 have hst:¬ d.st = true:=by rw [h]; simp
 repeat (first | refine lIa H ?_ | refine lLa H ?_ | refine lBa H ?_ | refine lPa H ?_ | refine lSa H ?_)
 refine cnd_i (fun h=>?_) fun h=>?_
 · have h:d.fit = false:=by simpa using h
   rw [add_lit]
   iterate 10 refine sta H fun wx H=>?_
   repeat (first | refine lIa H ?_ | refine lLa H ?_ | refine lBa H ?_ | refine lPa H ?_ | refine lSa H ?_)
   exact err 241 { d with st:=true } _ (by unfold rstepM; rw [if_neg hon,if_neg hst,if_pos h]) ((ref_shut (d:={ d with st:=true }) (a:=a) hc8 (H.perm (L1:=[row b (Rv.cells { d with st:=true } a) tRv,nums a.p1 a.c1 d.devs,nums a.p2 a.c2 d.bits,els EQ a.p3 a.c3 d.routes]) (by repeat (first | exact Cut.nil | (apply Cut.cons; (repeat (first | exact Pick.here | apply Pick.there))))))).dp)
 have hft:¬ d.fit = false:=by simpa using h
 simp only [add_lit]
 repeat (first | refine lIa H ?_ | refine lLa H ?_ | refine lBa H ?_ | refine lPa H ?_ | refine lSa H ?_)
 refine call_p H (rHead_t m d.q hs bs) (by repeat (first | exact Cut.nil | (apply Cut.cons; (repeat (first | exact Pick.here | apply Pick.there))))) fun wx H=>?_
 refine ⟨_,_,_,_,_,_,_,_,_,_,rfl,alc_o H fun b93 wx H=>?_⟩
 iterate 9 refine sta H fun wx H=>?_
 have H:=ref_shut hc8 (H.perm (L1:=[row b (d.cells a) tRv,nums a.p1 a.c1 d.devs,nums a.p2 a.c2 d.bits,els EQ a.p3 a.c3 d.routes]) (by repeat (first | exact Cut.nil | (apply Cut.cons; (repeat (first | exact Pick.here | apply Pick.there))))))
 refine cnd_i (fun h=>?_) fun h=>?_
 · have h:(headQ d.q bs).2 = 170:=by simpa using h
   iterate 9 refine sta H fun wx H=>?_
   repeat (first | refine lIa H ?_ | refine lLa H ?_ | refine lBa H ?_ | refine lPa H ?_ | refine lSa H ?_)
   refine err _ d _ ?_ (H.dp)
   unfold rstepM; rw [if_neg hon,if_neg hst,if_neg hft,if_pos h,h]
 have hh1:¬ (headQ d.q bs).2 = 170:=by simpa using h
 have pre:∀ M,(if (headQ d.q bs).2≠0 then (cm0,[],{ d with st:=true },(headQ d.q bs).2)
  else if (vdoR d (headQ d.q bs).1 r owned).2.2≠0 then (cm0,[],{ (vdoR d (headQ d.q bs).1 r owned).2.1 with st:=true },(vdoR d (headQ d.q bs).1 r owned).2.2)
  else ((headQ d.q bs).1,(vdoR d (headQ d.q bs).1 r owned).1,{ (vdoR d (headQ d.q bs).1 r owned).2.1 with q:=(passQ (vdoR d (headQ d.q bs).1 r owned).2.1.q).1 },0)) = M→rstepM d bs r owned = M:=by
  intro M hM
  unfold rstepM; rw [if_neg hon,if_neg hst,if_neg hft,if_neg hh1]; exact hM
 have hadd:=head_addr d.q bs
 generalize hhd:headQ d.q bs = hd at *
 refine cnd_i (fun h=>?_) fun h=>?_
 · have h:hd.2≠0:=by simpa using h
   obtain ⟨a,hc8,H⟩:=ref_open H (by repeat (first | exact Pick.here | apply Pick.there))
   iterate 10 refine sta H fun wx H=>?_
   repeat (first | refine lIa H ?_ | refine lLa H ?_ | refine lBa H ?_ | refine lPa H ?_ | refine lSa H ?_)
   exact err _ { d with st:=true } _ (pre _ (by rw [if_pos h])) ((ref_shut (d:={ d with st:=true }) (a:=a) hc8 (H.perm (L1:=[row b (Rv.cells { d with st:=true } a) tRv,nums a.p1 a.c1 d.devs,nums a.p2 a.c2 d.bits,els EQ a.p3 a.c3 d.routes]) (by repeat (first | exact Cut.nil | (apply Cut.cons; (repeat (first | exact Pick.here | apply Pick.there))))))).dp)
 have h:¬ hd.2≠0:=by simpa using h
 have pre:=fun M hM=>pre M (by rw [if_neg h]; exact hM)
 repeat (first | refine lIa H ?_ | refine lLa H ?_ | refine lBa H ?_ | refine lPa H ?_ | refine lSa H ?_)
 refine call_o H (VDoR_t b d hd.1 r i hi hl hF (by omega)) (by repeat (first | exact Cut.nil | (apply Cut.cons; (repeat (first | exact Pick.here | apply Pick.there))))) fun vx L' wx hq H=>?_
 obtain ⟨q,cc,rfl,rfl⟩:=hq
 simp only [List.cons_append,List.nil_append] at H
 refine ⟨_,_,_,_,rfl,?_⟩
 have hq2:(vdoR d hd.1 r owned).2.1.q = d.q:=vdoR_q d hd.1 r owned
 generalize vdoR d hd.1 r owned = V at *
 obtain ⟨xs,s1,e⟩:=V
 dsimp only at pre hq2
 dsimp only
 refine cnd_i (fun h2=>?_) fun h2=>?_
 · have h2:e≠0:=by simpa using h2
   obtain ⟨a,hc8,H⟩:=ref_open H (by repeat (first | exact Pick.here | apply Pick.there))
   iterate 10 refine sta H fun wx H=>?_
   repeat (first | refine lIa H ?_ | refine lLa H ?_ | refine lBa H ?_ | refine lPa H ?_ | refine lSa H ?_)
   exact err _ { s1 with st:=true } _ (pre _ (by rw [if_pos h2])) ((ref_shut (d:={ s1 with st:=true }) (a:=a) hc8 (H.perm (L1:=[row b (Rv.cells { s1 with st:=true } a) tRv,nums a.p1 a.c1 s1.devs,nums a.p2 a.c2 s1.bits,els EQ a.p3 a.c3 s1.routes]) (by repeat (first | exact Cut.nil | (apply Cut.cons; (repeat (first | exact Pick.here | apply Pick.there))))))).dp)
 · have h2:¬ e≠0:=by simpa using h2
   obtain ⟨a,hc8,H⟩:=ref_open H (by repeat (first | exact Pick.here | apply Pick.there))
   refine call_o H (RPassV_t b s1 a (by rw [hq2]; exact hs)) (by repeat (first | exact Cut.nil | (apply Cut.cons; (repeat (first | exact Pick.here | apply Pick.there))))) fun vx L' wx hq H=>?_
   obtain ⟨rfl,rfl⟩:=hq
   simp only [List.cons_append,List.nil_append] at H
   refine ⟨_,rfl,?_⟩
   repeat (first | refine lIa H ?_ | refine lLa H ?_ | refine lBa H ?_ | refine lPa H ?_ | refine lSa H ?_)
   iterate 9 refine sta H fun wx H=>?_
   repeat (first | refine lIa H ?_ | refine lLa H ?_ | refine lBa H ?_ | refine lPa H ?_ | refine lSa H ?_)
   have hM:=pre _ (by rw [if_neg h2])
   refine ⟨_,⟨q,cc,?_,rfl⟩,?_⟩
   · rw [hM]; rfl
   · rw [hM]
     have H:=ref_shut (d:={ s1 with q:=(passQ s1.q).1 }) (a:=a) hc8 (H.perm (L1:=[row b (Rv.cells { s1 with q:=(passQ s1.q).1 } a) tRv,nums a.p1 a.c1 s1.devs,nums a.p2 a.c2 s1.bits,els EQ a.p3 a.c3 s1.routes]) (by repeat (first | exact Cut.nil | (apply Cut.cons; (repeat (first | exact Pick.here | apply Pick.there))))))
     exact H.dp
theorem rc_fields (c d:Ch) (w:World):(Op.eqFields 9999 c.cells.toArray d.cells.toArray (P.fieldsOf tRc).toList).run P w = .ok (decide (c = d)) w:=by
 obtain ⟨c0,c1,c2,c3,c4,c5⟩:=c
 obtain ⟨d0,d1,d2,d3,d4,d5⟩:=d
 simp only [Program.fieldsOf,Tryz.underlying73,Ch.cells,tRc]
 have u3:=Tryz.underlying3
 have a3:=Tryz.isAgg3
 have z3:=Tryz.sizeOf3
 go_simp
 repeat' split
 all_goals simp_all
theorem rc_ne {c d:Ch} {w:World} {K:Bool→Prop} (h:K (!decide (c = d))):eqA P .neq tRc (.agg c.cells.toArray) (.agg d.cells.toArray) w K :=
 eqA_neq (by kernel_rfl) (by kernel_rfl) (by kernel_rfl) (rc_fields c d w) h
theorem same_t {p q:Option Addr} {c e:Nat} {xs ys:List Ch} (hl:xs.length < 9223372036854775807):Tri P F.zzaT [.slice p xs.length c,.slice q ys.length e] [chs p c xs,rcs q e ys] fun v L'=>v = .bool (decide (xs = ys))∧L' = [chs p c xs,rcs q e ys]:=by
 intro w S hS
 refine zzkO ?_
 unfold zzaT
 have H:=Own.start hS
 refine cnd_i (fun h=>?_) fun h=>?_
 · have h:xs.length≠ys.length:=by
    have h:((xs.length:Nat):Int)≠((ys.length:Nat):Int):=by simpa using h
    omega
   exact ⟨_,⟨by rw [decide_eq_false (fun hh=>h (by rw [hh]))],rfl⟩,H⟩
 have h:xs.length = ys.length:=by
  have h:((xs.length:Nat):Int) = ((ys.length:Nat):Int):=by simpa using h
  omega
 refine loop_o (fun (st:Int) L=>∃ k:Nat,k≤xs.length∧st = k∧xs.take k = ys.take k∧L = [chs p c xs,rcs q e ys]) (fun (st:Int)=>((xs.length:Int) - st).toNat) H ⟨0,by omega,rfl,rfl,rfl⟩ ?_
 rintro _ _ wx ⟨k,hk,rfl,hsm,rfl⟩ H
 unfold zzhM
 refine cnd_i (fun h1=>?_) fun h1=>?_
 · have h1:=of_decide_eq_true h1
   have hkx:k < xs.length:=by omega
   have hky:k < ys.length:=by omega
   have hx:xs[k]? = some xs[k]:=List.getElem?_eq_getElem hkx
   have hy:ys[k]? = some ys[k]:=List.getElem?_eq_getElem hky
   refine drw_o H fun wx H=>?_
   obtain ⟨dd,hp,hcell⟩:=els_at (E:=EC) (q:=p) (c:=c) H (by repeat (first | exact Pick.here | apply Pick.there)) hx
   have H0:=H
   have hce:∀ i v,(xs[k]).cells[i]? = some v→wx.drew.cell? (((⟨dd,0,none⟩:Addr).add (k * 6)).add i) = some v:=by
    intro i v hv
    rw [add_lit,add_lit,Nat.zero_add]; exact hcell i v hv
   have hce0:wx.drew.cell? ((⟨dd,0,none⟩:Addr).add (k * 6)) = some (.int .i64 xs[k].k):=by
    rw [add_lit,Nat.zero_add]; exact hcell 0 _ rfl
   refine ix_i hkx ?_
   rw [hp]
   dsimp only [nn]
   refine ⟨_,hce0,ix_i hkx ⟨_,hce 1 _ rfl,ix_i hkx ⟨_,hce 2 _ rfl,ix_i hkx ⟨_,hce 3 _ rfl,ix_i hkx ⟨_,hce 4 _ rfl,ix_i hkx ⟨_,hce 5 _ rfl,alc_o H fun b30 wx H=>?_⟩⟩⟩⟩⟩⟩
   obtain ⟨dd',hp',hcell'⟩:=els_at (E:=EC) (q:=p) (c:=c) H (.there .here) hx
   have hdd:dd' = dd:=by rw [hp] at hp'; injection hp' with h3; injection h3 with h4; exact h4.symm
   subst hdd
   have hce:∀ i v,(xs[k]).cells[i]? = some v→wx.cell? (((⟨dd',0,none⟩:Addr).add (k * 6)).add i) = some v:=by
    intro i v hv
    rw [add_lit,add_lit,Nat.zero_add]; exact hcell' i v hv
   have hce0:wx.cell? ((⟨dd',0,none⟩:Addr).add (k * 6)) = some (.int .i64 xs[k].k):=by
    rw [add_lit,Nat.zero_add]; exact hcell' 0 _ rfl
   refine ⟨⟨_,hce 5 _ rfl,rfl⟩,⟨_,hce 4 _ rfl,rfl⟩,⟨_,hce 3 _ rfl,rfl⟩,⟨_,hce 2 _ rfl,rfl⟩,⟨_,hce 1 _ rfl,rfl⟩,⟨_,hce0,rfl⟩,?_⟩
   iterate 6 refine sta H fun wx H=>?_
   refine drw_o H fun wx H=>?_
   repeat (first | refine lIa H ?_ | refine lLa H ?_ | refine lBa H ?_ | refine lPa H ?_ | refine lSa H ?_)
   refine ix_i hky ?_
   obtain ⟨d2,hp2,hcell2⟩:=els_at (E:=ED2) (q:=q) (c:=e) H (by repeat (first | exact Pick.here | apply Pick.there)) hy
   rw [hp2]
   dsimp only [nn]
   have hcf:∀ i v,(ys[k]).cells[i]? = some v→wx.cell? (((⟨d2,0,none⟩:Addr).add (k * 6)).add i) = some v:=by
    intro i v hv
    rw [add_lit,add_lit,Nat.zero_add]; exact hcell2 i v hv
   refine ⟨_,by rw [add_lit,Nat.zero_add]; exact hcell2 0 _ rfl,_,hcf 1 _ rfl,_,hcf 2 _ rfl,_,hcf 3 _ rfl,_,hcf 4 _ rfl,_,hcf 5 _ rfl,?_⟩
   refine rc_ne (c:=xs[k]) (d:=ys[k]) ?_
   rw [← hp,← hp2]
   refine cnd_i (fun h2=>?_) fun h2=>?_
   · have h2:xs[k]≠ys[k]:=by simpa using h2
     refine ⟨_,⟨?_,rfl⟩,H.dp⟩
     rw [decide_eq_false]
     intro hh
     apply h2
     simp only [hh]
   · have h2:xs[k] = ys[k]:=by simpa using h2
     rw [W_id (by omega) (by omega)]
     refine ⟨⟨_,⟨k + 1,by omega,by push_cast; rfl,?_,rfl⟩,H.dp⟩,by omega⟩
     rw [take_next hx,take_next hy,hsm,h2]
 · have h1:=of_decide_eq_false h1
   rw [List.take_of_length_le (by omega),List.take_of_length_le (by omega)] at hsm
   exact ⟨_,⟨by rw [decide_eq_true hsm],rfl⟩,H⟩
theorem app_in {L F:List It} {i:It} {p:Option Addr} {c:Nat} {xs:List Int} {ty:TypeId} {w w0:World} {S0:Nat→Prop} (H:X.Own w0 S0 L w) (hp:Pick L i F) (hi:∀ w S,i.h w S→Sl w p (i64s xs)) (hb:xs.length * 8≤140737488355328) {K:Option Addr→Nat→Nat→World→Prop}
 (k:∀ p' c' w',X.Own w0 S0 (nums p' c' xs :: L) w'→K p' xs.length c' w') :
 runS P (Builtin.append_ #[tInts,tInts] ty [.slice none 0 0,.slice p xs.length c].toArray) w K:=by
 have H:X.Own w0 S0 (nums none 0 [] :: L) w:=own_nil H
 refine app_o (n:=0) (xs:=[]) appInts (by omega) H .here (H.rd (.there hp) hi) (by unfold i64s; simp) (by intro u hu; unfold i64s at hu; obtain ⟨n,-,rfl⟩:=List.mem_map.1 hu; rfl) (by unfold maxLen; omega) (by omega) fun p' c' w' H=>?_
 have:=k p' c' w' (by
  have e:nums p' c' xs = own tInt 1 (.slice p' (0 + xs.length) c') (0 + xs.length) ([] ++ i64s xs):=by
   rw [Nat.zero_add,List.nil_append,← EI_flat]
  rw [e]; exact H)
 rw [Nat.zero_add]
 exact this
def ruA (a b:Int):Ru:=⟨512,2048,IntKind.i64.wrap (1 + IntKind.i64.wrap (Int.tmod a 4)),IntKind.i64.wrap (Int.tmod b 50)⟩
theorem rules_t (a b:Int) (i:It) {p:Option Addr} {c:Nat} {xs:List Int} (hi:∀ w S,i.h w S→Sl w p (i64s xs)) (hb:xs.length * 8≤140737488355328) :
 Tri P F.zzct [.int .u8 a,.int .u8 b,.slice p xs.length c] [i] fun v L'=>∃ q cq,v = .tuple [ruV (ruA a b) q xs.length cq,ruV (ruA a b) p xs.length c].toArray∧L' = [nums q cq xs,i]:=by
 intro w S hS
 refine zzkp ?_
 unfold zzct
 have H:=Own.start hS
 refine alc_o H fun b6 wx H=>alc_o H fun b8 wx H=>alc_o H fun b10 wx H=>?_
 iterate 2 refine sta H fun wx H=>?_
 refine app_in H (i:=i) (by repeat (first | exact Pick.here | apply Pick.there)) hi hb fun q cq wx H=>?_
 repeat (first | refine lIa H ?_ | refine lLa H ?_ | refine lBa H ?_ | refine lPa H ?_ | refine lSa H ?_)
 refine ⟨by omega,by omega,alc_o H fun b20 wx H=>?_⟩
 iterate 5 refine sta H fun wx H=>?_
 refine drw_o H fun wx H=>?_
 repeat (first | refine lIa H ?_ | refine lLa H ?_ | refine lBa H ?_ | refine lPa H ?_ | refine lSa H ?_)
 iterate 5 refine sta H fun wx H=>?_
 refine ⟨?_,?_,?_,?_⟩
 · repeat (first | refine lIa H ?_ | refine lLa H ?_ | refine lBa H ?_ | refine lPa H ?_ | refine lSa H ?_)
   rfl
 · repeat (first | refine lIa H ?_ | refine lLa H ?_ | refine lBa H ?_ | refine lPa H ?_ | refine lSa H ?_)
   rfl
 · repeat (first | refine lIa H ?_ | refine lLa H ?_ | refine lBa H ?_ | refine lPa H ?_ | refine lSa H ?_)
   rfl
 iterate 5 refine sta H fun wx H=>?_
 repeat (first | refine lIa H ?_ | refine lLa H ?_ | refine lBa H ?_ | refine lPa H ?_ | refine lSa H ?_)
 exact ⟨_,⟨q,cq,rfl,rfl⟩,H.dp⟩
def sideV (bs bm bd bn:Nat) (r:Ru) (q p:Option Addr) (n cq c:Nat):List Value:=[ptr bs,ptr bm,.int .i64 r.a,.int .i64 r.s,.int .i64 r.vcpus,.int .i64 r.lpis,.slice q n cq,ptr bd,ptr bn,.int .i64 r.a,.int .i64 r.s,.int .i64 r.vcpus,.int .i64 r.lpis,.slice p n c]
theorem begun_t (a b:Int) (i:It) {p:Option Addr} {c:Nat} {xs:List Int} (hi:∀ w S,i.h w S→Sl w p (i64s xs)) (hb:xs.length * 8≤140737488355328) :
 Tri P F.zzco [.int .u8 a,.int .u8 b,.slice p xs.length c] [i] fun v L'=>∃ bs bm bd bn q cq,v = .tuple [.agg (sideV bs bm bd bn (ruA a b) q p xs.length cq c).toArray,.bool true].toArray∧L' = [vitsI bs vi0,memI bm (List.replicate 4096 0),refI bd rv0,memI bn (List.replicate 4096 0),nums q cq xs,i]:=by
 intro w S hS
 refine zzkg ?_
 unfold zzco
 have H:=Own.start hS
 refine alc_o H fun b6 wx H=>alc_o H fun b8 wx H=>?_
 refine call_oa H (VNew_t) fun vx L' wx hq H=>?_
 obtain ⟨bs,rfl,rfl⟩:=hq
 simp only [List.cons_append,List.nil_append] at H
 refine ⟨_,rfl,?_⟩
 refine call_oa H (RNew_t) fun vx L' wx hq H=>?_
 obtain ⟨bd,rfl,rfl⟩:=hq
 simp only [List.cons_append,List.nil_append] at H
 refine ⟨_,rfl,?_⟩
 iterate 2 refine sta H fun wx H=>?_
 refine call_oa H (lawNewX_t 4096) fun vx L' wx hq H=>?_
 obtain ⟨bm,bn,rfl,rfl⟩:=hq
 simp only [List.cons_append,List.nil_append] at H
 refine ⟨_,_,rfl,?_⟩
 iterate 2 refine sta H fun wx H=>?_
 refine call_o H (rules_t a b i hi hb) (by repeat (first | exact Cut.nil | (apply Cut.cons; (repeat (first | exact Pick.here | apply Pick.there))))) fun vx L' wx hq H=>?_
 obtain ⟨q,cq,rfl,rfl⟩:=hq
 simp only [List.cons_append,List.nil_append] at H
 refine ⟨_,_,_,_,_,_,_,_,_,_,_,_,_,_,rfl,?_⟩
 iterate 10 refine sta H fun wx H=>?_
 have H:=H.drop (L1:=[row b8 [ptr bs,ptr bm,.int .i64 (ruA a b).a,.int .i64 (ruA a b).s,.int .i64 (ruA a b).vcpus,.int .i64 (ruA a b).lpis,.slice q xs.length cq,ptr bd,ptr bn,.int .i64 (ruA a b).a,.int .i64 (ruA a b).s,.int .i64 (ruA a b).vcpus,.int .i64 (ruA a b).lpis,.slice p xs.length c] T.t40,row b6 [.pointer none,.pointer none,.int .i64 0,.int .i64 0,.int .i64 0,.int .i64 0,.slice none 0 0,.pointer none,.pointer none,.int .i64 0,.int .i64 0,.int .i64 0,.int .i64 0,.slice none 0 0] T.t40,vitsI bs vi0,memI bm (List.replicate (lawN 4096) 0),refI bd rv0,memI bn (List.replicate (lawN 4096) 0),nums q cq xs,i]) (by repeat (first | exact Cut.nil | (apply Cut.cons; (repeat (first | exact Pick.here | apply Pick.there)))))
 refine join_o ?_
 unfold zzhq
 refine drw_o H fun wx H=>?_
 repeat (first | refine lIa H ?_ | refine lLa H ?_ | refine lBa H ?_ | refine lPa H ?_ | refine lSa H ?_)
 iterate 14 refine sta H fun wx H=>?_
 refine ⟨rfl,?_,?_⟩
 · repeat (first | refine lIa H ?_ | refine lLa H ?_ | refine lBa H ?_ | refine lPa H ?_ | refine lSa H ?_)
   rfl
 repeat (first | refine lIa H ?_ | refine lLa H ?_ | refine lBa H ?_ | refine lPa H ?_ | refine lSa H ?_)
 have hN:lawN 4096 = 4096:=rfl
 rw [hN] at H
 exact ⟨_,⟨bs,bm,bd,bn,q,cq,rfl,rfl⟩,H.drop (L1:=[vitsI bs vi0,memI bm (List.replicate 4096 0),refI bd rv0,memI bn (List.replicate 4096 0),nums q cq xs,i]) (by repeat (first | exact Cut.nil | (apply Cut.cons; (repeat (first | exact Pick.here | apply Pick.there)))))⟩
structure Ac where
 d:Int
 at':Int
 c:Cm
 is:Bool
 v:Int
abbrev Ac.cells (x:Ac):List Value:=.int .i64 x.d :: .int .i64 x.at' :: (x.c.cells ++ [.bool x.is,.int .u64 x.v])
def acV (x:Ac):Value:=.agg x.cells.toArray
def wideM (x:Ac):Int:=if x.is then 8 else 4
theorem wide_t (x:Ac):Tri P F.zzb2 [acV x] [] fun v L'=>v = .int .i64 (wideM x)∧L' = []:=by
 intro w S hS
 refine zzkX ?_
 unfold zzb2
 have H:=Own.start hS
 refine alc_o H fun b14 wx H=>?_
 unfold wideM
 repeat (first | refine lIa H ?_ | refine lLa H ?_ | refine lBa H ?_ | refine lPa H ?_ | refine lSa H ?_)
 refine cnd_i (fun h=>?_) fun h=>?_
 · rw [if_pos h]
   exact ⟨_,⟨rfl,rfl⟩,H.dp⟩
 · rw [if_neg (by rw [h]; simp)]
   exact ⟨_,⟨rfl,rfl⟩,H.dp⟩
theorem up_len {b:Int}:∀ (l:List Int) (a:Int),l.Pairwise (· < ·)→(∀ x∈l,a≤x∧x < b)→l.length≤(b - a).toNat
 | [],a,_,_=>by simp
 | x :: r,a,hp,hx=>by
  obtain ⟨h1,h2⟩:=List.pairwise_cons.1 hp
  have h3:=hx x (by simp)
  have h6:∀ y∈r,x + 1≤y∧y < b:=fun y hy=>by
   have h4:x < y:=h1 y hy
   have h5:=hx y (by simp [hy])
   omega
  have:=up_len r (x + 1) h2 h6
  rw [List.length_cons]
  omega
structure VGood (s:Vi):Prop where
 up:Up s.devs
 dev:∀ u∈s.devs,0≤u.1∧u.1 < 4294967296
 bits:∀ u∈s.devs,0≤u.2.bits∧u.2.bits < 4
 evup:∀ u∈s.devs,Up u.2.evs
 ev:∀ u∈s.devs,∀ e∈u.2.evs,0≤e.1∧e.1 < evN u.2.bits
 cup:Up s.colls
 coll:∀ u∈s.colls,0≤u.1∧u.1 < 8
theorem evN_16 {k:Int} (h:0≤k∧k < 4):evN k≤16∧2≤evN k:=by
 have h1:k = 0∨k = 1∨k = 2∨k = 3:=by omega
 rcases h1 with rfl | rfl | rfl | rfl <;> decide
theorem kv_len {α:Type} {kv:List (Int×α)} {n:Nat} (h:Up kv) (hx:∀ u∈kv,0≤u.1∧u.1 < (n:Int)):kv.length≤n:=by
 have:=up_len (b:=n) (ks kv) 0 h (by
  intro x hm
  unfold ks at hm
  obtain ⟨u,hu,rfl⟩:=List.mem_map.1 hm
  exact hx u hu)
 unfold ks at this
 rw [List.length_map] at this
 omega
theorem tot_le {devs:List (Int×DvI)} {n:Nat} (h:∀ u∈devs,u.2.evs.length≤n):tot devs≤n * devs.length:=by
 induction devs with
 | nil=>simp [tot]
 | cons u r ih =>
  have h1:=h u (by simp)
  have h2:=ih fun v hv=>h v (by simp [hv])
  simp only [tot,List.map_cons,List.sum_cons,List.length_cons,Nat.mul_add,Nat.mul_one] at *
  omega
theorem VGood.fits {s:Vi} (h:VGood s):Fits s 73014444040:=by
 have h1:s.devs.length≤4294967296:=kv_len h.up h.dev
 have h2:s.colls.length≤8:=kv_len h.cup h.coll
 have h3:tot s.devs≤16 * s.devs.length:=tot_le fun u hu=>kv_len (h.evup u hu) fun e he=>by
  have h4:=h.ev u hu e he
  have h5:=evN_16 (h.bits u hu)
  exact ⟨h4.1,by show e.1 < 16; omega⟩
 exact ⟨by omega,fun u hu=>(h.bits u hu).1⟩
theorem vgood0:VGood vi0:=⟨by simp [Up,vi0,ks],by simp [vi0],by simp [vi0],by simp [vi0],by simp [vi0],by simp [Up,vi0,ks],by simp [vi0]⟩
section
variable {α:Type}
theorem setK_sub {kv:List (Int×α)} {k:Int} {v:α} {x:Int×α} (hx:x∈setK kv k v):x = (k,v)∨x∈kv:=by
 unfold setK at hx
 rcases List.mem_or_eq_of_mem_set hx with h | h
 · exact .inr h
 · exact .inl h
theorem putK_sub {kv:List (Int×α)} {k:Int} {v:α} {x:Int×α} (hx:x∈putK kv k v):x = (k,v)∨x∈kv:=by
 cases h:hasK kv k
 · exact (putK_mem h).1 hx
 · unfold putK at hx
   rw [h,if_pos rfl] at hx
   exact setK_sub hx
theorem takeK_sub {kv:List (Int×α)} {k:Int} {x:Int×α} (hx:x∈takeK kv k):x∈kv:=by
 unfold takeK at hx
 split at hx
 · exact List.mem_of_mem_eraseIdx hx
 · exact hx
theorem setK_up {kv:List (Int×α)} {k:Int} {v:α} (h:hasK kv k = true) (hs:Up kv):Up (setK kv k v):=by
 unfold Up; rw [setK_ks h]; exact hs
end
theorem dev_mem {s:Vi} {dev:Int} (h:hasK s.devs dev = true):(dev,s.dev dev)∈s.devs:=List.mem_of_getElem? (dev_at h)
theorem VGood.setev {s:Vi} {dev:Int} {l:List (Int×RtE)} (g:VGood s) (h:hasK s.devs dev = true) (hl:Up l) (he:∀ e∈l,0≤e.1∧e.1 < evN (s.dev dev).bits):VGood (s.evs dev l):=by
 have hm:=dev_mem h
 refine ⟨setK_up h g.up,?_,?_,?_,?_,g.cup,g.coll⟩
 · intro u hu
   rcases setK_sub hu with rfl | hu
   · exact g.dev (dev,s.dev dev) hm
   · exact g.dev u hu
 · intro u hu
   rcases setK_sub hu with rfl | hu
   · exact g.bits (dev,s.dev dev) hm
   · exact g.bits u hu
 · intro u hu
   rcases setK_sub hu with rfl | hu
   · exact hl
   · exact g.evup u hu
 · intro u hu
   rcases setK_sub hu with rfl | hu
   · exact he
   · exact g.ev u hu
theorem VGood.forget {s:Vi} {dev ev:Int} (g:VGood s) (h:hasK s.devs dev = true):VGood (forgetS s dev ev):=by
 have hm:=dev_mem h
 exact g.setev h (takeK_up (g.evup _ hm)) fun e he=>g.ev _ hm e (takeK_sub he)
theorem VGood.put {s:Vi} {dev ev:Int} {x:RtE} (g:VGood s) (h:hasK s.devs dev = true) (he:0≤ev∧ev < evN (s.dev dev).bits):VGood (s.evs dev (putK (s.dev dev).evs ev x)):=by
 have hm:=dev_mem h
 refine g.setev h (putK_up (g.evup _ hm)) fun e hx=>?_
 rcases putK_sub hx with rfl | hx
 · exact he
 · exact g.ev _ hm e hx
theorem VGood.drop {s:Vi} (dev:Int) (g:VGood s):VGood (dropS s dev) :=
 ⟨takeK_up g.up,fun u hu=>g.dev u (takeK_sub hu),fun u hu=>g.bits u (takeK_sub hu),fun u hu=>g.evup u (takeK_sub hu),fun u hu=>g.ev u (takeK_sub hu),g.cup,g.coll⟩
theorem VGood.add {s:Vi} {dev bits:Int} (p:Nat) (g:VGood s) (hd:0≤dev∧dev < 4294967296) (hb:0≤bits∧bits < 4):VGood { s with devs:=putK s.devs dev ⟨bits,p,[]⟩ }:=by
 refine ⟨putK_up g.up,?_,?_,?_,?_,g.cup,g.coll⟩
 · intro u hu
   rcases putK_sub hu with rfl | hu
   · exact hd
   · exact g.dev u hu
 · intro u hu
   rcases putK_sub hu with rfl | hu
   · exact hb
   · exact g.bits u hu
 · intro u hu
   rcases putK_sub hu with rfl | hu
   · simp [Up,ks]
   · exact g.evup u hu
 · intro u hu
   rcases putK_sub hu with rfl | hu
   · intro e he; cases he
   · exact g.ev u hu
theorem VGood.led {s:Vi} {coll:Int} (v:Bool) (x:Int) (g:VGood s) (hc:0≤coll∧coll < 8):VGood { s with colls:=if v then putK s.colls coll x else takeK s.colls coll }:=by
 refine ⟨g.up,g.dev,g.bits,g.evup,g.ev,?_,?_⟩
 · cases v
   · exact takeK_up g.cup
   · exact putK_up g.cup
 · intro u hu
   cases v
   · exact g.coll u (takeK_sub hu)
   · rcases putK_sub (show u∈putK s.colls coll x from hu) with rfl | hu
     · exact hc
     · exact g.coll u hu
theorem VGood.fgt {dev:Int}:∀ (l:List Int) (a:List Ch×Vi),VGood a.2→hasK a.2.devs dev = true→VGood (l.foldl (fgtF dev) a).2∧hasK (l.foldl (fgtF dev) a).2.devs dev = true
 | [],a,g,h=>⟨g,h⟩
 | e :: r,a,g,h=>by
  rw [List.foldl_cons]
  exact VGood.fgt r _ (g.forget h) (ev_has h)
theorem VGood.gone {s:Vi} (dev:Int) (g:VGood s):VGood (goneM s dev).2:=by
 unfold goneM
 split
 · rename_i h
   exact (VGood.fgt (ks (s.dev dev).evs) ([],s) g h).1.drop dev
 · exact g
theorem bits_4 {k:Int} (h:0≤k∧k < 32) (he:¬ evN k > 16):k < 4:=by
 obtain ⟨n,rfl⟩:=Int.eq_ofNat_of_zero_le h.1
 rw [evN_eq (by omega)] at he
 by_cases hn:n < 4
 · omega
 · exfalso
   have h1:(2:Nat) ^ 4≤2 ^ n:=Nat.pow_le_pow_right (by omega) (by omega)
   have h2:((2 ^ n:Nat):Int) = (2:Int) ^ n:=Int.natCast_pow 2 n
   rw [← h2] at he
   omega
theorem VGood.mapd {s:Vi} {c:Cm} {size:Int} {p:Nat} (g:VGood s) (hd:0≤c.dev∧c.dev < 4294967296) (hb:0≤c.bits∧c.bits < 32):VGood (mapdM s c size p).2.1:=by
 unfold mapdM
 by_cases h:mapdE c size≠0
 · rw [if_pos h]; exact g
 · rw [if_neg h]
   have h16:¬ evN c.bits > 16:=by
    intro hh
    apply h
    unfold mapdE
    rw [if_pos hh]; omega
   have g2:=VGood.gone c.dev g
   generalize goneM s c.dev = G at *
   dsimp only
   split
   · exact g2.add p hd ⟨hb.1,bits_4 hb h16⟩
   · exact g2
theorem VGood.mapc {s:Vi} {c:Cm} {vcpus:Int} (g:VGood s) (hc:0≤c.coll):VGood (mapcM s c vcpus).2.1:=by
 unfold mapcM
 split
 · exact g
 split
 · exact g
 · exact g.led c.val c.tgt ⟨hc,by omega⟩
theorem has_ev {s:Vi} {dev ev:Int} (g:VGood s) (h:hasK s.devs dev = true) (h2:hasK (s.dev dev).evs ev = true):0≤ev∧ev < evN (s.dev dev).bits:=by
 have hm:=dev_mem h
 have h3:=kv_at (d:=rt0) h2
 exact g.ev (dev,s.dev dev) hm _ (List.mem_of_getElem? h3)
theorem VGood.mapti {s:Vi} {c:Cm} {n lpis:Int} (g:VGood s) (he:0≤c.ev):VGood (maptiM s c n lpis).2.1:=by
 unfold maptiM
 split
 · exact g
 split
 · exact g
 split
 · exact g
 split
 · exact g
 rename_i h1 h2 h3 h4
 have h:hasK s.devs c.dev = true:=by simpa using h1
 have hev:0≤c.ev∧c.ev < evN (s.dev c.dev).bits:=⟨he,by omega⟩
 dsimp only
 split
 · refine VGood.put (g.forget h) (ev_has h) ⟨he,?_⟩
   have:(forgetS s c.dev c.ev).dev c.dev = { s.dev c.dev with evs:=takeK (s.dev c.dev).evs c.ev }:=evs_dev h
   rw [this]
   exact hev.2
 · exact g.put h hev
theorem VGood.movi {s:Vi} {c:Cm} (g:VGood s):VGood (moviM s c).2.1:=by
 unfold moviM
 split
 · exact g
 split
 · exact g
 split
 · exact g
 rename_i h1 h2 h3
 have h:hasK s.devs c.dev = true:=by simpa using h1
 have h2:hasK (s.dev c.dev).evs c.ev = true:=by simpa using h2
 exact g.put h (has_ev g h h2)
theorem VGood.event {s:Vi} {c:Cm} (g:VGood s):VGood (eventM s c).2.1:=by
 unfold eventM
 split
 · exact g
 split
 · exact g
 rename_i h1 h2
 have h:hasK s.devs c.dev = true:=by simpa using h1
 dsimp only
 split
 · exact g.forget h
 split
 · exact g
 split
 · exact g
 split
 · exact g
 · exact g
theorem ite_good {q:Prop} [Decidable q] {a b:List Ch×Vi×Int} (ha:q→VGood a.2.1) (hb:¬ q→VGood b.2.1):VGood (if q then a else b).2.1:=by
 by_cases h:q
 · rw [if_pos h]; exact ha h
 · rw [if_neg h]; exact hb h
theorem VGood.vdo {s:Vi} {c:Cm} {r:Ru} {owned:List Int} {p:Nat} (g:VGood s):VGood (vdoM s c r owned p).2.1:=by
 unfold vdoM
 refine ite_good (fun _=>g) fun h0=>?_
 cases he:encM c with
 | none=>exact absurd he h0
 | some ws =>
  obtain ⟨-,hf,-,-,-⟩:=encM_some he
  have f0:0≤c.dev∧c.dev < 4294967296:=⟨(hf 0 (by omega)).1,(hf 0 (by omega)).2.1⟩
  have f1:0≤c.ev:=(hf 1 (by omega)).1
  have f3:0≤c.coll:=(hf 3 (by omega)).1
  have f5:0≤c.bits∧c.bits < 32:=⟨(hf 5 (by omega)).1,(hf 5 (by omega)).2.1⟩
  refine ite_good (fun _=>g) fun _=>?_
  refine ite_good (fun _=>g.mapd f0 f5) fun _=>?_
  refine ite_good (fun _=>g.mapc f3) fun _=>?_
  refine ite_good (fun _=>g.mapti f1) fun _=>?_
  refine ite_good (fun _=>g.mapti f1) fun _=>?_
  refine ite_good (fun _=>g.movi) fun _=>?_
  refine ite_good (fun _=>ite_good (fun _=>g) fun _=>g) fun _=>?_
  refine ite_good (fun _=>ite_good (fun _=>g) fun _=>ite_good (fun _=>g) fun _=>g) fun _=>?_
  exact g.event
theorem VGood.like {s t:Vi} (g:VGood s) (h1:t.devs = s.devs) (h2:t.colls = s.colls):VGood t:=by
 obtain ⟨g1,g2,g3,g4,g5,g6,g7⟩:=g
 exact ⟨by rw [h1]; exact g1,by rw [h1]; exact g2,by rw [h1]; exact g3,by rw [h1]; exact g4,by rw [h1]; exact g5,by rw [h2]; exact g6,by rw [h2]; exact g7⟩
theorem VGood.step {s:Vi} {bs:List Int} {r:Ru} {owned:List Int} {p:Nat} (g:VGood s):VGood (vstepM s bs r owned p).2.2.1:=by
 have gv:VGood (vdoM s (headQ s.q bs).1 r owned p).2.1:=g.vdo
 unfold vstepM
 generalize vdoM s (headQ s.q bs).1 r owned p = V at *
 generalize headQ s.q bs = hd at *
 by_cases h1:s.on = false
 · rw [if_pos h1]; exact g
 rw [if_neg h1]
 by_cases h2:s.st = true
 · rw [if_pos h2]; exact g
 rw [if_neg h2]
 by_cases h3:s.fit = false
 · rw [if_pos h3]; exact g.like rfl rfl
 rw [if_neg h3]
 by_cases h4:hd.2 = 170
 · rw [if_pos h4]; exact g
 rw [if_neg h4]
 by_cases h5:hd.2≠0
 · rw [if_pos h5]; exact g.like rfl rfl
 rw [if_neg h5]
 by_cases h6:V.2.2≠0
 · rw [if_pos h6]; exact gv.like rfl rfl
 rw [if_neg h6]; exact gv.like rfl rfl
theorem reb_same (s:Vi) (v:Int) (r:Ru):(rebM s v r).devs = s.devs∧(rebM s v r).colls = s.colls:=by
 unfold rebM
 generalize partM r.a r.s (baseX v) (baseN v) = p
 by_cases h:p.2 = 0∧baseV v = true
 · rw [if_pos h]; exact ⟨rfl,rfl⟩
 · rw [if_neg h]; exact ⟨rfl,rfl⟩
theorem VGood.write {s:Vi} {off width v:Int} {r:Ru} (g:VGood s):VGood (vwriteM s off width v r).1:=by
 unfold vwriteM
 generalize itsM off width = I
 by_cases h1:I.2≠0
 · rw [if_pos h1]; exact g
 rw [if_neg h1]
 by_cases h2:I.1.1 = 1
 · rw [if_pos h2]; exact g.like rfl rfl
 rw [if_neg h2]
 by_cases h3:I.1.1 = 19
 · rw [if_pos h3]
   cases s.on
   · exact g.like (reb_same s v r).1 (reb_same s v r).2
   · exact g
 rw [if_neg h3]
 by_cases h4:I.1.1 = 20
 · rw [if_pos h4]
   cases s.fit
   · exact g.like rfl rfl
   · exact g.like rfl rfl
 rw [if_neg h4]; exact g
theorem nd_len:∀ (n:Nat) (l:List Int),l.Nodup→(∀ x∈l,0≤x∧x < (n:Int))→l.length≤n
 | 0,l,_,h=>by
  cases l with
  | nil=>simp
  | cons x r=>have:=h x (by simp); omega
 | n + 1,l,hn,h=>by
  have h1:=nd_len n (l.erase (n:Int)) (hn.erase _) (fun x hx=>by
   have h2:=(hn.mem_erase_iff).1 hx
   have h3:=h x h2.2
   have h4:=h2.1
   omega)
  have h5:=List.length_erase (a:=(n:Int)) (l:=l)
  split at h5 <;> omega
structure RGood (d:Rv):Prop where
 nd:d.devs.Nodup
 dev:∀ x∈d.devs,0≤x∧x < 4294967296
 len:d.devs.length = d.bits.length
 bits:∀ x∈d.bits,0≤x∧x < 4
 rnd:(d.routes.map fun x=>x.dev * 16 + x.ev).Nodup
 rt:∀ x∈d.routes,0≤x.dev∧x.dev < 4294967296∧0≤x.ev∧x.ev < 16
 sq:SmallS d.q
theorem RGood.fits {d:Rv} (g:RGood d):RFits d:=by
 have h1:=nd_len 4294967296 d.devs g.nd g.dev
 have h2:=nd_len 68719476736 _ g.rnd (fun y hy=>by
  obtain ⟨x,hx,rfl⟩:=List.mem_map.1 hy
  have:=g.rt x hx
  omega)
 rw [List.length_map] at h2
 exact ⟨by omega,by omega,g.len,fun x hx=>by have:=g.bits x hx; omega⟩
theorem dropAt_sub {α:Type} (i:Int) (l:List α):(dropAt i l).Sublist l:=by
 unfold dropAt
 split
 · exact List.Sublist.refl _
 · exact List.eraseIdx_sublist _ _
theorem rgood0:RGood rv0:=⟨by simp [rv0],by simp [rv0],rfl,by simp [rv0],by simp [rv0],by simp [rv0],by show (0:Int)≤_; omega⟩
theorem RGood.forg {d:Rv} (dev ev:Int) (g:RGood d):RGood (rforgS d dev ev) :=
 ⟨g.nd,g.dev,g.len,g.bits,g.rnd.sublist ((dropAt_sub _ _).map _),fun x hx=>g.rt x ((dropAt_sub _ _).subset hx),g.sq⟩
theorem dropAt_len2 {α β:Type} (i:Int) {l:List α} {m:List β} (h:l.length = m.length):(dropAt i l).length = (dropAt i m).length:=by
 unfold dropAt
 split
 · exact h
 · rw [List.length_eraseIdx,List.length_eraseIdx,h]
theorem RGood.drop {d:Rv} (i:Int) (g:RGood d):RGood (dropR d i) :=
 ⟨g.nd.sublist (dropAt_sub _ _),fun x hx=>g.dev x ((dropAt_sub _ _).subset hx),dropAt_len2 i g.len,fun x hx=>g.bits x ((dropAt_sub _ _).subset hx),g.rnd,g.rt,g.sq⟩
theorem RGood.like {d e:Rv} (g:RGood d) (h1:e.devs = d.devs) (h2:e.bits = d.bits) (h3:e.routes = d.routes) (h4:SmallS e.q):RGood e:=by
 obtain ⟨g1,g2,g3,g4,g5,g6,g7⟩:=g
 exact ⟨by rw [h1]; exact g1,by rw [h1]; exact g2,by rw [h1,h2]; exact g3,by rw [h2]; exact g4,by rw [h3]; exact g5,by rw [h3]; exact g6,h4⟩
theorem RGood.add {d:Rv} {dev b:Int} (g:RGood d) (hn:dev ∉ d.devs) (hd:0≤dev∧dev < 4294967296) (hb:0≤b∧b < 4):RGood { d with devs:=d.devs ++ [dev],bits:=d.bits ++ [b] }:=by
 refine ⟨?_,?_,?_,?_,g.rnd,g.rt,g.sq⟩
 · show (d.devs ++ [dev]).Nodup
   rw [List.nodup_append]
   refine ⟨g.nd,by simp,?_⟩
   intro x hx y hy
   rw [List.mem_singleton.1 hy]
   intro e; exact hn (e ▸ hx)
 · intro x hx
   rcases List.mem_append.1 hx with hx | hx
   · exact g.dev x hx
   · rw [List.mem_singleton.1 hx]; exact hd
 · show (d.devs ++ [dev]).length = (d.bits ++ [b]).length
   simp [g.len]
 · intro x hx
   rcases List.mem_append.1 hx with hx | hx
   · exact g.bits x hx
   · rw [List.mem_singleton.1 hx]; exact hb
theorem RGood.set {d:Rv} {x:Rr} (g:RGood d) (hx:0≤x.dev∧x.dev < 4294967296∧0≤x.ev∧x.ev < 16):RGood (rsetS d x):=by
 rcases posL_cases (fun y:Rr=>y.dev == x.dev && y.ev == x.ev) d.routes with ⟨h3,hno⟩ | ⟨k,h3,hk,h4,_⟩
 · have h3:findR d x.dev x.ev = -1:=h3
   have e:rsetS d x = { d with routes:=d.routes ++ [x] }:=by unfold rsetS; rw [h3,if_neg (by omega)]
   rw [e]
   refine ⟨g.nd,g.dev,g.len,g.bits,?_,?_,g.sq⟩
   · show ((d.routes ++ [x]).map fun x=>x.dev * 16 + x.ev).Nodup
     rw [List.map_append,List.nodup_append]
     refine ⟨g.rnd,by simp,?_⟩
     intro a ha b hb
     obtain ⟨y,hy,rfl⟩:=List.mem_map.1 ha
     have hb:b = x.dev * 16 + x.ev:=by simpa using hb
     rw [hb]
     have h5:=g.rt y hy
     have h6:=hno y hy
     intro e2
     have h7:y.dev = x.dev:=by omega
     have h8:y.ev = x.ev:=by omega
     simp [h7,h8] at h6
   · intro y hy
     rcases List.mem_append.1 hy with hy | hy
     · exact g.rt y hy
     · rw [List.mem_singleton.1 hy]; exact hx
 · have h3:findR d x.dev x.ev = k:=h3
   have e:rsetS d x = { d with routes:=d.routes.set k x }:=by unfold rsetS; rw [h3,if_pos (by omega),Int.toNat_natCast]
   rw [e]
   simp only [Bool.and_eq_true,beq_iff_eq] at h4
   refine ⟨g.nd,g.dev,g.len,g.bits,?_,?_,g.sq⟩
   · show ((d.routes.set k x).map fun x=>x.dev * 16 + x.ev).Nodup
     have e2:((d.routes.set k x).map fun x=>x.dev * 16 + x.ev) = d.routes.map fun x=>x.dev * 16 + x.ev:=by
      apply List.ext_getElem
      · simp
      · intro j h1 h2
        simp only [List.getElem_map,List.getElem_set]
        by_cases hj:k = j
        · subst hj
          rw [if_pos rfl,h4.1,h4.2]
        · rw [if_neg hj]
     rw [e2]; exact g.rnd
   · intro y hy
     rcases List.mem_or_eq_of_mem_set hy with hy | rfl
     · exact g.rt y hy
     · exact hx
theorem RGood.all {d:Rv} (dev:Int) (g:RGood d):∀ n,RGood (allR d dev n).2
 | 0=>g
 | n + 1=>by
  have h:=RGood.all dev g n
  rw [allR_succ]
  generalize allR d dev n = A at *
  unfold fgR
  by_cases hf:0≤findR A.2 dev n
  · rw [if_pos hf]; exact h.forg dev n
  · rw [if_neg hf]; exact h
theorem gone_not {l:List Int} {dev:Int} (h:l.Nodup):dev ∉ dropAt (posL (fun x=>x == dev) l) l:=by
 rcases posL_cases (fun x=>x == dev) l with ⟨h3,hno⟩ | ⟨k,h3,hk,h4,_⟩
 · rw [h3]
   unfold dropAt
   rw [if_pos (by omega)]
   intro hm
   have:=hno dev hm
   simp at this
 · rw [h3]
   unfold dropAt
   rw [if_neg (by omega),Int.toNat_natCast]
   have h5:l[k] = dev:=by simpa using h4
   intro hm
   rw [List.mem_eraseIdx_iff_getElem] at hm
   obtain ⟨j,hj,hne,he⟩:=hm
   have h6:=List.pairwise_iff_getElem.1 h
   rcases Nat.lt_or_ge j k with h7 | h7
   · exact h6 j k hj hk h7 (he.trans h5.symm)
   · exact h6 k j hk hj (by omega) (h5.trans he.symm)
theorem RGood.gone {d:Rv} (dev:Int) (g:RGood d):RGood (goneR d dev).2∧dev ∉ (goneR d dev).2.devs:=by
 have ha:=RGood.all dev g 16
 have hd:(allR d dev 16).2.devs = d.devs:=(allR_inv (dev:=dev) g.fits.small 16).2.2.1
 have hn:=gone_not (dev:=dev) g.nd
 unfold goneR
 by_cases h:0≤atR d dev
 · rw [if_pos h]
   refine ⟨ha.drop _,?_⟩
   show dev ∉ dropAt (atR d dev) (allR d dev 16).2.devs
   rw [hd]; exact hn
 · rw [if_neg h]
   refine ⟨g,?_⟩
   have h2:dropAt (posL (fun x=>x == dev) d.devs) d.devs = d.devs:=by
    unfold dropAt; rw [if_pos (by unfold atR at h; omega)]
   rw [h2] at hn
   exact hn
theorem rite_good {q:Prop} [Decidable q] {a b:List Ch×Rv×Int} (ha:q→RGood a.2.1) (hb:¬ q→RGood b.2.1):RGood (if q then a else b).2.1:=by
 by_cases h:q
 · rw [if_pos h]; exact ha h
 · rw [if_neg h]; exact hb h
theorem RGood.mapd {d:Rv} {c:Cm} {size:Int} (g:RGood d) (hd:0≤c.dev∧c.dev < 4294967296) (hb:0≤c.bits∧c.bits < 32):RGood (mapdR d c size).2.1:=by
 unfold mapdR
 refine rite_good (fun _=>g) fun h=>?_
 have h16:¬ evN c.bits > 16:=by
  intro hh
  apply h
  unfold mapdRE
  rw [if_pos hh]; omega
 have g2:=RGood.gone c.dev g
 generalize goneR d c.dev = G at *
 dsimp only
 cases c.val
 · exact g2.1
 · exact g2.1.add g2.2 hd ⟨hb.1,bits_4 hb h16⟩
theorem event_in {d:Rv} {dev ev:Int} (h:(eventR d dev ev).2 = 0):(eventR d dev ev).1∈d.routes:=by
 unfold eventR at *
 by_cases h1:atR d dev < 0
 · rw [if_pos h1] at h; simp at h
 · rw [if_neg h1] at h ⊢
   by_cases h2:findR d dev ev < 0
   · rw [if_pos h2] at h; simp at h
   · rw [if_neg h2]
     rcases posL_cases (fun x:Rr=>x.dev == dev && x.ev == ev) d.routes with ⟨h3,_⟩ | ⟨k,h3,hk,_,_⟩
     · exact absurd h3 (by unfold findR at h2; omega)
     · have h3:findR d dev ev = k:=h3
       rw [h3,Int.toNat_natCast,List.getD_eq_getElem?_getD,List.getElem?_eq_getElem hk]
       exact List.getElem_mem hk
theorem RGood.single {d:Rv} {c:Cm} (g:RGood d):RGood (singleR d c).2.1:=by
 unfold singleR
 refine rite_good (fun _=>g) fun h=>?_
 have hin:=event_in (d:=d) (dev:=c.dev) (ev:=c.ev) (by omega)
 generalize eventR d c.dev c.ev = E at *
 refine rite_good (fun _=>g.forg _ _) fun _=>?_
 refine rite_good (fun _=>g) fun _=>?_
 refine rite_good (fun _=>rite_good (fun _=>g) fun _=>rite_good (fun _=>g) fun _=>g) fun _=>?_
 refine rite_good (fun _=>g) fun _=>?_
 exact g.set (x:={ E.1 with coll:=c.coll }) (g.rt E.1 hin)
theorem RGood.mapti {d:Rv} {c:Cm} {n lpis:Int} (g:RGood d) (hd:0≤c.dev∧c.dev < 4294967296) (he:0≤c.ev):RGood (maptiR d c n lpis).2.1:=by
 unfold maptiR
 refine rite_good (fun _=>g) fun h1=>?_
 refine rite_good (fun _=>g) fun h2=>?_
 refine rite_good (fun _=>g) fun h3=>?_
 refine rite_good (fun _=>g) fun h4=>?_
 have h16:evN (d.bits.getD (atR d c.dev).toNat 0)≤16:=by
  rw [List.getD_eq_getElem?_getD]
  cases hg:d.bits[(atR d c.dev).toNat]? with
  | none=>exact (evN_16 (k:=0) (by omega)).1
  | some b=>exact (evN_16 (g.bits b (List.mem_of_getElem? hg))).1
 have hx:0≤c.dev∧c.dev < 4294967296∧0≤c.ev∧c.ev < 16:=⟨hd.1,hd.2,he,by omega⟩
 dsimp only
 by_cases h5:0≤findR d c.dev c.ev
 · rw [if_pos h5]; exact (g.forg c.dev c.ev).set (x:=⟨c.dev,c.ev,n,c.coll⟩) hx
 · rw [if_neg h5]; exact g.set (x:=⟨c.dev,c.ev,n,c.coll⟩) hx
theorem RGood.vdo {d:Rv} {c:Cm} {r:Ru} {owned:List Int} (g:RGood d) (hI:-9223372036854775808≤c.addr∧c.addr≤9223372036854775807):RGood (vdoR d c r owned).2.1:=by
 unfold vdoR
 refine rite_good (fun _=>g) fun h0=>?_
 cases he:encM c with
 | none=>exact absurd ((ref_enc hI).trans he) h0
 | some ws =>
  obtain ⟨-,hf,-,-,-⟩:=encM_some he
  have f0:0≤c.dev∧c.dev < 4294967296:=⟨(hf 0 (by omega)).1,(hf 0 (by omega)).2.1⟩
  have f1:0≤c.ev:=(hf 1 (by omega)).1
  have f5:0≤c.bits∧c.bits < 32:=⟨(hf 5 (by omega)).1,(hf 5 (by omega)).2.1⟩
  refine rite_good (fun _=>?_) fun _=>?_
  · unfold mapcR
    exact rite_good (fun _=>g) fun _=>rite_good (fun _=>g) fun _=>g.like rfl rfl rfl g.sq
  refine rite_good (fun _=>rite_good (fun _=>g) fun _=>g) fun _=>?_
  refine rite_good (fun _=>rite_good (fun _=>g) fun _=>rite_good (fun _=>g) fun _=>g) fun _=>?_
  refine rite_good (fun _=>g) fun _=>?_
  refine rite_good (fun _=>g.mapd f0 f5) fun _=>?_
  refine rite_good (fun _=>g.mapti f0 f1) fun _=>?_
  refine rite_good (fun _=>g.mapti f0 f1) fun _=>?_
  exact g.single
theorem pass_s (q:Qu):(passQ q).1.s = q.s:=by unfold passQ; split <;> rfl
theorem set_s (q:Qu) (a:Int):(setQ q a).1.s = q.s:=by unfold setQ; split <;> rfl
theorem RGood.step {d:Rv} {bs:List Int} {r:Ru} {owned:List Int} (g:RGood d):RGood (rstepM d bs r owned).2.2.1:=by
 have ha:=head_addr d.q bs
 have gv:RGood (vdoR d (headQ d.q bs).1 r owned).2.1:=g.vdo (by omega)
 unfold rstepM
 generalize vdoR d (headQ d.q bs).1 r owned = V at *
 generalize headQ d.q bs = hd at *
 by_cases h1:d.on = false
 · rw [if_pos h1]; exact g
 rw [if_neg h1]
 by_cases h2:d.st = true
 · rw [if_pos h2]; exact g
 rw [if_neg h2]
 by_cases h3:d.fit = false
 · rw [if_pos h3]; exact g.like rfl rfl rfl g.sq
 rw [if_neg h3]
 by_cases h4:hd.2 = 170
 · rw [if_pos h4]; exact g
 rw [if_neg h4]
 by_cases h5:hd.2≠0
 · rw [if_pos h5]; exact g.like rfl rfl rfl g.sq
 rw [if_neg h5]
 by_cases h6:V.2.2≠0
 · rw [if_pos h6]; exact gv.like rfl rfl rfl gv.sq
 rw [if_neg h6]
 refine gv.like rfl rfl rfl ?_
 show (passQ V.2.1.q).1.s≤_
 rw [pass_s]; exact gv.sq
theorem partR_small {a s x n:Int} (h:n≤9223372036854775807):(partR a s x n).1.2≤9223372036854775807:=by
 unfold partR
 by_cases hc:fairB a s = true∧0≤x∧0≤n∧x≤s∧n≤wi (s - x)
 · rw [if_pos hc]; exact h
 · rw [if_neg hc]; show (0:Int)≤_; omega
theorem RGood.write {d:Rv} {off width v:Int} {r:Ru} (g:RGood d):RGood (rwriteM d off width v r).1:=by
 unfold rwriteM
 generalize itsM off width = I
 by_cases h1:I.2≠0
 · rw [if_pos h1]; exact g
 rw [if_neg h1]
 show RGood (rcwR I.1.1 v (rcbR I.1.1 v r (rctR I.1.1 v d)))
 generalize I.1.1 = k
 have g1:RGood (rctR k v d):=by
  unfold rctR
  by_cases h:k = 1
  · rw [if_pos h]; exact g.like rfl rfl rfl g.sq
  · rw [if_neg h]; exact g
 generalize rctR k v d = d1 at *
 have g2:RGood (rcbR k v r d1):=by
  unfold rcbR
  by_cases h:k = 19∧d1.on = false
  · rw [if_pos h]
    unfold rbaseR
    refine g1.like rfl rfl rfl ?_
    show (if rbaseOk v r = true then (⟨(partR r.a r.s (rbaseX v) (rbaseN v)).1.1,(partR r.a r.s (rbaseX v) (rbaseN v)).1.2,0,0⟩:Qu) else ⟨0,0,0,0⟩).s≤_
    by_cases h2:rbaseOk v r = true
    · rw [if_pos h2]
      exact partR_small (W_range _).2
    · rw [if_neg h2]; show (0:Int)≤_; omega
  · rw [if_neg h]; exact g1
 generalize rcbR k v r d1 = d2 at *
 unfold rcwR
 by_cases h:k = 20
 · rw [if_pos h]
   have g3:RGood (if d2.fit = true then { d2 with q:=(setQ d2.q (rwAt v)).1 } else d2):=by
    by_cases h2:d2.fit = true
    · rw [if_pos h2]
      refine g2.like rfl rfl rfl ?_
      show (setQ d2.q (rwAt v)).1.s≤_
      rw [set_s]; exact g2.sq
    · rw [if_neg h2]; exact g2
   generalize (if d2.fit = true then { d2 with q:=(setQ d2.q (rwAt v)).1 } else d2) = d3 at *
   unfold rstopR
   by_cases h2:(Int.tmod v 2 == 1) = true
   · rw [if_pos h2]; exact g3.like rfl rfl rfl g3.sq
   · rw [if_neg h2]; exact g3
 · rw [if_neg h]; exact g2
def evOf (s:Vi) (dev ev:Int):Option RtE:=(lk s.devs dev).bind fun d=>lk d.evs ev
def go (s:Vi) (dev ev:Int):Option (Int×Int):=(evOf s dev ev).bind fun x=>(lk s.colls x.coll).map fun v=>(x.num,v)
theorem dev_lk {s:Vi} {dev:Int} (h:hasK s.devs dev = true):lk s.devs dev = some (s.dev dev):=by
 have h1:=hasK_lk s.devs dev
 rw [h] at h1
 obtain ⟨d,hd⟩:=Option.isSome_iff_exists.1 h1.symm
 rw [hd]
 unfold Vi.dev
 rw [getK_lk,hd]; rfl
theorem lk_no {α:Type} {kv:List (Int×α)} {k:Int} (h:hasK kv k = false):lk kv k = none:=by
 have h1:=hasK_lk kv k
 rw [h] at h1
 exact Option.not_isSome_iff_eq_none.1 (by rw [← h1]; simp)
theorem lk_yes {α:Type} {kv:List (Int×α)} {k:Int} (d:α) (h:hasK kv k = true):lk kv k = some (getK d kv k):=by
 have h1:=hasK_lk kv k
 rw [h] at h1
 obtain ⟨v,hv⟩:=Option.isSome_iff_exists.1 h1.symm
 rw [getK_lk,hv]; rfl
theorem has_of {α:Type} {kv:List (Int×α)} {k:Int} {v:α} (h:lk kv k = some v):hasK kv k = true:=by rw [hasK_lk,h]; rfl
theorem get_of {α:Type} {d:α} {kv:List (Int×α)} {k:Int} {v:α} (h:lk kv k = some v):getK d kv k = v:=by rw [getK_lk,h]; rfl
theorem evOf_has {s:Vi} {dev ev:Int} (h:hasK s.devs dev = true):evOf s dev ev = lk (s.dev dev).evs ev:=by
 unfold evOf
 rw [dev_lk h]; rfl
theorem route_some {s:Vi} {dev ev:Int} {x:RtE} {v:Int} (h1:evOf s dev ev = some x) (h2:lk s.colls x.coll = some v):routeM s dev ev = (x,v,0):=by
 unfold routeM
 cases h:hasK s.devs dev with
 | false =>
  unfold evOf at h1
  rw [lk_no h] at h1; cases h1
 | true =>
  rw [evOf_has h] at h1
  rw [if_pos rfl,has_of h1,if_pos rfl,get_of h1,has_of h2,if_pos rfl,get_of h2]
theorem go_some {s:Vi} {dev ev:Int} {n v:Int} (h:go s dev ev = some (n,v)):∃ x:RtE,x.num = n∧evOf s dev ev = some x∧lk s.colls x.coll = some v:=by
 unfold go at h
 cases h1:evOf s dev ev with
 | none=>rw [h1] at h; cases h
 | some x =>
  rw [h1] at h
  cases h2:lk s.colls x.coll with
  | none=>rw [Option.bind_some,h2] at h; cases h
  | some y =>
   simp only [Option.bind_some,h2,Option.map_some,Option.some.injEq,Prod.mk.injEq] at h
   exact ⟨x,h.1,rfl,by rw [h2,h.2]⟩
theorem route_go {s:Vi} {dev ev:Int} {n v:Int} (h:go s dev ev = some (n,v)):(routeM s dev ev).2.2 = 0∧(routeM s dev ev).1.num = n∧(routeM s dev ev).2.1 = v:=by
 obtain ⟨x,h1,h2,h3⟩:=go_some h
 rw [route_some h2 h3]
 exact ⟨rfl,h1,rfl⟩
theorem route_no {s:Vi} {dev ev:Int} (h:go s dev ev = none):(routeM s dev ev).2.2≠0∧(routeM s dev ev).1 = rt0∧(routeM s dev ev).2.1 = 0:=by
 unfold routeM
 cases h1:hasK s.devs dev with
 | false=>rw [if_neg (by simp)]; exact ⟨by show (181:Int)≠0; omega,rfl,rfl⟩
 | true =>
  rw [if_pos rfl]
  cases h2:hasK (s.dev dev).evs ev with
  | false=>rw [if_neg (by simp)]; exact ⟨by show (182:Int)≠0; omega,rfl,rfl⟩
  | true =>
   rw [if_pos rfl]
   cases h3:hasK s.colls (getK rt0 (s.dev dev).evs ev).coll with
   | false=>rw [if_neg (by simp)]; exact ⟨by show (183:Int)≠0; omega,rfl,rfl⟩
   | true =>
    exfalso
    have e1:evOf s dev ev = some (getK rt0 (s.dev dev).evs ev):=by rw [evOf_has h1]; exact lk_yes rt0 h2
    have e2:=lk_yes (0:Int) h3
    unfold go at h
    rw [e1,Option.bind_some,e2] at h
    cases h
def bndO (dev ev:Int):Option (Int×Int)→Ch
 | none=>⟨2,dev,ev,0,0,0⟩
 | some p=>⟨1,dev,ev,p.1,0,p.2⟩
theorem bound_go (s:Vi) (dev ev:Int):boundM s dev ev = bndO dev ev (go s dev ev):=by
 unfold boundM
 cases h:go s dev ev with
 | none=>rw [if_pos (route_no h).1]; rfl
 | some p =>
  obtain ⟨h1,h2,h3⟩:=route_go (n:=p.1) (v:=p.2) h
  rw [if_neg (by rw [h1]; simp),h2,h3]; rfl
theorem forgetC_go (s:Vi) (dev ev:Int):forgetC s dev ev = (match go s dev ev with | none=>[] | some p=>[⟨4,0,0,p.1,p.2,0⟩]) ++ [boundM (forgetS s dev ev) dev ev]:=by
 unfold forgetC
 cases h:go s dev ev with
 | none=>rw [if_neg (route_no h).1]
 | some p =>
  obtain ⟨h1,h2,h3⟩:=route_go (n:=p.1) (v:=p.2) h
  rw [if_pos h1,h2,h3]
theorem evs_lk {s:Vi} {dev:Int} {l:List (Int×RtE)} (g:VGood s) (h:hasK s.devs dev = true) (dev':Int):lk (s.evs dev l).devs dev' = if dev' = dev then some { s.dev dev with evs:=l } else lk s.devs dev' :=
 set_lk g.up h dev'
theorem evs_of {s:Vi} {dev:Int} {l:List (Int×RtE)} (g:VGood s) (h:hasK s.devs dev = true) (dev' ev':Int):evOf (s.evs dev l) dev' ev' = if dev' = dev then lk l ev' else evOf s dev' ev':=by
 unfold evOf
 rw [evs_lk g h]
 by_cases e:dev' = dev
 · rw [if_pos e,if_pos e]; rfl
 · rw [if_neg e,if_neg e]
theorem VGood.evu {s:Vi} {dev:Int} (g:VGood s) (h:hasK s.devs dev = true):Up (s.dev dev).evs:=g.evup _ (dev_mem h)
theorem forget_of {s:Vi} {dev ev:Int} (g:VGood s) (h:hasK s.devs dev = true) (dev' ev':Int):evOf (forgetS s dev ev) dev' ev' = if dev' = dev∧ev' = ev then none else evOf s dev' ev':=by
 unfold forgetS
 rw [evs_of g h]
 by_cases e:dev' = dev
 · subst e
   rw [if_pos rfl,lk_take (g.evu h),evOf_has h]
   by_cases e2:ev' = ev
   · rw [if_pos e2,if_pos ⟨rfl,e2⟩]
   · rw [if_neg e2,if_neg fun h=>e2 h.2]
 · rw [if_neg e,if_neg fun h=>e h.1]
theorem put_of {s:Vi} {dev ev:Int} {x:RtE} (g:VGood s) (h:hasK s.devs dev = true) (dev' ev':Int):evOf (s.evs dev (putK (s.dev dev).evs ev x)) dev' ev' = if dev' = dev∧ev' = ev then some x else evOf s dev' ev':=by
 rw [evs_of g h]
 by_cases e:dev' = dev
 · subst e
   rw [if_pos rfl,lk_put (g.evu h),evOf_has h]
   by_cases e2:ev' = ev
   · rw [if_pos e2,if_pos ⟨rfl,e2⟩]
   · rw [if_neg e2,if_neg fun h=>e2 h.2]
 · rw [if_neg e,if_neg fun h=>e h.1]
theorem ite_p {α:Type} {q:Prop} [Decidable q] (C:α→Prop) {a b:α} (ha:q→C a) (hb:¬ q→C b):C (if q then a else b):=by
 by_cases h:q
 · rw [if_pos h]; exact ha h
 · rw [if_neg h]; exact hb h
theorem drop_of {s:Vi} {dev:Int} (g:VGood s) (dev' ev':Int):evOf (dropS s dev) dev' ev' = if dev' = dev then none else evOf s dev' ev':=by
 unfold evOf dropS
 show (lk (takeK s.devs dev) dev').bind _ = _
 rw [lk_take g.up]
 by_cases e:dev' = dev
 · rw [if_pos e,if_pos e]; rfl
 · rw [if_neg e,if_neg e]
theorem mapcF_mem {s:Vi} {coll dev:Int} {evs:List (Int×RtE)} {x:Ch}:x∈mapcF s coll dev evs↔∃ u∈evs,u.2.coll = coll∧x = boundM s dev u.1:=by
 unfold mapcF
 rw [List.mem_map]
 constructor
 · rintro ⟨u,hu,rfl⟩
   obtain ⟨h1,h2⟩:=List.mem_filter.1 hu
   exact ⟨u,h1,by simpa using h2,rfl⟩
 · rintro ⟨u,h1,h2,rfl⟩
   exact ⟨u,List.mem_filter.2 ⟨h1,by simpa using h2⟩,rfl⟩
abbrev NoneOf (s:Vi) (M:List Ch×Vi×Int):Prop:=M.2.2≠0→M.1 = []∧M.2.1 = s
theorem none_err (s:Vi) (e:Int):NoneOf s ([],s,e):=fun _=>⟨rfl,rfl⟩
theorem none_ok (s:Vi) (l:List Ch) (t:Vi):NoneOf s (l,t,0):=fun h=>absurd rfl h
theorem vdo_err {s:Vi} {c:Cm} {r:Ru} {owned:List Int} {p:Nat}:NoneOf s (vdoM s c r owned p):=by
 unfold vdoM
 refine ite_p (NoneOf s) (fun _=>none_err _ _) fun h0=>?_
 refine ite_p (NoneOf s) (fun _=>none_err _ _) fun _=>?_
 refine ite_p (NoneOf s) (fun _=>?_) fun _=>?_
 · unfold mapdM
   exact ite_p (NoneOf s) (fun _=>none_err _ _) fun _=>none_ok _ _ _
 refine ite_p (NoneOf s) (fun _=>?_) fun _=>?_
 · unfold mapcM
   exact ite_p (NoneOf s) (fun _=>none_err _ _) fun _=>ite_p (NoneOf s) (fun _=>none_err _ _) fun _=>none_ok _ _ _
 have mt:∀ n,NoneOf s (maptiM s c n r.lpis):=fun n=>by
  unfold maptiM
  exact ite_p (NoneOf s) (fun _=>none_err _ _) fun _=>ite_p (NoneOf s) (fun _=>none_err _ _) fun _=>ite_p (NoneOf s) (fun _=>none_err _ _) fun _=>ite_p (NoneOf s) (fun _=>none_err _ _) fun _=>none_ok _ _ _
 refine ite_p (NoneOf s) (fun _=>mt _) fun _=>?_
 refine ite_p (NoneOf s) (fun _=>mt _) fun _=>?_
 refine ite_p (NoneOf s) (fun _=>?_) fun _=>?_
 · unfold moviM
   exact ite_p (NoneOf s) (fun _=>none_err _ _) fun _=>ite_p (NoneOf s) (fun _=>none_err _ _) fun _=>ite_p (NoneOf s) (fun _=>none_err _ _) fun _=>none_ok _ _ _
 refine ite_p (NoneOf s) (fun _=>ite_p (NoneOf s) (fun _=>none_err _ _) fun _=>none_ok _ _ _) fun _=>?_
 refine ite_p (NoneOf s) (fun _=>ite_p (NoneOf s) (fun _=>none_err _ _) fun _=>ite_p (NoneOf s) (fun _=>none_ok _ _ _) fun _=>none_ok _ _ _) fun _=>?_
 unfold eventM
 exact ite_p (NoneOf s) (fun _=>none_err _ _) fun _=>ite_p (NoneOf s) (fun _=>none_err _ _) fun _=>ite_p (NoneOf s) (fun _=>none_ok _ _ _) fun _=>ite_p (NoneOf s) (fun _=>none_ok _ _ _) fun _=>ite_p (NoneOf s) (fun _=>none_err _ _) fun _=>ite_p (NoneOf s) (fun _=>none_ok _ _ _) fun _=>none_ok _ _ _
abbrev NG (r:Ru) (n:Int):Prop:=8192≤n∧IntKind.i64.wrap (n - 8192) < r.lpis
abbrev VG (r:Ru) (v:Int):Prop:=0≤v∧v < r.vcpus
structure VNum (r:Ru) (s:Vi):Prop where
 ev:∀ dev ev x,evOf s dev ev = some x→NG r x.num
 coll:∀ k v,lk s.colls k = some v→VG r v
theorem vnum0 (r:Ru):VNum r vi0:=⟨(fun dev ev x h=>by cases h),(fun k v h=>by cases h)⟩
theorem VNum.like {r:Ru} {s t:Vi} (n:VNum r s) (h1:t.devs = s.devs) (h2:t.colls = s.colls):VNum r t :=
 ⟨fun dev ev x h=>n.ev dev ev x (by unfold evOf at *; rw [h1] at h; exact h),fun k v h=>n.coll k v (by rw [h2] at h; exact h)⟩
theorem VNum.go {r:Ru} {s:Vi} {dev ev m v:Int} (n:VNum r s) (h:go s dev ev = some (m,v)):NG r m∧VG r v:=by
 obtain ⟨x,h1,h2,h3⟩:=go_some h
 exact ⟨h1 ▸ n.ev _ _ _ h2,n.coll _ _ h3⟩
theorem VNum.forget {r:Ru} {s:Vi} {dev ev:Int} (n:VNum r s) (g:VGood s) (h:hasK s.devs dev = true):VNum r (forgetS s dev ev):=by
 refine ⟨fun d e x hx=>?_,n.coll⟩
 rw [forget_of g h] at hx
 by_cases e:d = dev∧e = ev
 · rw [if_pos e] at hx; cases hx
 · rw [if_neg e] at hx; exact n.ev _ _ _ hx
theorem VNum.put {r:Ru} {s:Vi} {dev ev:Int} {x:RtE} (n:VNum r s) (g:VGood s) (h:hasK s.devs dev = true) (hx:NG r x.num):VNum r (s.evs dev (putK (s.dev dev).evs ev x)):=by
 refine ⟨fun d e y hy=>?_,n.coll⟩
 rw [put_of g h] at hy
 by_cases e:d = dev∧e = ev
 · rw [if_pos e] at hy; cases hy; exact hx
 · rw [if_neg e] at hy; exact n.ev _ _ _ hy
theorem VNum.drop {r:Ru} {s:Vi} {dev:Int} (n:VNum r s) (g:VGood s):VNum r (dropS s dev):=by
 refine ⟨fun d e y hy=>?_,n.coll⟩
 rw [drop_of g] at hy
 by_cases e:d = dev
 · rw [if_pos e] at hy; cases hy
 · rw [if_neg e] at hy; exact n.ev _ _ _ hy
theorem VNum.add {r:Ru} {s:Vi} {dev bits:Int} (p:Nat) (n:VNum r s) (g:VGood s):VNum r { s with devs:=putK s.devs dev ⟨bits,p,[]⟩ }:=by
 refine ⟨fun d e y hy=>?_,n.coll⟩
 unfold evOf at hy
 rw [show lk ({ s with devs:=putK s.devs dev ⟨bits,p,[]⟩ }:Vi).devs d = _ from lk_put g.up d] at hy
 by_cases e:d = dev
 · rw [if_pos e] at hy; cases hy
 · rw [if_neg e] at hy; exact n.ev _ _ _ hy
theorem VNum.led {r:Ru} {s:Vi} {coll x:Int} {v:Bool} (n:VNum r s) (g:VGood s) (hx:v = true→VG r x):VNum r { s with colls:=if v then putK s.colls coll x else takeK s.colls coll }:=by
 refine ⟨n.ev,fun k y hy=>?_⟩
 cases v
 · rw [show lk ({ s with colls:=if false = true then putK s.colls coll x else takeK s.colls coll }:Vi).colls k = _ from lk_take g.cup k] at hy
   by_cases e:k = coll
   · rw [if_pos e] at hy; cases hy
   · rw [if_neg e] at hy; exact n.coll _ _ hy
 · rw [show lk ({ s with colls:=if true = true then putK s.colls coll x else takeK s.colls coll }:Vi).colls k = _ from lk_put g.cup k] at hy
   by_cases e:k = coll
   · rw [if_pos e] at hy; cases hy; exact hx rfl
   · rw [if_neg e] at hy; exact n.coll _ _ hy
structure ChG (r:Ru) (x:Ch):Prop where
 num:x.k = 1∨x.k = 3∨x.k = 4∨x.k = 5∨x.k = 7→NG r x.n
 f:VG r x.f
 t:VG r x.t
 k:1≤x.k∧x.k≤8
abbrev NT (r:Ru) (M:List Ch×Vi×Int):Prop:=VNum r M.2.1∧∀ x∈M.1,ChG r x
section
variable {r:Ru} {s:Vi}
theorem NT.err (n:VNum r s) (e:Int):NT r ([],s,e):=⟨n,fun _ h=>by cases h⟩
theorem vg0 (hv:0 < r.vcpus):VG r 0:=⟨Int.le_refl _,hv⟩
theorem bnd_good (hv:0 < r.vcpus) (n:VNum r s) (dev ev:Int):ChG r (boundM s dev ev):=by
 rw [bound_go]
 cases h:go s dev ev with
 | none=>exact ⟨fun h=>(by rcases h with h | h | h | h | h <;> cases h),vg0 hv,vg0 hv,by show (1:Int)≤2∧(2:Int)≤8; omega⟩
 | some p =>
  have:=n.go (m:=p.1) (v:=p.2) h
  exact ⟨fun _=>this.1,vg0 hv,this.2,by show (1:Int)≤1∧(1:Int)≤8; omega⟩
theorem forgetC_good (hv:0 < r.vcpus) (n:VNum r s) (g:VGood s) {dev ev:Int} (h:hasK s.devs dev = true):∀ x∈forgetC s dev ev,ChG r x:=by
 intro x hx
 rw [forgetC_go] at hx
 rcases List.mem_append.1 hx with hx | hx
 · cases hg:go s dev ev with
   | none=>rw [hg] at hx; cases hx
   | some p =>
    rw [hg] at hx
    rw [List.mem_singleton.1 hx]
    have:=n.go (m:=p.1) (v:=p.2) hg
    exact ⟨fun _=>this.1,this.2,vg0 hv,by show (1:Int)≤4∧(4:Int)≤8; omega⟩
 · rw [List.mem_singleton.1 hx]
   exact bnd_good hv (n.forget g h) dev ev
theorem fgt_good {dev:Int} (hv:0 < r.vcpus):∀ (l:List Int) (a:List Ch×Vi),VGood a.2→hasK a.2.devs dev = true→VNum r a.2→(∀ x∈a.1,ChG r x)→VNum r (l.foldl (fgtF dev) a).2∧∀ x∈(l.foldl (fgtF dev) a).1,ChG r x
 | [],a,g,h,n,hx=>⟨n,hx⟩
 | e :: t,a,g,h,n,hx=>by
  rw [List.foldl_cons]
  refine fgt_good hv t (fgtF dev a e) (g.forget h) (ev_has h) (n.forget g h) fun x hm=>?_
  rcases List.mem_append.1 (show x∈a.1 ++ forgetC a.2 dev e from hm) with hm | hm
  · exact hx x hm
  · exact forgetC_good hv n g h x hm
theorem gone_good (hv:0 < r.vcpus) (n:VNum r s) (g:VGood s) (dev:Int):VNum r (goneM s dev).2∧∀ x∈(goneM s dev).1,ChG r x:=by
 unfold goneM
 refine ite_p (fun A:List Ch×Vi=>VNum r A.2∧∀ x∈A.1,ChG r x) (fun h=>?_) fun _=>⟨n,fun x hx=>by cases hx⟩
 have h1:=fgt_good hv (ks (s.dev dev).evs) ([],s) g h n (fun x hx=>by cases hx)
 exact ⟨h1.1.drop (VGood.fgt (ks (s.dev dev).evs) ([],s) g h).1,h1.2⟩
theorem NT.mapd {c:Cm} {size:Int} {p:Nat} (hv:0 < r.vcpus) (n:VNum r s) (g:VGood s):NT r (mapdM s c size p):=by
 unfold mapdM
 refine ite_p (NT r) (fun _=>.err n _) fun h=>?_
 have h1:=gone_good hv n g c.dev
 have g2:=VGood.gone c.dev g
 generalize goneM s c.dev = G at *
 refine ⟨?_,h1.2⟩
 show VNum r (if c.val then { G.2 with devs:=putK G.2.devs c.dev ⟨c.bits,p,[]⟩ } else G.2)
 cases c.val
 · exact h1.1
 · exact h1.1.add p g2
theorem NT.mapc {c:Cm} (hv:0 < r.vcpus) (n:VNum r s) (g:VGood s) (ht:0≤c.tgt):NT r (mapcM s c r.vcpus):=by
 unfold mapcM
 refine ite_p (NT r) (fun _=>.err n _) fun _=>ite_p (NT r) (fun _=>.err n _) fun h=>?_
 have h1:=n.led (coll:=c.coll) (x:=c.tgt) (v:=c.val) g (fun hc=>⟨ht,by
  by_cases h2:c.tgt≥r.vcpus
  · exact absurd ⟨hc,h2⟩ h
  · omega⟩)
 dsimp only
 refine ⟨h1,fun x hx=>?_⟩
 unfold mapcC at hx
 obtain ⟨u,hu,hx⟩:=List.mem_flatMap.1 hx
 obtain ⟨e,he,-,rfl⟩:=mapcF_mem.1 hx
 exact bnd_good hv h1 _ _
theorem NT.mapti {c:Cm} {m:Int} (hv:0 < r.vcpus) (n:VNum r s) (g:VGood s):NT r (maptiM s c m r.lpis):=by
 unfold maptiM
 refine ite_p (NT r) (fun _=>.err n _) fun h0=>ite_p (NT r) (fun _=>.err n _) fun _=>ite_p (NT r) (fun _=>.err n _) fun hn=>ite_p (NT r) (fun _=>.err n _) fun _=>?_
 have h:hasK s.devs c.dev = true:=by simpa using h0
 have hm:NG r m:=⟨by omega,by omega⟩
 have ha:VGood (if hasK (s.dev c.dev).evs c.ev = true then (forgetC s c.dev c.ev,forgetS s c.dev c.ev) else (([]:List Ch),s)).2∧hasK (if hasK (s.dev c.dev).evs c.ev = true then (forgetC s c.dev c.ev,forgetS s c.dev c.ev) else (([]:List Ch),s)).2.devs c.dev = true∧VNum r (if hasK (s.dev c.dev).evs c.ev = true then (forgetC s c.dev c.ev,forgetS s c.dev c.ev) else (([]:List Ch),s)).2∧∀ x∈(if hasK (s.dev c.dev).evs c.ev = true then (forgetC s c.dev c.ev,forgetS s c.dev c.ev) else (([]:List Ch),s)).1,ChG r x :=
  ite_p (fun A:List Ch×Vi=>VGood A.2∧hasK A.2.devs c.dev = true∧VNum r A.2∧∀ x∈A.1,ChG r x) (fun _=>⟨g.forget h,ev_has h,n.forget g h,forgetC_good hv n g h⟩) fun _=>⟨g,h,n,fun x hx=>by cases hx⟩
 dsimp only
 generalize (if hasK (s.dev c.dev).evs c.ev = true then (forgetC s c.dev c.ev,forgetS s c.dev c.ev) else (([]:List Ch),s)) = A at *
 obtain ⟨gA,hA,nA,cA⟩:=ha
 have n2:=nA.put (ev:=c.ev) (x:=⟨m,c.coll,true⟩) gA hA hm
 refine ⟨n2,fun x hx=>?_⟩
 rcases List.mem_append.1 hx with hx | hx
 · exact cA x hx
 rcases List.mem_cons.1 hx with rfl | hx
 · exact bnd_good hv n2 _ _
 · rw [List.mem_singleton.1 hx]
   exact ⟨fun _=>hm,vg0 hv,vg0 hv,by show (1:Int)≤7∧(7:Int)≤8; omega⟩
theorem goes_ok {c:Int} (n:VNum r s) (h:(goesM s.colls c).2 = 0):VG r (goesM s.colls c).1:=by
 unfold goesM at *
 cases hc:hasK s.colls c with
 | false=>rw [hc] at h; simp at h
 | true =>
  rw [if_pos rfl]
  exact n.coll c _ (lk_yes 0 hc)
theorem NT.movi {c:Cm} (hv:0 < r.vcpus) (n:VNum r s) (g:VGood s):NT r (moviM s c):=by
 unfold moviM
 refine ite_p (NT r) (fun _=>.err n _) fun h0=>ite_p (NT r) (fun _=>.err n _) fun he=>ite_p (NT r) (fun _=>.err n _) fun hc=>?_
 have h:hasK s.devs c.dev = true:=by simpa using h0
 have he:hasK (s.dev c.dev).evs c.ev = true:=by simpa using he
 have hx:NG r (getK rt0 (s.dev c.dev).evs c.ev).num:=n.ev c.dev c.ev _ (by rw [evOf_has h]; exact lk_yes rt0 he)
 dsimp only
 generalize getK rt0 (s.dev c.dev).evs c.ev = x at *
 have n2:=n.put (ev:=c.ev) (x:={ x with coll:=c.coll }) g h hx
 refine ⟨n2,fun y hy=>?_⟩
 rcases List.mem_append.1 hy with hy | hy
 · by_cases h1:(goesM s.colls x.coll).2 = 0
   · rw [if_pos h1] at hy
     rw [List.mem_singleton.1 hy]
     exact ⟨fun _=>hx,goes_ok n h1,goes_ok n (by omega),by show (1:Int)≤5∧(5:Int)≤8; omega⟩
   · rw [if_neg h1] at hy; cases hy
 · rw [List.mem_singleton.1 hy]
   exact bnd_good hv n2 _ _
theorem NT.event {c:Cm} (hv:0 < r.vcpus) (n:VNum r s) (g:VGood s):NT r (eventM s c):=by
 unfold eventM
 refine ite_p (NT r) (fun _=>.err n _) fun h0=>ite_p (NT r) (fun _=>.err n _) fun he=>?_
 have h:hasK s.devs c.dev = true:=by simpa using h0
 have he:hasK (s.dev c.dev).evs c.ev = true:=by simpa using he
 have hx:NG r (getK rt0 (s.dev c.dev).evs c.ev).num:=n.ev c.dev c.ev _ (by rw [evOf_has h]; exact lk_yes rt0 he)
 dsimp only
 generalize getK rt0 (s.dev c.dev).evs c.ev = x at *
 refine ite_p (NT r) (fun _=>⟨n.forget g h,forgetC_good hv n g h⟩) fun _=>ite_p (NT r) (fun _=>⟨n,fun y hy=>?_⟩) fun _=>ite_p (NT r) (fun _=>.err n _) fun hc=>ite_p (NT r) (fun _=>⟨n,fun y hy=>?_⟩) fun _=>⟨n,fun y hy=>?_⟩
 · rw [List.mem_singleton.1 hy]; exact ⟨fun _=>hx,vg0 hv,vg0 hv,by show (1:Int)≤7∧(7:Int)≤8; omega⟩
 · rw [List.mem_singleton.1 hy]; exact ⟨fun _=>hx,vg0 hv,goes_ok n (by omega),by show (1:Int)≤3∧(3:Int)≤8; omega⟩
 · rw [List.mem_singleton.1 hy]; exact ⟨fun _=>hx,goes_ok n (by omega),vg0 hv,by show (1:Int)≤4∧(4:Int)≤8; omega⟩
theorem NT.vdo {c:Cm} {owned:List Int} {p:Nat} (hv:0 < r.vcpus) (n:VNum r s) (g:VGood s):NT r (vdoM s c r owned p):=by
 unfold vdoM
 refine ite_p (NT r) (fun _=>.err n _) fun h0=>?_
 cases he:encM c with
 | none=>exact absurd he h0
 | some ws =>
  obtain ⟨-,hf,-,-,-⟩:=encM_some he
  have f2:0≤c.num:=(hf 2 (by omega)).1
  have f4:0≤c.tgt:=(hf 4 (by omega)).1
  refine ite_p (NT r) (fun _=>.err n _) fun _=>?_
  refine ite_p (NT r) (fun _=>.mapd hv n g) fun _=>?_
  refine ite_p (NT r) (fun _=>.mapc hv n g f4) fun _=>?_
  refine ite_p (NT r) (fun _=>.mapti hv n g) fun _=>?_
  refine ite_p (NT r) (fun _=>.mapti hv n g) fun _=>?_
  refine ite_p (NT r) (fun _=>.movi hv n g) fun _=>?_
  refine ite_p (NT r) (fun _=>ite_p (NT r) (fun _=>.err n _) fun _=>⟨n,fun y hy=>?_⟩) fun _=>?_
  · rw [List.mem_singleton.1 hy]; exact ⟨fun h=>(by rcases h with h | h | h | h | h <;> cases h),vg0 hv,vg0 hv,by show (1:Int)≤8∧(8:Int)≤8; omega⟩
  refine ite_p (NT r) (fun _=>ite_p (NT r) (fun _=>.err n _) fun ht=>ite_p (NT r) (fun _=>.err n _) fun _=>⟨n,fun y hy=>?_⟩) fun _=>?_
  · rw [List.mem_singleton.1 hy]; exact ⟨fun h=>(by rcases h with h | h | h | h | h <;> cases h),⟨f4,by show c.tgt < _; omega⟩,⟨f2,by show c.num < _; omega⟩,by show (1:Int)≤6∧(6:Int)≤8; omega⟩
  exact .event hv n g
end
def Vi.hd (s:Vi):Bool×Bool×Int×Bool×Qu:=(s.on,s.st,s.base,s.fit,s.q)
abbrev HD (s:Vi) (M:List Ch×Vi×Int):Prop:=M.2.1.hd = s.hd
theorem fgt_hd {dev:Int}:∀ (l:List Int) (a:List Ch×Vi),(l.foldl (fgtF dev) a).2.hd = a.2.hd
 | [],a=>rfl
 | e :: t,a=>by
  rw [List.foldl_cons]
  exact (fgt_hd t (fgtF dev a e)).trans rfl
theorem gone_hd (s:Vi) (dev:Int):(goneM s dev).2.hd = s.hd:=by
 unfold goneM
 refine ite_p (fun A:List Ch×Vi=>A.2.hd = s.hd) (fun _=>?_) fun _=>rfl
 exact (fgt_hd (dev:=dev) (ks (s.dev dev).evs) ([],s))
theorem vdo_hd (s:Vi) (c:Cm) (r:Ru) (owned:List Int) (p:Nat):HD s (vdoM s c r owned p):=by
 unfold vdoM
 refine ite_p (HD s) (fun _=>rfl) fun h0=>?_
 refine ite_p (HD s) (fun _=>rfl) fun _=>?_
 refine ite_p (HD s) (fun _=>?_) fun _=>?_
 · unfold mapdM
   refine ite_p (HD s) (fun _=>rfl) fun _=>?_
   show (if c.val then { (goneM s c.dev).2 with devs:=putK (goneM s c.dev).2.devs c.dev ⟨c.bits,p,[]⟩ } else (goneM s c.dev).2:Vi).hd = s.hd
   cases c.val
   · exact gone_hd s c.dev
   · exact gone_hd s c.dev
 refine ite_p (HD s) (fun _=>?_) fun _=>?_
 · unfold mapcM
   exact ite_p (HD s) (fun _=>rfl) fun _=>ite_p (HD s) (fun _=>rfl) fun _=>rfl
 have mt:∀ n,HD s (maptiM s c n r.lpis):=fun n=>by
  unfold maptiM
  refine ite_p (HD s) (fun _=>rfl) fun _=>ite_p (HD s) (fun _=>rfl) fun _=>ite_p (HD s) (fun _=>rfl) fun _=>ite_p (HD s) (fun _=>rfl) fun _=>?_
  show (if hasK (s.dev c.dev).evs c.ev = true then (forgetC s c.dev c.ev,forgetS s c.dev c.ev) else (([]:List Ch),s)).2.hd = s.hd
  exact ite_p (fun A:List Ch×Vi=>A.2.hd = s.hd) (fun _=>rfl) fun _=>rfl
 refine ite_p (HD s) (fun _=>mt _) fun _=>?_
 refine ite_p (HD s) (fun _=>mt _) fun _=>?_
 refine ite_p (HD s) (fun _=>?_) fun _=>?_
 · unfold moviM
   exact ite_p (HD s) (fun _=>rfl) fun _=>ite_p (HD s) (fun _=>rfl) fun _=>ite_p (HD s) (fun _=>rfl) fun _=>rfl
 refine ite_p (HD s) (fun _=>ite_p (HD s) (fun _=>rfl) fun _=>rfl) fun _=>?_
 refine ite_p (HD s) (fun _=>ite_p (HD s) (fun _=>rfl) fun _=>ite_p (HD s) (fun _=>rfl) fun _=>rfl) fun _=>?_
 unfold eventM
 exact ite_p (HD s) (fun _=>rfl) fun _=>ite_p (HD s) (fun _=>rfl) fun _=>ite_p (HD s) (fun _=>rfl) fun _=>ite_p (HD s) (fun _=>rfl) fun _=>ite_p (HD s) (fun _=>rfl) fun _=>ite_p (HD s) (fun _=>rfl) fun _=>rfl
theorem vdo_p (s:Vi) (c:Cm) (r:Ru) (owned:List Int) (p p':Nat):(vdoM s c r owned p).1 = (vdoM s c r owned p').1∧(vdoM s c r owned p).2.2 = (vdoM s c r owned p').2.2:=by
 have hm:(mapdM s c r.s p).1 = (mapdM s c r.s p').1∧(mapdM s c r.s p).2.2 = (mapdM s c r.s p').2.2:=by
  unfold mapdM
  by_cases h:mapdE c r.s≠0
  · rw [if_pos h,if_pos h]; exact ⟨rfl,rfl⟩
  · rw [if_neg h,if_neg h]; exact ⟨rfl,rfl⟩
 unfold vdoM
 by_cases h1:encM c = none
 · rw [if_pos h1,if_pos h1]; exact ⟨rfl,rfl⟩
 rw [if_neg h1,if_neg h1]
 by_cases h2:namesB c.op = true∧c.dev ∉ owned
 · rw [if_pos h2,if_pos h2]; exact ⟨rfl,rfl⟩
 rw [if_neg h2,if_neg h2]
 by_cases h3:c.op = 8
 · rw [if_pos h3,if_pos h3]; exact hm
 rw [if_neg h3,if_neg h3]
 exact ⟨rfl,rfl⟩
theorem land_w (x:Nat):x &&& 1048544 = 32 * (x / 32 % 32768):=by
 have e:(1048544:Nat) = 32767 <<< 5:=rfl
 have h:x &&& 1048544 = ((x >>> 5) &&& 32767) <<< 5:=by
  rw [e]
  refine Nat.eq_of_testBit_eq fun i=>?_
  rw [Nat.testBit_and,Nat.testBit_shiftLeft,Nat.testBit_shiftLeft,Nat.testBit_and,Nat.testBit_shiftRight]
  by_cases hi:5≤i
  · rw [show 5 + (i - 5) = i by omega]
    simp [hi]
  · simp [hi]
 rw [h,show (32767:Nat) = 2 ^ 15 - 1 from rfl,Nat.and_two_pow_sub_one_eq_mod,Nat.shiftRight_eq_div_pow,Nat.shiftLeft_eq]
 omega
theorem and_w {v:Int} (h0:0≤v) (h1:v < 18446744073709551616):bitX .and .u64 v 1048544 = 32 * ((v.toNat / 32 % 32768:Nat):Int):=by
 obtain ⟨n,rfl⟩:=Int.eq_ofNat_of_zero_le h0
 have:=and_u64 (a:=n) (b:=1048544) (by omega) (by omega)
 rw [show (1048544:Int) = ((1048544:Nat):Int) from rfl,this,land_w,Int.toNat_natCast]
 omega
def VQ (s:Vi):Prop:=SmallS s.q∧∃ j:Nat,j < 32768∧s.q.w = 32 * (j:Int)
theorem vq0:VQ vi0:=⟨by show (0:Int)≤_; omega,0,by omega,rfl⟩
theorem VQ.hd {s t:Vi} (h:VQ s) (e:t.hd = s.hd):VQ t:=by
 have:t.q = s.q:=congrArg (fun x=>x.2.2.2.2) e
 unfold VQ; rw [this]; exact h
theorem VQ.q {s t:Vi} (h:VQ s) (e:t.q = s.q):VQ t:=by unfold VQ; rw [e]; exact h
theorem pass_w (q:Qu):(passQ q).1.w = q.w:=by unfold passQ; split <;> rfl
theorem vdo_q (s:Vi) (c:Cm) (r:Ru) (owned:List Int) (p:Nat):(vdoM s c r owned p).2.1.q = s.q:=congrArg (fun x=>x.2.2.2.2) (vdo_hd s c r owned p)
theorem VQ.step {s:Vi} {bs:List Int} {r:Ru} {owned:List Int} {p:Nat} (g:VQ s):VQ (vstepM s bs r owned p).2.2.1:=by
 have gv:=vdo_q s (headQ s.q bs).1 r owned p
 unfold vstepM
 generalize vdoM s (headQ s.q bs).1 r owned p = V at *
 generalize headQ s.q bs = hd at *
 refine ite_p (fun A:Cm×List Ch×Vi×Int=>VQ A.2.2.1) (fun _=>g) fun _=>?_
 refine ite_p (fun A:Cm×List Ch×Vi×Int=>VQ A.2.2.1) (fun _=>g) fun _=>?_
 refine ite_p (fun A:Cm×List Ch×Vi×Int=>VQ A.2.2.1) (fun _=>g.q rfl) fun _=>?_
 refine ite_p (fun A:Cm×List Ch×Vi×Int=>VQ A.2.2.1) (fun _=>g) fun _=>?_
 refine ite_p (fun A:Cm×List Ch×Vi×Int=>VQ A.2.2.1) (fun _=>g.q rfl) fun _=>?_
 refine ite_p (fun A:Cm×List Ch×Vi×Int=>VQ A.2.2.1) (fun _=>g.q gv) fun _=>?_
 obtain ⟨h1,h2⟩:=g
 refine ⟨?_,?_⟩
 · show (passQ V.2.1.q).1.s≤_
   rw [pass_s,gv]; exact h1
 · show ∃ j:Nat,j < 32768∧(passQ V.2.1.q).1.w = 32 * (j:Int)
   rw [pass_w,gv]; exact h2
theorem VQ.write {s:Vi} {off width v:Int} {r:Ru} (g:VQ s) (h0:0≤v) (h1:v < 18446744073709551616):VQ (vwriteM s off width v r).1:=by
 unfold vwriteM
 generalize itsM off width = I
 refine ite_p (fun A:Vi×Int=>VQ A.1) (fun _=>g) fun _=>?_
 refine ite_p (fun A:Vi×Int=>VQ A.1) (fun _=>g.q rfl) fun _=>?_
 refine ite_p (fun A:Vi×Int=>VQ A.1) (fun _=>?_) fun _=>?_
 · show VQ (if s.on then s else rebM s v r)
   cases s.on
   · show VQ (rebM s v r)
     unfold rebM
     refine ite_p VQ (fun _=>?_) fun _=>⟨by show (0:Int)≤_; omega,0,by omega,rfl⟩
     have hn:baseN v≤9223372036854775807:=(W_range _).2
     have hp:(partM r.a r.s (baseX v) (baseN v)).1.2≤9223372036854775807:=by
      unfold partM
      refine ite_p (fun A:(Int×Int)×Int=>A.1.2≤9223372036854775807) (fun _=>hn) fun _=>?_
      show (0:Int)≤_; omega
     refine ⟨?_,0,by omega,?_⟩
     · show (newQ _ _).1.s≤_
       unfold newQ
       refine ite_p (fun A:Qu×Int=>A.1.s≤9223372036854775807) (fun _=>hp) fun _=>?_
       show (0:Int)≤_; omega
     · show (newQ _ _).1.w = _
       unfold newQ
       exact ite_p (fun A:Qu×Int=>A.1.w = 32 * ((0:Nat):Int)) (fun _=>rfl) fun _=>rfl
   · exact g
 refine ite_p (fun A:Vi×Int=>VQ A.1) (fun _=>?_) fun _=>g
 show VQ (stop1 v (if s.fit then { s with q:=(setQ s.q (wi (bitX .and .u64 v 1048544))).1 } else s))
 have:VQ (if s.fit then { s with q:=(setQ s.q (wi (bitX .and .u64 v 1048544))).1 } else s):=by
  cases s.fit
  · exact g
  · obtain ⟨h2,h3⟩:=g
    refine ⟨?_,?_⟩
    · show (setQ s.q (wi (bitX .and .u64 v 1048544))).1.s≤_
      rw [set_s]; exact h2
    · show ∃ j:Nat,j < 32768∧(setQ s.q (wi (bitX .and .u64 v 1048544))).1.w = 32 * (j:Int)
      unfold setQ
      refine ite_p (fun A:Qu×Int=>∃ j:Nat,j < 32768∧A.1.w = 32 * (j:Int)) (fun _=>?_) fun _=>h3
      refine ⟨v.toNat / 32 % 32768,by omega,?_⟩
      show wi (bitX .and .u64 v 1048544) = _
      rw [and_w h0 h1]
      exact W_id (by omega) (by omega)
 exact this.q rfl
theorem pass_left {q:Qu} (hs:SmallS q) (h:¬ q.left < 1):(passQ q).1.left = q.left - 1∧1≤q.left∧q.left≤1024:=by
 have hb:q.both = true:=by
  cases hh:q.both
  · exfalso; apply h; unfold Qu.left; rw [hh]; simp
  · rfl
 obtain ⟨N,i,n,e1,e2,e3,hi,hn,hN,hl,-,-⟩:=both_form hs hb
 have hp:(passQ q).1 = { q with r:=nextQ q.s q.r }:=by unfold passQ; rw [if_neg h]
 have e4:nextQ q.s q.r = 32 * (((i + 1) % N:Nat):Int):=by rw [e1,e2]; exact nextQ_n hN hi
 have hi2:(i + 1) % N < N:=Nat.mod_lt _ (by omega)
 have e5:(i + n) % N = ((i + 1) % N + (n - 1)) % N:=by
  rw [Nat.add_mod ((i + 1) % N),Nat.mod_mod,← Nat.add_mod]
  congr 1; omega
 refine ⟨?_,by omega,by omega⟩
 rw [hp,hl]
 unfold Qu.left
 have hb2:({ q with r:=nextQ q.s q.r }:Qu).both = true:=by
  unfold Qu.both at hb ⊢
  rw [Bool.and_eq_true] at hb ⊢
  refine ⟨?_,hb.2⟩
  show mayB q.s 32 (nextQ q.s q.r) = true
  rw [e4,e1]
  exact may_n hN hi2
 rw [hb2,if_pos rfl]
 show leftV q.s 32 (nextQ q.s q.r) q.w = _
 rw [e4,e1,e3,left_n (n:=n - 1) hN hi2 (by omega) e5]
 omega
inductive Stp (s:Vi) (bs:List Int) (r:Ru) (owned:List Int) (p:Nat):Cm×List Ch×Vi×Int→Prop
 | off (h:s.on = false):Stp s bs r owned p (cm0,[],s,191)
 | st (h:s.on = true) (h2:s.st = true):Stp s bs r owned p (cm0,[],s,190)
 | fit (h:s.on = true) (h2:s.st = false) (h3:s.fit = false):Stp s bs r owned p (cm0,[],{ s with st:=true },241)
 | empty (h:s.on = true) (h2:s.st = false) (h3:s.fit = true) (h4:(headQ s.q bs).2 = 170):Stp s bs r owned p (cm0,[],s,170)
 | head (h:s.on = true) (h2:s.st = false) (h3:s.fit = true) (h4:(headQ s.q bs).2≠170) (h5:(headQ s.q bs).2≠0):Stp s bs r owned p (cm0,[],{ s with st:=true },(headQ s.q bs).2)
 | err (h:s.on = true) (h2:s.st = false) (h3:s.fit = true) (h5:(headQ s.q bs).2 = 0) (h6:(vdoM s (headQ s.q bs).1 r owned p).2.2≠0):Stp s bs r owned p (cm0,[],{ s with st:=true },(vdoM s (headQ s.q bs).1 r owned p).2.2)
 | ok (h:s.on = true) (h2:s.st = false) (h3:s.fit = true) (h5:(headQ s.q bs).2 = 0) (h6:(vdoM s (headQ s.q bs).1 r owned p).2.2 = 0):Stp s bs r owned p ((headQ s.q bs).1,(vdoM s (headQ s.q bs).1 r owned p).1,{ (vdoM s (headQ s.q bs).1 r owned p).2.1 with q:=(passQ s.q).1 },0)
theorem stp (s:Vi) (bs:List Int) (r:Ru) (owned:List Int) (p:Nat):Stp s bs r owned p (vstepM s bs r owned p):=by
 have gv:=vdo_q s (headQ s.q bs).1 r owned p
 have ge:=vdo_err (s:=s) (c:=(headQ s.q bs).1) (r:=r) (owned:=owned) (p:=p)
 unfold vstepM
 by_cases h1:s.on = false
 · rw [if_pos h1]; exact .off h1
 rw [if_neg h1]
 have h1:s.on = true:=by simpa using h1
 by_cases h2:s.st = true
 · rw [if_pos h2]; exact .st h1 h2
 rw [if_neg h2]
 have h2:s.st = false:=by simpa using h2
 by_cases h3:s.fit = false
 · rw [if_pos h3]; exact .fit h1 h2 h3
 rw [if_neg h3]
 have h3:s.fit = true:=by simpa using h3
 by_cases h4:(headQ s.q bs).2 = 170
 · rw [if_pos h4]; exact .empty h1 h2 h3 h4
 rw [if_neg h4]
 by_cases h5:(headQ s.q bs).2≠0
 · rw [if_pos h5]; exact .head h1 h2 h3 h4 h5
 rw [if_neg h5]
 by_cases h6:(vdoM s (headQ s.q bs).1 r owned p).2.2≠0
 · rw [if_pos h6,(ge h6).2]; exact .err h1 h2 h3 (by omega) h6
 rw [if_neg h6,gv]
 exact .ok h1 h2 h3 (by omega) (by omega)
theorem head_left {q:Qu} {bs:List Int} (h:(headQ q bs).2 = 0):¬ q.left < 1:=by
 intro hl
 unfold headQ at h
 rw [if_pos hl] at h
 simp at h
theorem goes_on {s:Vi} {r:Ru} (g:VQ s):(vwriteM s 136 8 (bitX .or .u64 (vreadM s 136 8).1 1) r).1 = { s with st:=false }:=by
 obtain ⟨hs,j,hj,hw⟩:=g
 have i1:(itsM 136 8).2 = 0:=by decide +kernel
 have i2:(itsM 136 8).1.1 = 20:=by decide +kernel
 have hr:(vreadM s 136 8).1 = ((32 * j:Nat):Int):=by
  unfold vreadM
  rw [i1,i2,if_neg (by simp),if_neg (by omega),if_neg (by omega),if_neg (by omega),if_pos rfl,hw]
  show IntKind.u64.wrap (32 * (j:Int)) = _
  rw [show 32 * (j:Int) = ((32 * j:Nat):Int) by omega]
  exact u64_id (by omega)
 have ho:bitX .or .u64 (vreadM s 136 8).1 1 = ((32 * j + 1:Nat):Int):=by
  rw [hr]
  have:=or_u64 (a:=32 * j) (b:=1) (by omega) (by omega)
  rw [show (1:Int) = ((1:Nat):Int) from rfl,this]
  have h2:=Nat.two_pow_add_eq_or_of_lt (i:=5) (b:=1) (by omega) j
  rw [show 2 ^ 5 = 32 from rfl] at h2
  rw [h2]
 rw [ho]
 have h1:bitX .and .u64 ((32 * j + 1:Nat):Int) 1 = 1:=by
  have:=and_u64 (a:=32 * j + 1) (b:=1) (by omega) (by omega)
  rw [show (1:Int) = ((1:Nat):Int) from rfl,this]
  have h3:(32 * j + 1) &&& 1 = (32 * j + 1) % 2:=Nat.and_one_is_mod _
  rw [h3]; omega
 have h2:wi (bitX .and .u64 ((32 * j + 1:Nat):Int) 1048544) = s.q.w:=by
  rw [and_w (by omega) (by omega),Int.toNat_natCast,show (32 * j + 1) / 32 % 32768 = j by omega,hw]
  exact W_id (by omega) (by omega)
 unfold vwriteM
 rw [i1,i2,if_neg (by simp),if_neg (by omega),if_neg (by omega),if_pos rfl]
 show stop1 _ _ = _
 unfold stop1
 rw [h1,h2]
 have hq:(setQ s.q s.q.w).1 = s.q:=by
  unfold setQ
  exact ite_p (fun A:Qu×Int=>A.1 = s.q) (fun _=>rfl) fun _=>rfl
 rw [hq]
 have e:(if s.fit = true then ({ s with q:=s.q }:Vi) else s) = s:=by cases s.fit <;> rfl
 rw [e]
 cases hst:s.st <;> simp
theorem step_ok {s:Vi} {bs:List Int} {r:Ru} {owned:List Int} {p:Nat} (g:VQ s) (h:(vstepM s bs r owned p).2.2.2 = 0) :
 vleft (vstepM s bs r owned p).2.2.1 = IntKind.i64.wrap (vleft s - 1)∧(vstepM s bs r owned p).2.2.1.st = false:=by
 have hs:=stp s bs r owned p
 have hd:=vdo_hd s (headQ s.q bs).1 r owned p
 generalize vstepM s bs r owned p = M at *
 cases hs with
 | off=>simp at h
 | st=>simp at h
 | fit=>simp at h
 | empty=>simp at h
 | head h1 h2 h3 h4 h5=>exact absurd h h5
 | err h1 h2 h3 h5 h6=>exact absurd h h6
 | ok h1 h2 h3 h5 h6 =>
  have hf:(vdoM s (headQ s.q bs).1 r owned p).2.1.fit = s.fit:=congrArg (fun x=>x.2.2.2.1) hd
  have ht:(vdoM s (headQ s.q bs).1 r owned p).2.1.st = s.st:=congrArg (fun x=>x.2.1) hd
  obtain ⟨e1,e2,e3⟩:=pass_left g.1 (head_left h5)
  refine ⟨?_,ht.trans h2⟩
  have hl:vleft s = s.q.left:=by unfold vleft; rw [h3,if_pos rfl]
  show (if (vdoM s (headQ s.q bs).1 r owned p).2.1.fit = true then (passQ s.q).1.left else 0) = _
  rw [hf,h3,if_pos rfl,hl,e1]
  exact (W_id (by omega) (by omega)).symm
theorem step_quiet {s:Vi} {bs:List Int} {r:Ru} {owned:List Int} {p:Nat} (h:(vstepM s bs r owned p).2.2.2≠0) :
 (vstepM s bs r owned p).1 = cm0∧(vstepM s bs r owned p).2.1 = []∧vleft (vstepM s bs r owned p).2.2.1 = vleft s:=by
 have hs:=stp s bs r owned p
 generalize vstepM s bs r owned p = M at *
 cases hs with
 | ok h1 h2 h3 h5 h6=>exact absurd rfl h
 | _=>exact ⟨rfl,rfl,rfl⟩
theorem step_le {s:Vi} {bs:List Int} {r:Ru} {owned:List Int} {p:Nat} (g:VQ s):vleft (vstepM s bs r owned p).2.2.1≤vleft s:=by
 by_cases h:(vstepM s bs r owned p).2.2.2 = 0
 · rw [(step_ok g h).1]
   have hs:=stp s bs r owned p
   generalize vstepM s bs r owned p = M at *
   cases hs with
   | off=>simp at h
   | st=>simp at h
   | fit=>simp at h
   | empty=>simp at h
   | head h1 h2 h3 h4 h5=>exact absurd h h5
   | err h1 h2 h3 h5 h6=>exact absurd h h6
   | ok h1 h2 h3 h5 h6 =>
    obtain ⟨e1,e2,e3⟩:=pass_left g.1 (head_left h5)
    have hl:vleft s = s.q.left:=by unfold vleft; rw [h3,if_pos rfl]
    rw [hl,W_id (by omega) (by omega)]; omega
 · rw [(step_quiet h).2.2]; exact Int.le_refl _
theorem step_p (s:Vi) (bs:List Int) (r:Ru) (owned:List Int) (p p':Nat):(vstepM s bs r owned p).2.2.2 = (vstepM s bs r owned p').2.2.2:=by
 have hp:=(vdo_p s (headQ s.q bs).1 r owned p p').2
 unfold vstepM
 by_cases h1:s.on = false
 · rw [if_pos h1,if_pos h1]
 rw [if_neg h1,if_neg h1]
 by_cases h2:s.st = true
 · rw [if_pos h2,if_pos h2]
 rw [if_neg h2,if_neg h2]
 by_cases h3:s.fit = false
 · rw [if_pos h3,if_pos h3]
 rw [if_neg h3,if_neg h3]
 by_cases h4:(headQ s.q bs).2 = 170
 · rw [if_pos h4,if_pos h4]
 rw [if_neg h4,if_neg h4]
 by_cases h5:(headQ s.q bs).2≠0
 · rw [if_pos h5,if_pos h5]
 rw [if_neg h5,if_neg h5]
 by_cases h6:(vdoM s (headQ s.q bs).1 r owned p).2.2≠0
 · rw [if_pos h6,if_pos (by rw [← hp]; exact h6)]; exact hp
 · rw [if_neg h6,if_neg (by rw [← hp]; exact h6)]
theorem step_stall {s:Vi} {bs:List Int} {r:Ru} {owned:List Int} {p:Nat} (h0:(vstepM s bs r owned p).2.2.2≠0) (h1:(vstepM s bs r owned p).2.2.2≠191) (h2:(vstepM s bs r owned p).2.2.2≠170) :
 (vstepM s bs r owned p).2.2.1 = { s with st:=true }∧s.on = true∧((vstepM s bs r owned p).2.2.2 = 190∨s.st = false):=by
 have hs:=stp s bs r owned p
 generalize vstepM s bs r owned p = M at *
 cases hs with
 | off=>exact absurd rfl h1
 | st h3 h4=>exact ⟨by rw [← h4],h3,.inl rfl⟩
 | fit h3 h4=>exact ⟨rfl,h3,.inr h4⟩
 | empty=>exact absurd rfl h2
 | head h3 h4=>exact ⟨rfl,h3,.inr h4⟩
 | err h3 h4=>exact ⟨rfl,h3,.inr h4⟩
 | ok=>exact absurd rfl h0
theorem step_again {s:Vi} {bs:List Int} {r:Ru} {owned:List Int} {p:Nat} (h1:s.on = true) (h2:s.st = true):(vstepM s bs r owned p).2.2.2 = 190∧(vstepM s bs r owned p).2.2.1 = s:=by
 unfold vstepM
 rw [if_neg (by rw [h1]; simp),if_pos h2]
 exact ⟨rfl,rfl⟩
theorem stalls {s:Vi} {bs:List Int} {r:Ru} {owned:List Int} {p1 p2 p3:Nat} (g:VQ s) (h0:(vstepM s bs r owned p1).2.2.2≠0) (h1:(vstepM s bs r owned p1).2.2.2≠191) (h2:(vstepM s bs r owned p1).2.2.2≠170) :
 (vstepM s bs r owned p1).2.2.1.st = true∧(vstepM (vstepM s bs r owned p1).2.2.1 bs r owned p2).2.2.2 = 190∧(vstepM (vstepM s bs r owned p1).2.2.1 bs r owned p2).2.2.1 = (vstepM s bs r owned p1).2.2.1 ∧
  (vwriteM (vstepM s bs r owned p1).2.2.1 136 8 (bitX .or .u64 (vreadM (vstepM s bs r owned p1).2.2.1 136 8).1 1) r).1 = { s with st:=false } ∧
  vleft (vstepM { s with st:=false } bs r owned p3).2.2.1≤vleft s∧((vstepM s bs r owned p1).2.2.2 = 190∨(vstepM { s with st:=false } bs r owned p3).2.2.2 = (vstepM s bs r owned p1).2.2.2):=by
 obtain ⟨e1,e2,e3⟩:=step_stall h0 h1 h2
 have ha:=step_again (s:={ s with st:=true }) (bs:=bs) (r:=r) (owned:=owned) (p:=p2) e2 rfl
 have hg:=goes_on (s:={ s with st:=true }) (r:=r) (g.q rfl)
 have hl:vleft (vstepM { s with st:=false } bs r owned p3).2.2.1≤vleft ({ s with st:=false }:Vi):=step_le (g.q rfl)
 rw [e1]
 refine ⟨rfl,ha.1,ha.2,hg,hl,?_⟩
 rcases e3 with e3 | e3
 · exact .inl e3
 · refine .inr ?_
   have:({ s with st:=false }:Vi) = s:=by rw [← e3]
   rw [this]
   exact step_p s bs r owned p3 p1
abbrev LenT (M:List Ch×Vi×Int):Prop:=M.1.length≤200000000000
theorem vdo_len {s:Vi} {c:Cm} {r:Ru} {owned:List Int} {p:Nat} (g:VGood s):LenT (vdoM s c r owned p):=by
 have hf:=g.fits
 have hsz:=hf.size
 have f2:∀ dev ev,(forgetC s dev ev).length≤2:=fun dev ev=>fgtC_len s dev ev
 have n0:∀ (t:Vi) (e:Int),LenT ([],t,e):=fun t e=>by show 0≤_; omega
 have n1:∀ (x:Ch) (t:Vi) (e:Int),LenT ([x],t,e):=fun x t e=>by show 1≤_; omega
 unfold vdoM
 refine ite_p LenT (fun _=>n0 _ _) fun h0=>?_
 refine ite_p LenT (fun _=>n0 _ _) fun _=>?_
 refine ite_p LenT (fun _=>?_) fun _=>?_
 · unfold mapdM
   refine ite_p LenT (fun _=>n0 _ _) fun _=>?_
   show (goneM s c.dev).1.length≤_
   unfold goneM
   refine ite_p (fun A:List Ch×Vi=>A.1.length≤200000000000) (fun _=>?_) fun _=>by show 0≤_; omega
   have h1:=fgt_len s c.dev (ks (s.dev c.dev).evs)
   have h2:=hf.evs c.dev
   rw [ks_len] at h1
   show (fgt s c.dev (ks (s.dev c.dev).evs)).1.length≤_
   omega
 refine ite_p LenT (fun _=>?_) fun _=>?_
 · unfold mapcM
   refine ite_p LenT (fun _=>n0 _ _) fun _=>ite_p LenT (fun _=>n0 _ _) fun _=>?_
   show (mapcC _ c.coll s.devs).length≤_
   have h1:=mapcC_len { s with colls:=if c.val then putK s.colls c.coll c.tgt else takeK s.colls c.coll } c.coll s.devs
   omega
 have mt:∀ n,LenT (maptiM s c n r.lpis):=fun n=>by
  unfold maptiM
  refine ite_p LenT (fun _=>n0 _ _) fun _=>ite_p LenT (fun _=>n0 _ _) fun _=>ite_p LenT (fun _=>n0 _ _) fun _=>ite_p LenT (fun _=>n0 _ _) fun _=>?_
  have h1:(if hasK (s.dev c.dev).evs c.ev = true then (forgetC s c.dev c.ev,forgetS s c.dev c.ev) else (([]:List Ch),s)).1.length≤2 :=
   ite_p (fun A:List Ch×Vi=>A.1.length≤2) (fun _=>f2 _ _) fun _=>by show 0≤_; omega
  dsimp only
  generalize (if hasK (s.dev c.dev).evs c.ev = true then (forgetC s c.dev c.ev,forgetS s c.dev c.ev) else (([]:List Ch),s)) = A at *
  show (A.1 ++ [_,_]).length≤_
  rw [List.length_append]
  show A.1.length + 2≤_
  omega
 refine ite_p LenT (fun _=>mt _) fun _=>?_
 refine ite_p LenT (fun _=>mt _) fun _=>?_
 refine ite_p LenT (fun _=>?_) fun _=>?_
 · unfold moviM
   refine ite_p LenT (fun _=>n0 _ _) fun _=>ite_p LenT (fun _=>n0 _ _) fun _=>ite_p LenT (fun _=>n0 _ _) fun _=>?_
   dsimp only
   show (List.length (_ ++ [_]))≤_
   rw [List.length_append]
   refine ite_p (fun A:List Ch=>A.length + 1≤200000000000) (fun _=>by show 1 + 1≤_; omega) fun _=>by show 0 + 1≤_; omega
 refine ite_p LenT (fun _=>ite_p LenT (fun _=>n0 _ _) fun _=>n1 _ _ _) fun _=>?_
 refine ite_p LenT (fun _=>ite_p LenT (fun _=>n0 _ _) fun _=>ite_p LenT (fun _=>n0 _ _) fun _=>n1 _ _ _) fun _=>?_
 unfold eventM
 refine ite_p LenT (fun _=>n0 _ _) fun _=>ite_p LenT (fun _=>n0 _ _) fun _=>ite_p LenT (fun _=>?_) fun _=>ite_p LenT (fun _=>n1 _ _ _) fun _=>ite_p LenT (fun _=>n0 _ _) fun _=>ite_p LenT (fun _=>n1 _ _ _) fun _=>n1 _ _ _
 have:=f2 c.dev c.ev
 show (forgetC s c.dev c.ev).length≤_
 omega
theorem step_len {s:Vi} {bs:List Int} {r:Ru} {owned:List Int} {p:Nat} (g:VGood s):(vstepM s bs r owned p).2.1.length≤200000000000:=by
 have h:=vdo_len (s:=s) (c:=(headQ s.q bs).1) (r:=r) (owned:=owned) (p:=p) g
 have hs:=stp s bs r owned p
 generalize vstepM s bs r owned p = M at *
 cases hs with
 | ok=>exact h
 | _=>show 0≤_; omega
structure Sd where
 s:Vi
 m:List Int
 d:Rv
 n:List Int
noncomputable abbrev sdL (bs bm bd bn:Nat) (t:Sd):List It:=[vitsI bs t.s,memI bm t.m,refI bd t.d,memI bn t.n]
def putX (at':Int) (ns:List Int):List Int:=if holdsB ns.length (wi (512 + at')) 32 then cut ns (wi (512 + at')).toNat 32 else []
def putB (at':Int) (ms xs:List Int):Bool:=holdsB ms.length (wi (512 + at')) 32 && decide ((xs.length:Int)≤32)
def doesM (p:Nat) (r:Ru) (owned:List Int) (x:Ac) (t:Sd):Bool×Sd :=
 if x.d = 1 then (decide ((vdoM t.s x.c r owned p).1 = (vdoR t.d x.c r owned).1) && ((vdoM t.s x.c r owned p).2.2 == (vdoR t.d x.c r owned).2.2),{ t with s:=(vdoM t.s x.c r owned p).2.1,d:=(vdoR t.d x.c r owned).2.1 })
 else if x.d = 2 then
  if (putQ ⟨512,2048,0,x.at'⟩ t.n x.c).2.2≠0 then (true,{ t with n:=(putQ ⟨512,2048,0,x.at'⟩ t.n x.c).2.1 })
  else (putB x.at' t.m (putX x.at' (putQ ⟨512,2048,0,x.at'⟩ t.n x.c).2.1),{ t with n:=(putQ ⟨512,2048,0,x.at'⟩ t.n x.c).2.1,m:=if putB x.at' t.m (putX x.at' (putQ ⟨512,2048,0,x.at'⟩ t.n x.c).2.1) then over t.m (wi (512 + x.at')).toNat (putX x.at' (putQ ⟨512,2048,0,x.at'⟩ t.n x.c).2.1) else t.m })
 else if x.d = 3 then (decide ((vstepM t.s t.m r owned p).1 = (rstepM t.d t.n r owned).1) && (decide ((vstepM t.s t.m r owned p).2.1 = (rstepM t.d t.n r owned).2.1) && ((vstepM t.s t.m r owned p).2.2.2 == (rstepM t.d t.n r owned).2.2.2)),{ t with s:=(vstepM t.s t.m r owned p).2.2.1,d:=(rstepM t.d t.n r owned).2.2.1 })
 else if x.d = 4 then ((vwriteM t.s x.at' (wideM x) x.v r).2 == (rwriteM t.d x.at' (wideM x) x.v r).2,{ t with s:=(vwriteM t.s x.at' (wideM x) x.v r).1,d:=(rwriteM t.d x.at' (wideM x) x.v r).1 })
 else (true,t)
theorem cut_range {bs:List Int} {k n:Nat} (h:∀ x∈bs,0≤x∧x < 256):∀ x∈cut bs k n,0≤x∧x < 256:=fun x hx=>by
 unfold cut at hx
 exact h x (List.mem_of_mem_drop (List.mem_of_mem_take hx))
theorem does_t (bs bm bd bn:Nat) (t:Sd) (r:Ru) (i:It) {q p:Option Addr} {cq c:Nat} {owned:List Int} (x:Ac) (hi:∀ w S,i.h w S→Sl w p (i64s owned)) (hl:owned.length < 9223372036854775807) (gs:VGood t.s) (gd:RGood t.d) (hI:-9223372036854775808≤x.c.addr∧x.c.addr≤9223372036854775807) :
 Tri P F.zzcP [.agg (sideV bs bm bd bn r q p owned.length cq c).toArray,acV x] (sdL bs bm bd bn t ++ [nums q cq owned,i]) fun v L'=>∃ pp,v = .bool (doesM pp r owned x t).1∧L' = sdL bs bm bd bn (doesM pp r owned x t).2 ++ [nums q cq owned,i]:=by
 intro w S hS
 refine zzkN ?_
 unfold zzcP
 have H:=Own.start hS
 simp only [sdL,List.cons_append,List.nil_append] at H ⊢
 refine alc_o H fun b32 wx H=>alc_o H fun b34 wx H=>?_
 repeat (first | refine lIa H ?_ | refine lLa H ?_ | refine lBa H ?_ | refine lPa H ?_ | refine lSa H ?_)
 refine cnd_i (fun h=>?_) fun h=>cnd_i (fun h2=>?_) fun h2=>cnd_i (fun h3=>?_) fun h3=>cnd_i (fun h4=>?_) fun h4=>?_
 · have h:x.d = 1:=by simpa using h
   repeat (first | refine lIa H ?_ | refine lLa H ?_ | refine lBa H ?_ | refine lPa H ?_ | refine lSa H ?_)
   refine call_oa H (VDo_t bs t.s x.c r (nums q cq owned) nums_sl hl gs.fits (by omega)) fun vx L' wx hq H=>?_
   obtain ⟨pp,q1,c1,rfl,rfl⟩:=hq
   simp only [List.cons_append,List.nil_append] at H
   refine ⟨_,_,_,_,rfl,?_⟩
   have e:doesM pp r owned x t = (decide ((vdoM t.s x.c r owned pp).1 = (vdoR t.d x.c r owned).1) && ((vdoM t.s x.c r owned pp).2.2 == (vdoR t.d x.c r owned).2.2),{ t with s:=(vdoM t.s x.c r owned pp).2.1,d:=(vdoR t.d x.c r owned).2.1 }):=by unfold doesM; rw [if_pos h]
   repeat (first | refine lIa H ?_ | refine lLa H ?_ | refine lBa H ?_ | refine lPa H ?_ | refine lSa H ?_)
   refine call_oa H (VDoR_t bd t.d x.c r i hi hl gd.fits hI) fun vx L' wx hq H=>?_
   obtain ⟨q2,c2,rfl,rfl⟩:=hq
   simp only [List.cons_append,List.nil_append] at H
   refine ⟨_,_,_,_,rfl,join_o ?_⟩
   have hlen:(vdoM t.s x.c r owned pp).1.length < 9223372036854775807:=by have:=vdo_len (c:=x.c) (r:=r) (owned:=owned) (p:=pp) gs; omega
   refine call_oa H (same_t (p:=q1) (q:=q2) (c:=c1) (e:=c2) (ys:=(vdoR t.d x.c r owned).1) hlen) fun vx L' wx hq H=>?_
   obtain ⟨rfl,rfl⟩:=hq
   simp only [List.cons_append,List.nil_append] at H
   refine ⟨_,rfl,?_⟩
   unfold zzhK
   refine cnd_i (fun hb=>?_) fun hb=>?_
   · refine ⟨_,⟨pp,?_,rfl⟩,?_⟩
     · rw [e,hb,Bool.true_and]
     · rw [e]; exact H.dp
   · refine ⟨_,⟨pp,?_,rfl⟩,?_⟩
     · rw [e,hb,Bool.false_and]
     · rw [e]; exact H.dp
 · have h:x.d≠1:=by simpa using h
   have h2:x.d = 2:=by simpa using h2
   repeat (first | refine lIa H ?_ | refine lLa H ?_ | refine lBa H ?_ | refine lPa H ?_ | refine lSa H ?_)
   refine alc_o H fun b93 wx H=>?_
   iterate 4 refine sta H fun wx H=>?_
   refine alc_o H fun b99 wx H=>?_
   repeat (first | refine lIa H ?_ | refine lLa H ?_ | refine lBa H ?_ | refine lPa H ?_ | refine lSa H ?_)
   refine ix_i (i:=0) (by omega) ?_
   simp only [Nat.zero_mul,add_lit,Nat.zero_add]
   iterate 9 refine sta H fun wx H=>?_
   repeat (first | refine lIa H ?_ | refine lLa H ?_ | refine lBa H ?_ | refine lPa H ?_ | refine lSa H ?_)
   refine ix_i (i:=0) (by omega) ?_
   simp only [Nat.zero_mul,add_lit,Nat.zero_add]
   repeat (first | refine lIa H ?_ | refine lLa H ?_ | refine lBa H ?_ | refine lPa H ?_ | refine lSa H ?_)
   refine call_oa H (rPut_t b93 bn ⟨512,2048,0,x.at'⟩ (by show (2048:Int)≤_; omega) t.n x.c hI) fun vx L' wx hq H=>?_
   obtain ⟨rfl,rfl⟩:=hq
   simp only [List.cons_append,List.nil_append] at H
   refine ⟨_,rfl,cnd_i (fun h3=>?_) fun h3=>?_⟩
   · have e:doesM 0 r owned x t = (true,{ t with n:=(putQ ⟨512,2048,0,x.at'⟩ t.n x.c).2.1 }):=by unfold doesM; rw [if_neg h,if_pos h2,if_pos (by simpa using h3)]
     refine ⟨_,⟨0,?_,rfl⟩,?_⟩
     · rw [e]
     · rw [e]; exact H.dp
   · generalize hu:putQ ⟨512,2048,0,x.at'⟩ t.n x.c = U at *
     have e:doesM 0 r owned x t = (putB x.at' t.m (putX x.at' U.2.1),{ t with n:=U.2.1,m:=if putB x.at' t.m (putX x.at' U.2.1) then over t.m (wi (512 + x.at')).toNat (putX x.at' U.2.1) else t.m }):=by unfold doesM; rw [if_neg h,if_pos h2,hu,if_neg (by simpa using h3)]
     repeat (first | refine lIa H ?_ | refine lLa H ?_ | refine lBa H ?_ | refine lPa H ?_ | refine lSa H ?_)
     have hrange:∀ y∈U.2.1,0≤y∧y < 256:=by
      obtain ⟨S1,⟨d1,c1,rest1,hm1,-⟩,-⟩:=H.pick (i:=memI bn U.2.1) (by repeat (first | exact Pick.here | apply Pick.there))
      exact hm1.hr
     have fin:∀ (qq:Option Addr) (cc:Nat) (j:It) (wx:World),(∀ w S,j.h w S→Sl w qq (u8s (putX x.at' U.2.1)))→X.Own w S (j :: row b32 (sideV bs bm bd bn r q p owned.length cq c) T.t40 :: row b34 x.cells T.t68 :: sdL bs bm bd bn { t with n:=U.2.1 } ++ [nums q cq owned,i]) wx →
      ldP ⟨b32,1,none⟩ wx fun p142 =>
       ldI .i64 ⟨b34,1,none⟩ wx fun n143 =>
       CV P F.zzdp [.pointer p142,.agg [.int .i64 (IntKind.i64.wrap (512 + n143)),.int .i64 32].toArray,.slice qq (putX x.at' U.2.1).length cc] wx fun v144 w145 =>
       ∃ n146:Int,v144 = .int .i64 n146∧∃ L',(∃ pp,Value.bool (n146 == 0) = .bool (doesM pp r owned x t).1∧L' = sdL bs bm bd bn (doesM pp r owned x t).2 ++ [nums q cq owned,i])∧X.Own w S L' w145:=by
      intro qq cc j wx hj H
      simp only [sdL,List.cons_append,List.nil_append] at H ⊢
      repeat (first | refine lIa H ?_ | refine lLa H ?_ | refine lBa H ?_ | refine lPa H ?_ | refine lSa H ?_)
      have hr2:∀ y∈putX x.at' U.2.1,0≤y∧y < 256:=by
       unfold putX
       intro y hy
       split at hy
       · exact cut_range hrange y hy
       · cases hy
      refine call_oa H (put_t bm t.m (wi (512 + x.at')) 32 (q:=qq) (c':=cc) j hj hr2) fun vx L' wx hq H=>?_
      obtain ⟨rfl,rfl⟩:=hq
      simp only [List.cons_append,List.nil_append] at H
      refine ⟨_,rfl,_,⟨0,?_,rfl⟩,?_⟩
      · rw [e]
        show Value.bool ((if putB x.at' t.m (putX x.at' U.2.1) = true then (0:Int) else 42) == 0) = .bool (putB x.at' t.m (putX x.at' U.2.1))
        cases putB x.at' t.m (putX x.at' U.2.1) <;> rfl
      · rw [e]; exact H.dp
     refine call_o H (refBytes_t bn U.2.1 (wi (512 + x.at')) 32) (by repeat (first | exact Cut.nil | (apply Cut.cons; (repeat (first | exact Pick.here | apply Pick.there))))) fun vx L' wx hq H=>?_
     cases hh:holdsB U.2.1.length (wi (512 + x.at')) 32 with
     | true =>
      rw [if_pos hh] at hq
      obtain ⟨qq,cc,rfl,rfl⟩:=hq
      simp only [List.cons_append,List.nil_append] at H
      refine ⟨_,_,_,_,rfl,?_⟩
      have ex:putX x.at' U.2.1 = cut U.2.1 (wi (512 + x.at')).toNat 32:=by unfold putX; rw [if_pos hh]
      have hlen:(putX x.at' U.2.1).length = 32:=by
       have:=(H.sl (e:=tByte) (p:=qq) (n:=32) (c:=cc) (xs:=u8s (cut U.2.1 (wi (512 + x.at')).toNat 32)) (by repeat (first | exact Pick.here | apply Pick.there))).2
       rw [ex]; unfold u8s at this; simpa using this
      have:=fin qq cc (own tByte 1 (.slice qq 32 cc) 32 (u8s (putX x.at' U.2.1))) _ own_sl (by rw [ex]; exact H.dp)
      rw [hlen] at this
      exact this
     | false =>
      rw [if_neg (by rw [hh]; simp)] at hq
      obtain ⟨rfl,rfl⟩:=hq
      simp only [List.cons_append,List.nil_append] at H
      refine ⟨_,_,_,_,rfl,?_⟩
      have ex:putX x.at' U.2.1 = []:=by unfold putX; rw [if_neg (by rw [hh]; simp)]
      have:=fin none 0 (own tByte 1 (.slice none 0 0) 0 []) _ (by rw [ex]; exact own_sl) (own_nil (H.dp))
      rw [ex] at this
      exact this
 · have h:x.d≠1:=by simpa using h
   have h2:x.d≠2:=by simpa using h2
   have h3:x.d = 3:=by simpa using h3
   repeat (first | refine lIa H ?_ | refine lLa H ?_ | refine lBa H ?_ | refine lPa H ?_ | refine lSa H ?_)
   refine call_oa H (VStep_t bs bm t.s t.m r (nums q cq owned) nums_sl hl gs.fits (by omega)) fun vx L' wx hq H=>?_
   obtain ⟨pp,q1,c1,rfl,rfl⟩:=hq
   simp only [List.cons_append,List.nil_append] at H
   have e:doesM pp r owned x t = (decide ((vstepM t.s t.m r owned pp).1 = (rstepM t.d t.n r owned).1) && (decide ((vstepM t.s t.m r owned pp).2.1 = (rstepM t.d t.n r owned).2.1) && ((vstepM t.s t.m r owned pp).2.2.2 == (rstepM t.d t.n r owned).2.2.2)),{ t with s:=(vstepM t.s t.m r owned pp).2.2.1,d:=(rstepM t.d t.n r owned).2.2.1 }):=by unfold doesM; rw [if_neg h,if_neg h2,if_pos h3]
   refine ⟨_,_,_,_,_,_,_,_,_,_,_,_,_,rfl,alc_o H fun b171 wx H=>?_⟩
   iterate 9 refine sta H fun wx H=>?_
   repeat (first | refine lIa H ?_ | refine lLa H ?_ | refine lBa H ?_ | refine lPa H ?_ | refine lSa H ?_)
   refine call_oa H (RStep_t bd bn t.d t.n r i hi hl gd.fits gd.sq) fun vx L' wx hq H=>?_
   obtain ⟨q2,c2,rfl,rfl⟩:=hq
   simp only [List.cons_append,List.nil_append] at H
   refine ⟨_,_,_,_,_,_,_,_,_,_,_,_,_,rfl,alc_o H fun b206 wx H=>?_⟩
   iterate 9 refine sta H fun wx H=>?_
   refine join_o ?_
   repeat (first | refine lIa H ?_ | refine lLa H ?_ | refine lBa H ?_ | refine lPa H ?_ | refine lSa H ?_)
   refine cm_eq (c:=(vstepM t.s t.m r owned pp).1) (d:=(rstepM t.d t.n r owned).1) ?_
   unfold zzhL
   refine cnd_i (fun hb=>?_) fun hb=>?_
   · have hlen:(vstepM t.s t.m r owned pp).2.1.length < 9223372036854775807:=by have:=step_len (bs:=t.m) (r:=r) (owned:=owned) (p:=pp) gs; omega
     refine call_oa H (same_t (p:=q1) (q:=q2) (c:=c1) (e:=c2) (ys:=(rstepM t.d t.n r owned).2.1) hlen) fun vx L' wx hq H=>?_
     obtain ⟨rfl,rfl⟩:=hq
     simp only [List.cons_append,List.nil_append] at H
     refine ⟨_,rfl,cnd_i (fun hc=>?_) fun hc=>?_⟩
     · refine ⟨_,⟨pp,?_,rfl⟩,?_⟩
       · rw [e,hb,hc,Bool.true_and,Bool.true_and]
       · rw [e]; exact H.dp
     · refine ⟨_,⟨pp,?_,rfl⟩,?_⟩
       · rw [e,hb,hc,Bool.true_and,Bool.false_and]
       · rw [e]; exact H.dp
   · refine ⟨_,⟨pp,?_,rfl⟩,?_⟩
     · rw [e,hb,Bool.false_and]
     · rw [e]; exact H.dp
 · have h:x.d≠1:=by simpa using h
   have h2:x.d≠2:=by simpa using h2
   have h3:x.d≠3:=by simpa using h3
   have h4:x.d = 4:=by simpa using h4
   have e:doesM 0 r owned x t = ((vwriteM t.s x.at' (wideM x) x.v r).2 == (rwriteM t.d x.at' (wideM x) x.v r).2,{ t with s:=(vwriteM t.s x.at' (wideM x) x.v r).1,d:=(rwriteM t.d x.at' (wideM x) x.v r).1 }):=by unfold doesM; rw [if_neg h,if_neg h2,if_neg h3,if_pos h4]
   refine drw_o H fun wx H=>?_
   repeat (first | refine lIa H ?_ | refine lLa H ?_ | refine lBa H ?_ | refine lPa H ?_ | refine lSa H ?_)
   refine call_pa H (wide_t x) fun wx H=>?_
   refine ⟨_,rfl,?_⟩
   refine ⟨by (repeat (first | refine lIa H ?_ | refine lLa H ?_ | refine lBa H ?_ | refine lPa H ?_ | refine lSa H ?_)); rfl,?_⟩
   refine ⟨by (repeat (first | refine lIa H ?_ | refine lLa H ?_ | refine lBa H ?_ | refine lPa H ?_ | refine lSa H ?_)); rfl,?_⟩
   refine ⟨by (repeat (first | refine lIa H ?_ | refine lLa H ?_ | refine lBa H ?_ | refine lPa H ?_ | refine lSa H ?_)); rfl,?_⟩
   refine ⟨by (repeat (first | refine lIa H ?_ | refine lLa H ?_ | refine lBa H ?_ | refine lPa H ?_ | refine lSa H ?_)); rfl,?_⟩
   refine ⟨by (repeat (first | refine lIa H ?_ | refine lLa H ?_ | refine lBa H ?_ | refine lPa H ?_ | refine lSa H ?_)); rfl,?_⟩
   refine ⟨by (repeat (first | refine lIa H ?_ | refine lLa H ?_ | refine lBa H ?_ | refine lPa H ?_ | refine lSa H ?_)); rfl,?_⟩
   refine ⟨by (repeat (first | refine lIa H ?_ | refine lLa H ?_ | refine lBa H ?_ | refine lPa H ?_ | refine lSa H ?_)); rfl,?_⟩
   refine ⟨by (repeat (first | refine lIa H ?_ | refine lLa H ?_ | refine lBa H ?_ | refine lPa H ?_ | refine lSa H ?_)); rfl,?_⟩
   refine ⟨by (repeat (first | refine lIa H ?_ | refine lLa H ?_ | refine lBa H ?_ | refine lPa H ?_ | refine lSa H ?_)); rfl,?_⟩
   refine call_oa H (VWrite_t bs t.s x.at' (wideM x) x.v r (po:=q) (no:=owned.length) (co:=cq)) fun vx L' wx hq H=>?_
   obtain ⟨rfl,rfl⟩:=hq
   simp only [List.cons_append,List.nil_append] at H
   refine ⟨_,rfl,?_⟩
   refine ⟨by (repeat (first | refine lIa H ?_ | refine lLa H ?_ | refine lBa H ?_ | refine lPa H ?_ | refine lSa H ?_)); rfl,?_⟩
   refine ⟨by (repeat (first | refine lIa H ?_ | refine lLa H ?_ | refine lBa H ?_ | refine lPa H ?_ | refine lSa H ?_)); rfl,?_⟩
   refine ⟨by (repeat (first | refine lIa H ?_ | refine lLa H ?_ | refine lBa H ?_ | refine lPa H ?_ | refine lSa H ?_)); rfl,?_⟩
   refine ⟨by (repeat (first | refine lIa H ?_ | refine lLa H ?_ | refine lBa H ?_ | refine lPa H ?_ | refine lSa H ?_)); rfl,?_⟩
   refine ⟨by (repeat (first | refine lIa H ?_ | refine lLa H ?_ | refine lBa H ?_ | refine lPa H ?_ | refine lSa H ?_)); rfl,?_⟩
   refine call_pa H (wide_t x) fun wx H=>?_
   refine ⟨_,rfl,?_⟩
   refine ⟨by (repeat (first | refine lIa H ?_ | refine lLa H ?_ | refine lBa H ?_ | refine lPa H ?_ | refine lSa H ?_)); rfl,?_⟩
   refine ⟨by (repeat (first | refine lIa H ?_ | refine lLa H ?_ | refine lBa H ?_ | refine lPa H ?_ | refine lSa H ?_)); rfl,?_⟩
   refine ⟨by (repeat (first | refine lIa H ?_ | refine lLa H ?_ | refine lBa H ?_ | refine lPa H ?_ | refine lSa H ?_)); rfl,?_⟩
   refine ⟨by (repeat (first | refine lIa H ?_ | refine lLa H ?_ | refine lBa H ?_ | refine lPa H ?_ | refine lSa H ?_)); rfl,?_⟩
   refine call_oa H (RWrite_t bd t.d x.at' (wideM x) x.v r (po:=p) (no:=owned.length) (co:=c) gd.sq) fun vx L' wx hq H=>?_
   obtain ⟨rfl,rfl⟩:=hq
   simp only [List.cons_append,List.nil_append] at H
   refine ⟨_,rfl,_,⟨0,?_,rfl⟩,?_⟩
   · rw [e]
   · rw [e]; exact H.dp
 · have h:x.d≠1:=by simpa using h
   have h2:x.d≠2:=by simpa using h2
   have h3:x.d≠3:=by simpa using h3
   have h4:x.d≠4:=by simpa using h4
   have e:doesM 0 r owned x t = (true,t):=by unfold doesM; rw [if_neg h,if_neg h2,if_neg h3,if_neg h4]
   refine ⟨_,⟨0,?_,rfl⟩,?_⟩
   · rw [e]
   · rw [e]; exact H.dp
theorem VNum.step {r:Ru} {s:Vi} {bs:List Int} {owned:List Int} {p:Nat} (hv:0 < r.vcpus) (n:VNum r s) (g:VGood s):VNum r (vstepM s bs r owned p).2.2.1:=by
 have hs:=stp s bs r owned p
 have hn:=NT.vdo (c:=(headQ s.q bs).1) (owned:=owned) (p:=p) hv n g
 generalize vstepM s bs r owned p = M at *
 cases hs with
 | off=>exact n
 | st=>exact n
 | fit=>exact n.like rfl rfl
 | empty=>exact n
 | head=>exact n.like rfl rfl
 | err=>exact n.like rfl rfl
 | ok=>exact hn.1.like rfl rfl
theorem VNum.write {r:Ru} {s:Vi} {off width v:Int} (n:VNum r s):VNum r (vwriteM s off width v r).1:=by
 unfold vwriteM
 generalize itsM off width = I
 refine ite_p (fun A:Vi×Int=>VNum r A.1) (fun _=>n) fun _=>?_
 refine ite_p (fun A:Vi×Int=>VNum r A.1) (fun _=>n.like rfl rfl) fun _=>?_
 refine ite_p (fun A:Vi×Int=>VNum r A.1) (fun _=>?_) fun _=>?_
 · show VNum r (if s.on then s else rebM s v r)
   cases s.on
   · exact n.like (reb_same s v r).1 (reb_same s v r).2
   · exact n
 refine ite_p (fun A:Vi×Int=>VNum r A.1) (fun _=>?_) fun _=>n
 show VNum r (stop1 v (if s.fit then { s with q:=(setQ s.q (wi (bitX .and .u64 v 1048544))).1 } else s))
 cases s.fit
 · exact n.like rfl rfl
 · exact n.like rfl rfl
structure SdOk (r:Ru) (t:Sd):Prop where
 vg:VGood t.s
 rg:RGood t.d
 vq:VQ t.s
 vn:VNum r t.s
abbrev I64 (n:Int):Prop:=-9223372036854775808≤n∧n≤9223372036854775807
def Cm.Fit (c:Cm):Prop:=I64 c.op∧I64 c.dev∧I64 c.ev∧I64 c.num∧I64 c.coll∧I64 c.tgt∧I64 c.bits∧I64 c.addr
def Ac.Fit (x:Ac):Prop:=I64 x.d∧I64 x.at'∧x.c.Fit∧0≤x.v∧x.v < 18446744073709551616
theorem SdOk.does {r:Ru} {t:Sd} {owned:List Int} {x:Ac} {p:Nat} (h:SdOk r t) (hv:0 < r.vcpus) (hx:x.Fit):SdOk r (doesM p r owned x t).2:=by
 obtain ⟨g1,g2,g3,g4⟩:=h
 obtain ⟨-,-,⟨-,-,-,-,-,-,-,hI⟩,v0,v1⟩:=hx
 unfold doesM
 refine ite_p (fun A:Bool×Sd=>SdOk r A.2) (fun _=>⟨g1.vdo,g2.vdo hI,g3.hd (vdo_hd _ _ _ _ _),(NT.vdo hv g4 g1).1⟩) fun _=>?_
 refine ite_p (fun A:Bool×Sd=>SdOk r A.2) (fun _=>?_) fun _=>?_
 · exact ite_p (fun A:Bool×Sd=>SdOk r A.2) (fun _=>⟨g1,g2,g3,g4⟩) fun _=>⟨g1,g2,g3,g4⟩
 refine ite_p (fun A:Bool×Sd=>SdOk r A.2) (fun _=>⟨g1.step,g2.step,g3.step,g4.step hv g1⟩) fun _=>?_
 exact ite_p (fun A:Bool×Sd=>SdOk r A.2) (fun _=>⟨g1.write,g2.write,g3.write v0 v1,g4.write⟩) fun _=>⟨g1,g2,g3,g4⟩
def sd0:Sd:=⟨vi0,List.replicate 4096 0,rv0,List.replicate 4096 0⟩
theorem sdok0 (r:Ru):SdOk r sd0:=⟨vgood0,rgood0,vq0,vnum0 r⟩
theorem ruA_vcpus {a b:Int} (ha:0≤a∧a≤255) (hb:0≤b∧b≤255):(ruA a b).vcpus = 1 + a % 4∧(ruA a b).lpis = b % 50:=by
 unfold ruA
 have h1:Int.tmod a 4 = a % 4:=Int.tmod_eq_emod_of_nonneg ha.1
 have h2:Int.tmod b 50 = b % 50:=Int.tmod_eq_emod_of_nonneg hb.1
 dsimp only
 rw [h1,h2]
 constructor
 · rw [W_id (n:=a % 4) (by omega) (by omega)]; exact W_id (by omega) (by omega)
 · exact W_id (by omega) (by omega)
theorem sh_cm {w:World} (f:Nat) (cs:List Value) (h:Sh P w 0 f 26 cs):∃ x:Cm,cs = x.cells∧x.Fit:=by
 cases f with
 | zero=>exact h.elim
 | succ f =>
  unfold Sh at h
  rw [Tryz.underlying26] at h
  obtain ⟨hl,h⟩:=h
  have hc:P.cellsOf 26 = 9:=by kernel_rfl
  have hc3:P.cellsOf 3 = 1:=by kernel_rfl
  have hc4:P.cellsOf 4 = 1:=by kernel_rfl
  have hc24:P.cellsOf 24 = 1:=by kernel_rfl
  rw [hc] at hl
  match cs,hl with
  | [y0,y1,y2,y3,y4,y5,y6,y7,y8],_ =>
   obtain ⟨a0,h0,g0⟩:=sh_num Tryz.underlying24 _ _ (h 0 _ rfl)
   obtain ⟨a1,h1,g1⟩:=sh_num Tryz.underlying3 _ _ (h 1 _ rfl)
   obtain ⟨a2,h2,g2⟩:=sh_num Tryz.underlying3 _ _ (h 2 _ rfl)
   obtain ⟨a3,h3,g3⟩:=sh_num Tryz.underlying3 _ _ (h 3 _ rfl)
   obtain ⟨a4,h4,g4⟩:=sh_num Tryz.underlying3 _ _ (h 4 _ rfl)
   obtain ⟨a5,h5,g5⟩:=sh_num Tryz.underlying3 _ _ (h 5 _ rfl)
   obtain ⟨a6,h6,g6⟩:=sh_num Tryz.underlying3 _ _ (h 6 _ rfl)
   obtain ⟨a7,h7,g7⟩:=sh_num Tryz.underlying3 _ _ (h 7 _ rfl)
   obtain ⟨a8,h8,_⟩:=sh_bool Tryz.underlying4 _ _ (h 8 _ rfl)
   simp [hc3,hc4,hc24] at h0 h1 h2 h3 h4 h5 h6 h7 h8
   exact ⟨⟨a0,a1,a2,a3,a4,a5,a6,a7,a8⟩,by rw [h0,h1,h2,h3,h4,h5,h6,h7,h8]; rfl,wf_i64 g0,wf_i64 g1,wf_i64 g2,wf_i64 g3,wf_i64 g4,wf_i64 g5,wf_i64 g6,wf_i64 g7⟩
theorem wf_u64 {x:Int} (h:(Lit.int .u64 x).wf = true):0≤x∧x < 18446744073709551616:=by
 simp [Lit.wf,IntKind.min,IntKind.max,IntKind.signed,IntKind.bits] at h; omega
theorem sh_ac {w:World} (f:Nat) (cs:List Value) (h:Sh P w 0 f 68 cs):∃ x:Ac,cs = x.cells∧x.Fit:=by
 cases f with
 | zero=>exact h.elim
 | succ f =>
  unfold Sh at h
  rw [Tryz.underlying68] at h
  obtain ⟨hl,h⟩:=h
  have hc:P.cellsOf 68 = 13:=by kernel_rfl
  have hc3:P.cellsOf 3 = 1:=by kernel_rfl
  have hc4:P.cellsOf 4 = 1:=by kernel_rfl
  have hc26:P.cellsOf 26 = 9:=by kernel_rfl
  have hc61:P.cellsOf 61 = 1:=by kernel_rfl
  rw [hc] at hl
  match cs,hl with
  | [y0,y1,y2,y3,y4,y5,y6,y7,y8,y9,y10,y11,y12],_ =>
   obtain ⟨a0,h0,g0⟩:=sh_num Tryz.underlying3 _ _ (h 0 _ rfl)
   obtain ⟨a1,h1,g1⟩:=sh_num Tryz.underlying3 _ _ (h 1 _ rfl)
   obtain ⟨c,h2,g2⟩:=sh_cm _ _ (h 2 _ rfl)
   obtain ⟨a3,h3,_⟩:=sh_bool Tryz.underlying4 _ _ (h 3 _ rfl)
   obtain ⟨a4,h4,g4⟩:=sh_num Tryz.underlying61 _ _ (h 4 _ rfl)
   have e2:[y2,y3,y4,y5,y6,y7,y8,y9,y10] = c.cells:=by rw [← h2]; simp [hc26]
   simp [hc3,hc4,hc61] at h0 h1 h3 h4
   refine ⟨⟨a0,a1,c,a3,a4⟩,?_,wf_i64 g0,wf_i64 g1,g2,wf_u64 g4⟩
   show _ = .int .i64 a0 :: .int .i64 a1 :: (c.cells ++ [.bool a3,.int .u64 a4])
   rw [← e2,h0,h1,h3,h4]; rfl
theorem sh_acts {w:World} {fuel:Nat} {v:Value} (h:Sh P w 0 fuel 23 [v]) :
 ∃ q c,∃ xs:List Ac,v = .slice q xs.length c∧xs.length≤9223372036854775807∧(∀ x∈xs,x.Fit)∧Slots w q 13 (xs.map Ac.cells) :=
 sh_slice Tryz.underlying23 (by kernel_rfl) sh_ac h
theorem sh_ints {w:World} {fuel:Nat} {v:Value} (h:Sh P w 0 fuel 22 [v]):∃ q c,∃ xs:List Int,v = .slice q xs.length c∧Sl w q (i64s xs)∧xs.length * 8≤140737488355328:=by
 have hb:P.bytesOf 3 = 8:=by kernel_rfl
 have hcap:∀ q n c,v = .slice q n c→n * 8≤140737488355328:=by
  intro q n c hv
  cases fuel with
  | zero=>exact h.elim
  | succ f =>
   unfold Sh at h
   rw [Tryz.underlying22] at h
   rcases h with h | ⟨a,len,cap,h1,h2,h3,h4,_⟩
   · simp only [List.cons.injEq,and_true] at h
     rw [h] at hv; cases hv; omega
   · simp only [List.cons.injEq,and_true] at h1
     rw [h1] at hv; cases hv
     rw [hb] at h4
     have h4:=Nat.le_trans h4 (show reachBytes≤140737488355328 by decide)
     exact h4
 obtain ⟨q,c,xs,e,_,_,h3⟩:=sh_slice (mk:=fun x:Int=>[Value.int .i64 x]) (Good:=fun _=>True) Tryz.underlying22 (by kernel_rfl) (fun f cs h=>by
  obtain ⟨x,hx,_⟩:=sh_num Tryz.underlying3 f cs h
  exact ⟨x,hx,trivial⟩) h
 refine ⟨q,c,xs,e,Slots.sl ?_,hcap _ _ _ e⟩
 unfold i64s
 rw [List.map_map]; exact h3
theorem act_at {w:World} {q:Option Addr} {xs:List Ac} (h:Slots w q 13 (xs.map Ac.cells)) {k:Nat} {x:Ac} (hk:xs[k]? = some x) :
 ∃ a,q = some a∧w.cell? (a.add (k * 13)) = some (.int .i64 x.d)∧w.cell? ((a.add (k * 13)).add 1) = some (.int .i64 x.at') ∧
  w.cell? ((a.add (k * 13)).add 2) = some (.int .i64 x.c.op)∧w.cell? ((a.add (k * 13)).add 3) = some (.int .i64 x.c.dev)∧w.cell? ((a.add (k * 13)).add 4) = some (.int .i64 x.c.ev)∧w.cell? ((a.add (k * 13)).add 5) = some (.int .i64 x.c.num) ∧
  w.cell? ((a.add (k * 13)).add 6) = some (.int .i64 x.c.coll)∧w.cell? ((a.add (k * 13)).add 7) = some (.int .i64 x.c.tgt)∧w.cell? ((a.add (k * 13)).add 8) = some (.int .i64 x.c.bits)∧w.cell? ((a.add (k * 13)).add 9) = some (.int .i64 x.c.addr) ∧
  w.cell? ((a.add (k * 13)).add 10) = some (.bool x.c.val)∧w.cell? ((a.add (k * 13)).add 11) = some (.bool x.is)∧w.cell? ((a.add (k * 13)).add 12) = some (.int .u64 x.v):=by
 obtain ⟨a,ha,e0,e⟩:=slot_cells h hk
 exact ⟨a,ha,e0 _ rfl,e 1 _ rfl,e 2 _ rfl,e 3 _ rfl,e 4 _ rfl,e 5 _ rfl,e 6 _ rfl,e 7 _ rfl,e 8 _ rfl,e 9 _ rfl,e 10 _ rfl,e 11 _ rfl,e 12 _ rfl⟩
theorem played_t {W:World} {a b:Int} (ha:0≤a∧a≤255) (hb:0≤b∧b≤255) {p:Option Addr} {c:Nat} {owned:List Int} (ho:Sl W p (i64s owned)) (hl:owned.length * 8≤140737488355328)
 {q2:Option Addr} {c2:Nat} {ys:List Ac} (hq2:Slots W q2 13 (ys.map Ac.cells)) (hy:∀ y∈ys,y.Fit) (hl2:ys.length≤9223372036854775807) :
 Tri P F.zzcd [.int .u8 a,.int .u8 b,.slice p owned.length c,.slice q2 ys.length c2] [keep W] fun v L'=>∃ bs bm bd bn q cq,∃ t:Sd,SdOk (ruA a b) t∧v = .tuple [.agg (sideV bs bm bd bn (ruA a b) q p owned.length cq c).toArray,.bool true].toArray ∧
  L' = sdL bs bm bd bn t ++ [nums q cq owned,keep W]:=by
 intro w Sp hS
 refine zzjG ?_
 unfold zzcd
 have H:=Own.start hS
 have hr:=ruA_vcpus ha hb
 have hvp:0 < (ruA a b).vcpus:=by omega
 refine alc_o H fun b9 wx H=>?_
 refine call_oa H (begun_t a b (keep W) (p:=p) (c:=c) (keep_sl ho) hl) fun vx L' wx hq H=>?_
 obtain ⟨bs,bm,bd,bn,q,cq,rfl,rfl⟩:=hq
 simp only [List.cons_append,List.nil_append] at H
 refine ⟨_,_,_,_,_,_,_,_,_,_,_,_,_,_,_,_,_,_,_,rfl,alc_o H fun b32 wx H=>?_⟩
 iterate 14 refine sta H fun wx H=>?_
 simp only [List.set_cons_zero,List.set_cons_succ] at H
 refine loop_o (fun (st:Int) L=>∃ (i:Nat) (t:Sd),i≤ys.length∧st = i∧SdOk (ruA a b) t∧L = row b32 (sideV bs bm bd bn (ruA a b) q p owned.length cq c) T.t40 :: (sdL bs bm bd bn t ++ [nums q cq owned,keep W,row b9 [.pointer none,.pointer none,.int .i64 0,.int .i64 0,.int .i64 0,.int .i64 0,.slice none 0 0,.pointer none,.pointer none,.int .i64 0,.int .i64 0,.int .i64 0,.int .i64 0,.slice none 0 0] T.t40])) (fun (st:Int)=>((ys.length:Int) - st).toNat) (H.dp)
  ⟨0,sd0,by omega,rfl,sdok0 _,rfl⟩ ?_
 rintro _ _ wx ⟨i,t,hi,rfl,hok,rfl⟩ H
 simp only [sdL,List.cons_append,List.nil_append] at H
 unfold zzg5
 refine join_o (cnd_i (fun _=>?_) (fun h=>by cases h))
 unfold zzg4
 refine cnd_i (fun hcc=>?_) fun hcc=>?_
 · have hcc:=of_decide_eq_true hcc
   have hil:i < ys.length:=by omega
   have hk:ys[i]? = some ys[i]:=List.getElem?_eq_getElem hil
   refine drw_o H fun wx H=>?_
   repeat (first | refine lIa H ?_ | refine lLa H ?_ | refine lBa H ?_ | refine lPa H ?_ | refine lSa H ?_)
   refine ix_i hil ?_
   obtain ⟨a1,rfl,e0,e1,e2,e3,e4,e5,e6,e7,e8,e9,e10,e11,e12⟩:=act_at (Own.rdS H (i:=keep W) (by repeat (first | exact Pick.here | apply Pick.there)) (keep_slots hq2)) hk
   refine ⟨_,e0,_,e1,_,e2,_,e3,_,e4,_,e5,_,e6,_,e7,_,e8,_,e9,_,e10,_,e11,_,e12,?_⟩
   have hfit:=hy _ (List.getElem_mem hil)
   have hlo:owned.length < 9223372036854775807:=by omega
   refine call_oa H (does_t bs bm bd bn t (ruA a b) (keep W) (q:=q) (p:=p) (cq:=cq) (c:=c) (owned:=owned) ys[i] (keep_sl ho) hlo hok.vg hok.rg hfit.2.2.1.2.2.2.2.2.2.2) fun vx L' wx hq H=>?_
   obtain ⟨pp,rfl,rfl⟩:=hq
   simp only [sdL,List.cons_append,List.nil_append] at H
   rw [W_id (by omega) (by omega)]
   exact ⟨_,rfl,⟨_,⟨i + 1,_,by omega,by push_cast; rfl,hok.does (p:=pp) (owned:=owned) hvp hfit,rfl⟩,H.dp⟩,by omega⟩
 · repeat (first | refine lIa H ?_ | refine lLa H ?_ | refine lBa H ?_ | refine lPa H ?_ | refine lSa H ?_)
   iterate 14 refine sta H fun wx H=>?_
   simp only [List.set_cons_zero,List.set_cons_succ] at H
   repeat (first | refine lIa H ?_ | refine lLa H ?_ | refine lBa H ?_ | refine lPa H ?_ | refine lSa H ?_)
   exact ⟨_,⟨bs,bm,bd,bn,q,cq,t,hok,rfl,rfl⟩,H.dp⟩
end Go.Proofs.YtidcijbnbdemeaaGreat
