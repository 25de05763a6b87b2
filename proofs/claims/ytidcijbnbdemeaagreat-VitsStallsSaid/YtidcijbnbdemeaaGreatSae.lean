/-
  The walks and the laws beneath the statement: part 5.
-/
import Derived.Test.YtidcijbnbdemeaaGreatSad
import Derived.Laws.StructEq
import Derived.ChangeKeysEq
set_option maxRecDepth 100000
set_option linter.unusedVariables false
set_option linter.unusedSimpArgs false
set_option maxHeartbeats 4000000
namespace Go.Proofs.YtidcijbnbdemeaaGreat
open Go Go.RowKit X
structure RtE where
 num:Int
 coll:Int
 val:Bool
deriving DecidableEq
noncomputable abbrev ER:El P where
 α:=RtE
 enc:=fun x=>[.int .i64 x.num,.int .i64 x.coll,.bool x.val]
 z:=3
 ta:=tRoutes
 te:=tRoute
 bytes:=24
 zs:=[.int .i64 0,.int .i64 0,.bool false]
 hT:=appRts
 hZ:=zeroRt
 hz1:=by simp [Value.oneCell']
 hlen:=fun _=>rfl
 h1:=by intro x u hu; simp only [List.mem_cons,List.not_mem_nil,or_false] at hu; rcases hu with rfl | rfl | rfl <;> rfl
 hz:=by omega
 hb:=by omega
def rt0:RtE:=⟨0,0,false⟩
theorem ov_r:ovB P F.zzc7:=by
 refine ⟨_,Tryz.func146,⟨by kernel_rfl,by kernel_rfl⟩,by kernel_rfl,Extern.SlicesOverlaps.overlaps #[ER.ta,ER.ta] #[T.t4],by kernel_rfl,?_⟩
 intro w vb o d o' la ca lb cb cur cv tA tB hne hrd hrv hcur
 obtain ⟨hu,i,z,hi,hz,h3,h4,h5⟩:=appB_out (El.hT ER)
 have hrd':=hrd
 have hrv':=hrv
 unfold Row at hrd' hrv'
 exact Lib.run_overlaps_apart (P:=P) w ER.ta T.t4 ER.te hu 3 (fun w=>by simp only [sizeOf,typeInfo,hi,h3]; rfl) ⟨vb,o,none⟩ ⟨d,o',none⟩ la ca lb cb (fun e=>hne e.symm) tB tA cv.length cur.length
  (by simp [World.shape?,hrv']) (by simp [World.shape?,hrd']) (by intro e; exact hcur (List.length_eq_zero_iff.1 e)) (hrv.frozen o) (hrv.frozen cv.length)
theorem insert_r {p:Option Addr} {c:Nat} {xs:List RtE} {i vb:Nat} {x:RtE} {tv:TypeId} (hi:i≤xs.length) (hl:xs.length < NB) :
 Tri P F.zzaf [.slice p xs.length c,.int .i64 (i:Int),.slice (some ⟨vb,0,none⟩) 1 1] [els ER p c xs,row vb (ER.enc x) tv] fun v L'=>∃ p' c',v = .slice p' (ins xs i x).length c'∧L' = [els ER p' c' (ins xs i x)]:=by
 intro w S hS
 refine zzfk ?_
 unfold NB at hl
 rw [show ∀ Q,zzaf p xs.length c (i:Int) (some ⟨vb,0,none⟩) 1 1 w Q = insertG ER T.t3 F.zzc7 F.zzcx p xs.length c (i:Int) (some ⟨vb,0,none⟩) 1 1 w Q from fun _=>rfl]
 exact insertG_o (E:=ER) (ti:=T.t3) ov_r (by kernel_rfl) hi (by show (xs.length + 1) * 24≤_; omega) (by unfold maxLen; omega) (Own.start hS) fun p' c' w' H=>⟨_,⟨p',c',rfl,rfl⟩,H⟩
theorem delete_r {p:Option Addr} {c:Nat} {xs:List RtE} {i:Nat} (hi:i < xs.length):Tri P F.zzan [.slice p xs.length c,.int .i64 (i:Int),.int .i64 (i + 1:Int)] [els ER p c xs] fun v L'=>∃ c',v = .slice p (xs.eraseIdx i).length c'∧L' = [els ER p c' (xs.eraseIdx i)]:=by
 intro w S hS
 refine zzfl ?_
 rw [show ∀ Q,zzan p xs.length c (i:Int) (i + 1:Int) w Q = deleteG ER T.t0 p xs.length c (i:Int) (i + 1:Int) w Q from fun _=>rfl]
 exact deleteG_o (E:=ER) (t0:=T.t0) hi (Own.start hS) fun c' w' H=>⟨_,⟨c',rfl,rfl⟩,H⟩
theorem clone_r (i:It) {p:Option Addr} {c:Nat} {xs:List RtE} (hi:∀ w S,i.h w S→Sl w p (ER.flat xs)) (hl:xs.length < NB) :
 Tri P F.zzao [.slice p xs.length c] [i] fun v L'=>∃ p' c',v = .slice p' xs.length c'∧L' = [els ER p' c' xs,i]:=by
 intro w S hS
 refine zzfG ?_
 unfold NB at hl
 rw [show ∀ Q,zzao p xs.length c w Q = cloneG ER p xs.length c w Q from fun _=>rfl]
 exact cloneG_o (E:=ER) (Own.start hS) .here hi (by show xs.length * 24≤_; omega) (by unfold maxLen; omega) fun p' c' w' H=>⟨_,⟨p',c',rfl,rfl⟩,H⟩
theorem new_r:Tri P F.zza4 [] [] fun v L'=>∃ b,v = bptr b∧L' = [bookG ER tBookR b []]:=by
 intro w S hS
 refine zzip ?_
 unfold zza4
 have H:=Own.start hS
 refine alc_o H fun b1 wx H=>?_
 exact ⟨_,⟨b1,rfl,rfl⟩,zzlJ H⟩
theorem has_r (b:Nat) (kv:List (Int×RtE)) (k:Int):Tri P F.zzaB [bptr b,.int .i64 k] [bookG ER tBookR b kv] fun v L'=>v = .bool (hasK kv k)∧L' = [bookG ER tBookR b kv]:=by
 intro w S hS
 refine zzg0 ?_
 unfold zzaB
 have H:=Own.start hS
 obtain ⟨p,c,q,c2,h1,h2,H⟩:=zzbT H .here
 dsimp only [nn]
 repeat (first | refine lIa H ?_ | refine lLa H ?_ | refine lBa H ?_ | refine lPa H ?_ | refine lSa H ?_)
 refine call_pa H (search_t (nums p c (ks kv)) nums_sl h1 (by rw [ks_len]; unfold NB at h2; omega) k) fun wx H=>?_
 exact ⟨_,_,rfl,_,⟨rfl,rfl⟩,zzaG H h1 h2⟩
theorem get_r (b:Nat) (kv:List (Int×RtE)) (k:Int):Tri P F.zzag [bptr b,.int .i64 k] [bookG ER tBookR b kv] fun v L'=>v = .tuple [.agg ([.int .i64 (getK rt0 kv k).num,.int .i64 (getK rt0 kv k).coll,.bool (getK rt0 kv k).val]:List Value).toArray,.bool (hasK kv k)].toArray∧L' = [bookG ER tBookR b kv]:=by
 intro w S hS
 refine zzgX ?_
 unfold zzag
 have H:=Own.start hS
 refine alc_o H fun b3 wx H=>alc_o H fun b5 wx H=>?_
 obtain ⟨p,c,q,c2,h1,h2,H⟩:=zzbT H (by repeat (first | exact Pick.here | apply Pick.there))
 dsimp only [nn]
 repeat (first | refine lIa H ?_ | refine lLa H ?_ | refine lBa H ?_ | refine lPa H ?_ | refine lSa H ?_)
 refine call_pa H (search_t (nums p c (ks kv)) nums_sl h1 (by rw [ks_len]; unfold NB at h2; omega) k) fun wx H=>?_
 refine ⟨_,_,rfl,cnd_i (fun h=>?_) fun h=>?_⟩
 · have h:hasK kv k = false:=by rw [Bool.not_eq_true'] at h; exact h
   have eg:getK rt0 kv k = rt0:=by unfold getK; rw [h]; rfl
   repeat (first | refine lIa H ?_ | refine lLa H ?_ | refine lBa H ?_ | refine lPa H ?_ | refine lSa H ?_)
   iterate 3 refine sta H fun wx H=>?_
   repeat (first | refine lIa H ?_ | refine lLa H ?_ | refine lBa H ?_ | refine lPa H ?_ | refine lSa H ?_)
   have H:=H.drop (L1:=[row b [.slice p (ks kv).length c,.slice q (vs kv).length c2] tBookR,nums p c (ks kv),els ER q c2 (vs kv)]) (by repeat (first | exact Cut.nil | (apply Cut.cons; (repeat (first | exact Pick.here | apply Pick.there)))))
   exact ⟨_,⟨by rw [eg,h]; rfl,rfl⟩,zzaG H h1 h2⟩
 · have h:hasK kv k = true:=by rw [Bool.not_eq_false'] at h; exact h
   have hlt:=at_lt h
   have hv:=vs_at (d:=rt0) h
   repeat (first | refine lIa H ?_ | refine lLa H ?_ | refine lBa H ?_ | refine lPa H ?_ | refine lSa H ?_)
   refine ⟨⟨by omega,by rw [vs_len]; show ((at' kv k:Nat):Int) < _; exact_mod_cast hlt⟩,?_⟩
   rw [Int.toNat_natCast]
   obtain ⟨d,rfl,hc⟩:=els_at (q:=q) (c:=c2) H (by repeat (first | exact Pick.here | apply Pick.there)) hv
   dsimp only [nn]
   have hc2:∀ i v,(ER.enc (getK rt0 kv k))[i]? = some v→wx.cell? (((⟨d,0,none⟩:Addr).add (at' kv k * 3)).add i) = some v:=by
    intro i v hv
    rw [add_lit,add_lit,Nat.zero_add]; exact hc i v hv
   have hc0:∀ v,(ER.enc (getK rt0 kv k))[0]? = some v→wx.cell? ((⟨d,0,none⟩:Addr).add (at' kv k * 3)) = some v:=by
    intro v hv
    rw [add_lit,Nat.zero_add]; exact hc 0 v hv
   refine ⟨_,hc0 _ rfl,?_⟩
   refine ⟨_,hc2 1 _ rfl,?_⟩
   refine ⟨_,hc2 2 _ rfl,?_⟩
   iterate 3 refine sta H fun wx H=>?_
   repeat (first | refine lIa H ?_ | refine lLa H ?_ | refine lBa H ?_ | refine lPa H ?_ | refine lSa H ?_)
   have H:=H.drop (L1:=[row b [.slice p (ks kv).length c,.slice (some ⟨d,0,none⟩) (vs kv).length c2] tBookR,nums p c (ks kv),els ER (some ⟨d,0,none⟩) c2 (vs kv)]) (by repeat (first | exact Cut.nil | (apply Cut.cons; (repeat (first | exact Pick.here | apply Pick.there)))))
   exact ⟨_,⟨by rw [h],rfl⟩,zzaG H h1 h2⟩
theorem put_r (b:Nat) (kv:List (Int×RtE)) (k:Int) (v:RtE) (hlen:kv.length + 1 < NB):Tri P F.zzar [bptr b,.int .i64 k,.agg ([.int .i64 (v).num,.int .i64 (v).coll,.bool (v).val]:List Value).toArray] [bookG ER tBookR b kv] fun r L'=>r = .bool (!hasK kv k)∧L' = [bookG ER tBookR b (putK kv k v)]:=by
 intro w S hS
 refine zzg1 ?_
 unfold zzar
 have H:=Own.start hS
 refine alc_o H fun b5 wx H=>?_
 obtain ⟨p,c,q,c2,h1,h2,H⟩:=zzbT H (by repeat (first | exact Pick.here | apply Pick.there))
 dsimp only [nn]
 repeat (first | refine lIa H ?_ | refine lLa H ?_ | refine lBa H ?_ | refine lPa H ?_ | refine lSa H ?_)
 refine call_pa H (search_t (nums p c (ks kv)) nums_sl h1 (by rw [ks_len]; unfold NB at h2; omega) k) fun wx H=>?_
 have hile:at' kv k≤kv.length:=by have:=lb_le (k:=k) (ks kv); rw [ks_len] at this; exact this
 refine ⟨_,_,rfl,cnd_i (fun h=>?_) fun h=>join_o ?_⟩
 · have h:hasK kv k = true:=h
   obtain ⟨e1,e2⟩:=putK_old (v:=v) h
   have hlt:=at_lt h
   refine drw_o H fun wx H=>?_
   repeat (first | refine lIa H ?_ | refine lLa H ?_ | refine lBa H ?_ | refine lPa H ?_ | refine lSa H ?_)
   refine ⟨⟨by omega,by rw [vs_len]; show ((at' kv k:Nat):Int) < _; exact_mod_cast hlt⟩,?_⟩
   rw [Int.toNat_natCast,show lb (ks kv) k = at' kv k from rfl]
   have hlv:at' kv k < (vs kv).length:=by rw [vs_len]; exact hlt
   have H:=H.perm (L1:=[els ER q c2 (vs kv)]) (by repeat (first | exact Cut.nil | (apply Cut.cons; (repeat (first | exact Pick.here | apply Pick.there)))))
   simp only [List.cons_append,List.nil_append] at H
   obtain ⟨d,rest,rfl,hlen2,hle,hmx,H⟩:=els_open H .here (by intro e; rw [e] at hlv; simp at hlv)
   dsimp only [nn]
   show st1 _ _ _ _
   have hfit:at' kv k * 3 + 2 < (ER.flat (vs kv) ++ rest).length:=by
    rw [List.length_append,El.flat_len]
    have:(at' kv k + 1) * 3≤(vs kv).length * 3:=Nat.mul_le_mul_right _ hlv
    show _ < (vs kv).length * 3 + _
    omega
   rw [add_lit,Nat.zero_add]
   refine st1_o H .here (by show at' kv k * 3 < _; omega) fun wx H=>?_
   rw [add_lit]
   refine st1_o H .here (by simp only [List.length_set]; omega) fun wx H=>?_
   rw [add_lit]
   refine st1_o H .here (by simp only [List.length_set]; omega) fun wx H=>?_
   rw [splice3 (L:=ER.flat (vs kv) ++ rest) (i:=at' kv k * 3) (by omega)] at H
   have H:=els_put (E:=ER) (xs:=vs kv) (j:=at' kv k) (y:=v) H hlen2 hle hmx hlv
   rw [h]
   refine ⟨_,⟨rfl,rfl⟩,?_⟩
   have hl:(putK kv k v).length = kv.length:=by unfold putK; rw [h,if_pos rfl,List.length_set]
   have H:=H.drop (L1:=[row b [.slice p (ks kv).length c,.slice (some ⟨d,0,none⟩) (vs kv).length c2] tBookR,nums p c (ks kv),els ER (some ⟨d,0,none⟩) c2 ((vs kv).set (at' kv k) v)]) (by repeat (first | exact Cut.nil | (apply Cut.cons; (repeat (first | exact Pick.here | apply Pick.there)))))
   refine zzaG (p:=p) (c:=c) (q:=some ⟨d,0,none⟩) (c2:=c2) ?_ (by rw [e1]; exact h1) (by omega)
   rw [e1,e2]
   rw [List.length_set]
   exact H
 · have h:hasK kv k = false:=h
   obtain ⟨e1,e2⟩:=putK_new (v:=v) h
   have hn:(ks kv)[lb (ks kv) k]?≠some k:=of_decide_eq_false h
   have hl:(putK kv k v).length = kv.length + 1:=by
    rw [← ks_len,e1,ins_len (by rw [ks_len]; exact hile),ks_len]
   have fin:∀ (p1 q1:Option Addr) (c3 c4:Nat) (wx:World),X.Own w S [row b [.slice p1 (ins (ks kv) (at' kv k) k).length c3,.slice q1 (ins (vs kv) (at' kv k) v).length c4] tBookR,nums p1 c3 (ins (ks kv) (at' kv k) k),els ER q1 c4 (ins (vs kv) (at' kv k) v)] wx →
    zzbX (fun r w'=>∃ L',(r = .bool (!hasK kv k)∧L' = [bookG ER tBookR b (putK kv k v)])∧X.Own w S L' w') wx:=by
    intro p1 q1 c3 c4 wx H
    unfold zzbX
    rw [h]
    refine ⟨_,⟨rfl,rfl⟩,?_⟩
    rw [← e1,← e2] at H
    exact zzaG H (by rw [e1]; exact ins_up h1 hn) (by omega)
   have hk:at' kv k≤(ks kv).length:=by rw [ks_len]; exact hile
   have hv:at' kv k≤(vs kv).length:=by rw [vs_len]; exact hile
   refine drw_o H fun wx H=>?_
   repeat (first | refine lIa H ?_ | refine lLa H ?_ | refine lBa H ?_ | refine lPa H ?_ | refine lSa H ?_)
   refine ⟨alc_o H fun b30 wx H=>⟨?_,?_,?_,?_,alc_o H fun b63 wx H=>⟨?_,?_,?_⟩⟩,alc_o H fun b88 wx H=>⟨?_,?_,alc_o H fun b96 wx H=>⟨?_,?_,?_,?_⟩⟩⟩
   · repeat (first | refine lIa H ?_ | refine lLa H ?_ | refine lBa H ?_ | refine lPa H ?_ | refine lSa H ?_)
     rfl
   · repeat (first | refine lIa H ?_ | refine lLa H ?_ | refine lBa H ?_ | refine lPa H ?_ | refine lSa H ?_)
     rfl
   · repeat (first | refine lIa H ?_ | refine lLa H ?_ | refine lBa H ?_ | refine lPa H ?_ | refine lSa H ?_)
     rfl
   · skip
     refine call_oa H (insert_i (p:=p) (c:=c) (xs:=ks kv) (vb:=b30) (x:=k) hk (by rw [ks_len]; unfold NB at *; omega)) fun vx L' wx hq H=>?_
     obtain ⟨p1,c3,rfl,rfl⟩:=hq
     simp only [List.cons_append,List.nil_append] at H
     refine ⟨_,_,_,rfl,?_,?_,alc_o H fun b46 wx H=>⟨?_,?_,?_⟩⟩
     · repeat (first | refine lIa H ?_ | refine lLa H ?_ | refine lBa H ?_ | refine lPa H ?_ | refine lSa H ?_)
       rfl
     · repeat (first | refine lIa H ?_ | refine lLa H ?_ | refine lBa H ?_ | refine lPa H ?_ | refine lSa H ?_)
       rfl
     · repeat (first | refine lIa H ?_ | refine lLa H ?_ | refine lBa H ?_ | refine lPa H ?_ | refine lSa H ?_)
       rfl
     · repeat (first | refine lIa H ?_ | refine lLa H ?_ | refine lBa H ?_ | refine lPa H ?_ | refine lSa H ?_)
       rfl
     refine call_oa H (insert_r (p:=q) (c:=c2) (xs:=vs kv) (vb:=b46) (x:=v) hv (by rw [vs_len]; unfold NB at *; omega)) fun vx L' wx hq H=>?_
     obtain ⟨q1,c4,rfl,rfl⟩:=hq
     simp only [List.cons_append,List.nil_append] at H
     refine ⟨_,_,_,rfl,?_⟩
     dsimp only [nn]
     iterate 2 refine sta H fun wx H=>?_
     simp only [List.set_cons_zero,List.set_cons_succ] at H
     exact fin p1 q1 c3 c4 _ (H.dp)
   · repeat (first | refine lIa H ?_ | refine lLa H ?_ | refine lBa H ?_ | refine lPa H ?_ | refine lSa H ?_)
     rfl
   · repeat (first | refine lIa H ?_ | refine lLa H ?_ | refine lBa H ?_ | refine lPa H ?_ | refine lSa H ?_)
     rfl
   · skip
     refine call_oa H (insert_i (p:=p) (c:=c) (xs:=ks kv) (vb:=b30) (x:=k) hk (by rw [ks_len]; unfold NB at *; omega)) fun vx L' wx hq H=>?_
     obtain ⟨p1,c3,rfl,rfl⟩:=hq
     simp only [List.cons_append,List.nil_append] at H
     refine ⟨_,_,_,rfl,?_,?_,?_⟩
     · repeat (first | refine lIa H ?_ | refine lLa H ?_ | refine lBa H ?_ | refine lPa H ?_ | refine lSa H ?_)
       rfl
     · repeat (first | refine lIa H ?_ | refine lLa H ?_ | refine lBa H ?_ | refine lPa H ?_ | refine lSa H ?_)
       rfl
     refine call_oa H (insert_r (p:=q) (c:=c2) (xs:=vs kv) (vb:=b63) (x:=v) hv (by rw [vs_len]; unfold NB at *; omega)) fun vx L' wx hq H=>?_
     obtain ⟨q1,c4,rfl,rfl⟩:=hq
     simp only [List.cons_append,List.nil_append] at H
     refine ⟨_,_,_,rfl,?_⟩
     dsimp only [nn]
     iterate 2 refine sta H fun wx H=>?_
     simp only [List.set_cons_zero,List.set_cons_succ] at H
     exact fin p1 q1 c3 c4 _ (H.dp)
   · repeat (first | refine lIa H ?_ | refine lLa H ?_ | refine lBa H ?_ | refine lPa H ?_ | refine lSa H ?_)
     rfl
   · repeat (first | refine lIa H ?_ | refine lLa H ?_ | refine lBa H ?_ | refine lPa H ?_ | refine lSa H ?_)
     rfl
   · repeat (first | refine lIa H ?_ | refine lLa H ?_ | refine lBa H ?_ | refine lPa H ?_ | refine lSa H ?_)
     rfl
   · repeat (first | refine lIa H ?_ | refine lLa H ?_ | refine lBa H ?_ | refine lPa H ?_ | refine lSa H ?_)
     rfl
   · repeat (first | refine lIa H ?_ | refine lLa H ?_ | refine lBa H ?_ | refine lPa H ?_ | refine lSa H ?_)
     rfl
   · skip
     refine call_oa H (insert_i (p:=p) (c:=c) (xs:=ks kv) (vb:=b96) (x:=k) hk (by rw [ks_len]; unfold NB at *; omega)) fun vx L' wx hq H=>?_
     obtain ⟨p1,c3,rfl,rfl⟩:=hq
     simp only [List.cons_append,List.nil_append] at H
     refine ⟨_,_,_,rfl,?_,?_,?_⟩
     · repeat (first | refine lIa H ?_ | refine lLa H ?_ | refine lBa H ?_ | refine lPa H ?_ | refine lSa H ?_)
       rfl
     · repeat (first | refine lIa H ?_ | refine lLa H ?_ | refine lBa H ?_ | refine lPa H ?_ | refine lSa H ?_)
       rfl
     refine call_oa H (insert_r (p:=q) (c:=c2) (xs:=vs kv) (vb:=b88) (x:=v) hv (by rw [vs_len]; unfold NB at *; omega)) fun vx L' wx hq H=>?_
     obtain ⟨q1,c4,rfl,rfl⟩:=hq
     simp only [List.cons_append,List.nil_append] at H
     refine ⟨_,_,_,rfl,?_⟩
     dsimp only [nn]
     iterate 2 refine sta H fun wx H=>?_
     simp only [List.set_cons_zero,List.set_cons_succ] at H
     exact fin p1 q1 c3 c4 _ (H.dp)
theorem take_r (b:Nat) (kv:List (Int×RtE)) (k:Int):Tri P F.zzax [bptr b,.int .i64 k] [bookG ER tBookR b kv] fun r L'=>r = .tuple [.agg ([.int .i64 (getK rt0 kv k).num,.int .i64 (getK rt0 kv k).coll,.bool (getK rt0 kv k).val]:List Value).toArray,.bool (hasK kv k)].toArray∧L' = [bookG ER tBookR b (takeK kv k)]:=by
 intro w S hS
 refine zzgQ ?_
 unfold zzax
 have H:=Own.start hS
 refine alc_o H fun b3 wx H=>?_
 refine call_pa H (get_r b kv k) fun wx H=>?_
 refine ⟨_,_,_,_,rfl,alc_o H fun b10 wx H=>?_⟩
 iterate 3 refine sta H fun wx H=>?_
 refine join_o (cnd_i (fun h=>?_) fun h=>?_)
 · obtain ⟨e1,e2⟩:=takeK_old h
   have hlt:=at_lt h
   obtain ⟨p,c,q,c2,h1,h2,H⟩:=zzbT H (by repeat (first | exact Pick.here | apply Pick.there))
   dsimp only [nn]
   repeat (first | refine lIa H ?_ | refine lLa H ?_ | refine lBa H ?_ | refine lPa H ?_ | refine lSa H ?_)
   refine call_pa H (search_t (nums p c (ks kv)) nums_sl h1 (by rw [ks_len]; unfold NB at h2; omega) k) fun wx H=>?_
   refine ⟨_,_,rfl,?_⟩
   refine drw_o H fun wx H=>?_
   repeat (first | refine lIa H ?_ | refine lLa H ?_ | refine lBa H ?_ | refine lPa H ?_ | refine lSa H ?_)
   have ew:IntKind.i64.wrap (((lb (ks kv) k:Nat):Int) + 1) = ((at' kv k:Nat):Int) + 1:=by
    unfold NB at h2
    rw [show lb (ks kv) k = at' kv k from rfl,W_id (by omega) (by omega)]
   rw [ew]
   refine call_oa H (delete_i (p:=p) (c:=c) (xs:=ks kv) (i:=at' kv k) (by rw [ks_len]; exact hlt)) fun vx L' wx hq H=>?_
   obtain ⟨c3,rfl,rfl⟩:=hq
   simp only [List.cons_append,List.nil_append] at H
   refine ⟨_,_,_,rfl,?_,?_⟩
   · repeat (first | refine lIa H ?_ | refine lLa H ?_ | refine lBa H ?_ | refine lPa H ?_ | refine lSa H ?_)
     rfl
   refine call_oa H (delete_r (p:=q) (c:=c2) (xs:=vs kv) (i:=at' kv k) (by rw [vs_len]; exact hlt)) fun vx L' wx hq H=>?_
   obtain ⟨c4,rfl,rfl⟩:=hq
   simp only [List.cons_append,List.nil_append] at H
   refine ⟨_,_,_,rfl,?_⟩
   iterate 2 refine sta H fun wx H=>?_
   simp only [List.set_cons_zero,List.set_cons_succ] at H
   unfold zzbP
   repeat (first | refine lIa H ?_ | refine lLa H ?_ | refine lBa H ?_ | refine lPa H ?_ | refine lSa H ?_)
   iterate 3 refine sta H fun wx H=>?_
   repeat (first | refine lIa H ?_ | refine lLa H ?_ | refine lBa H ?_ | refine lPa H ?_ | refine lSa H ?_)
   refine ⟨_,⟨rfl,rfl⟩,?_⟩
   have H:=H.drop (L1:=[row b [.slice p ((ks kv).eraseIdx (at' kv k)).length c3,.slice q ((vs kv).eraseIdx (at' kv k)).length c4] tBookR,nums p c3 ((ks kv).eraseIdx (at' kv k)),els ER q c4 ((vs kv).eraseIdx (at' kv k))]) (by repeat (first | exact Cut.nil | (apply Cut.cons; (repeat (first | exact Pick.here | apply Pick.there)))))
   rw [← e1,← e2] at H
   have hl:=takeK_len kv k
   exact zzaG H (by rw [e1]; exact h1.sublist (List.eraseIdx_sublist _ _)) (by omega)
 · unfold zzbP
   repeat (first | refine lIa H ?_ | refine lLa H ?_ | refine lBa H ?_ | refine lPa H ?_ | refine lSa H ?_)
   iterate 3 refine sta H fun wx H=>?_
   repeat (first | refine lIa H ?_ | refine lLa H ?_ | refine lBa H ?_ | refine lPa H ?_ | refine lSa H ?_)
   refine ⟨_,⟨rfl,rfl⟩,?_⟩
   have:takeK kv k = kv:=by unfold takeK; rw [h]; rfl
   rw [this]
   exact H.dp
def thrVr (g h:Nat):Value:=.func (.func F.zzal) [].toArray [bptr g,bptr h].toArray
noncomputable def thrEr (g h:Nat) (p:Option Addr) (c:Nat) (q:Option Addr) (c2:Nat) (kv:List (Int×RtE)):List It:=[row g [.slice p (ks kv).length c] tInts,row h [.slice q (vs kv).length c2] ER.ta,nums p c (ks kv),els ER q c2 (vs kv)]
def pairsr (kv:List (Int×RtE)):List (List Value):=kv.map fun x=>[.int .i64 x.1,.agg ([.int .i64 (x.2).num,.int .i64 (x.2).coll,.bool (x.2).val]:List Value).toArray]
theorem pairsr_len (kv:List (Int×RtE)):∀ x∈pairsr kv,x.length = 2:=by
 intro x hx
 obtain ⟨y,_,rfl⟩:=List.mem_map.1 hx
 rfl
theorem thrr_enters:enters P F.zzal = true:=by kernel_rfl
theorem all_r (b:Nat) (kv:List (Int×RtE)):Tri P F.zzaq [bptr b] [bookG ER tBookR b kv] fun r L'=>∃ g h p c q c2,r = thrVr g h∧L' = thrEr g h p c q c2 kv ++ [bookG ER tBookR b kv]:=by
 intro w S hS
 refine zzgZ ?_
 unfold zzaq
 have H:=Own.start hS
 obtain ⟨p,c,q,c2,h1,h2,H⟩:=zzbT H .here
 refine drw_o H fun wx H=>?_
 dsimp only [nn]
 repeat (first | refine lIa H ?_ | refine lLa H ?_ | refine lBa H ?_ | refine lPa H ?_ | refine lSa H ?_)
 refine call_oa H (clone_i (nums p c (ks kv)) own_sl (by rw [ks_len]; omega)) fun vx L' wx hq H=>?_
 obtain ⟨p1,c3,rfl,rfl⟩:=hq
 simp only [List.cons_append,List.nil_append] at H
 refine ⟨_,_,_,rfl,?_,?_⟩
 · repeat (first | refine lIa H ?_ | refine lLa H ?_ | refine lBa H ?_ | refine lPa H ?_ | refine lSa H ?_)
   rfl
 refine call_oa H (clone_r (els ER q c2 (vs kv)) own_slZ (by rw [vs_len]; omega)) fun vx L' wx hq H=>?_
 obtain ⟨q1,c4,rfl,rfl⟩:=hq
 simp only [List.cons_append,List.nil_append] at H
 refine ⟨_,_,_,rfl,?_⟩
 refine zzhn ?_
 unfold zza0
 refine alc_o H fun g wx H=>alc_o H fun h wx H=>?_
 refine ⟨_,rfl,_,⟨g,h,p1,c3,q1,c4,rfl,rfl⟩,?_⟩
 have H:=H.perm (L1:=[row b [.slice p (ks kv).length c,.slice q (vs kv).length c2] tBookR,nums p c (ks kv),els ER q c2 (vs kv)]) (by repeat (first | exact Cut.nil | (apply Cut.cons; (repeat (first | exact Pick.here | apply Pick.there)))))
 have H:=zzaG H h1 h2
 exact own_comm (A:=[bookG ER tBookR b kv]) (B:=thrEr g h p1 c3 q1 c4 kv) (H.drop (by unfold thrEr; exact (by repeat (first | exact Cut.nil | (apply Cut.cons; (repeat (first | exact Pick.here | apply Pick.there)))))))
theorem thrr_it (g h:Nat) (p:Option Addr) (c:Nat) (q:Option Addr) (c2:Nat) (kv:List (Int×RtE)) (hl:kv.length < NB) :
 Iter P F.zzal [bptr g,bptr h] (thrEr g h p c q c2 kv) (pairsr kv):=by
 intro y w0 S0 L0 w Q I D hy H h0 hstep hend hstop
 obtain ⟨fn,fa,fc,rfl⟩:=hy
 unfold NB at hl
 refine zzg3 ?_
 unfold zzal
 have H:=own_comm H
 unfold thrEr at H
 simp only [List.cons_append,List.nil_append] at H
 refine ldL_o H .here (by rfl) ?_
 refine loop_o (fun (st:Int) L'=>∃ (k:Nat) (L:List It),k≤kv.length∧st = k∧I k L∧L' = thrEr g h p c q c2 kv ++ L) (fun (st:Int)=>((kv.length:Int) - st).toNat) H
  ⟨0,L0,by omega,rfl,h0,rfl⟩ ?_
 rintro _ _ wx ⟨k,L,hk,rfl,hI,rfl⟩ H
 unfold zzdX
 refine cnd_i (fun hc=>?_) fun hc=>?_
 · have hc:=of_decide_eq_true hc
   rw [ks_len] at hc
   have hkl:k < kv.length:=by omega
   have H1:=H
   unfold thrEr at H1
   simp only [List.cons_append,List.nil_append] at H1
   have hk1:(ks kv)[k]? = some (kv[k].1):=by simp [ks,hkl]
   have hk2:(vs kv)[k]? = some (kv[k].2):=by simp [vs,hkl]
   refine ⟨⟨by omega,by rw [ks_len]; exact_mod_cast hkl⟩,?_⟩
   rw [Int.toNat_natCast]
   obtain ⟨d1,rfl,hc1⟩:=els_at (q:=p) (c:=c) H1 (.there (.there .here)) hk1
   dsimp only [nn]
   refine ⟨_,by rw [add_lit,Nat.zero_add]; exact hc1 0 _ rfl,?_⟩
   refine ldL_o H1 (.there .here) (by rfl) ⟨⟨by omega,by rw [vs_len]; exact_mod_cast hkl⟩,?_⟩
   rw [Int.toNat_natCast]
   obtain ⟨d2,rfl,hc2⟩:=els_at (q:=q) (c:=c2) H1 (.there (.there (.there .here))) hk2
   dsimp only [nn]
   refine ⟨_,by rw [add_lit,Nat.zero_add]; exact hc2 0 _ rfl,?_⟩
   refine ⟨_,by rw [add_lit,add_lit,Nat.zero_add]; exact hc2 1 _ rfl,?_⟩
   refine ⟨_,by rw [add_lit,add_lit,Nat.zero_add]; exact hc2 2 _ rfl,?_⟩
   have hx:(pairsr kv)[k]? = some [.int .i64 kv[k].1,.agg ([.int .i64 (kv[k].2).num,.int .i64 (kv[k].2).coll,.bool (kv[k].2).val]:List Value).toArray]:=by simp [pairsr,hkl]
   refine callVal_mono (hstep k _ L [] wx hx hI (by rw [List.append_nil]; exact own_comm H)) ?_
   rintro _ w' ⟨bo,rfl,L',hL',H'⟩
   rw [List.append_nil] at H'
   refine ⟨_,rfl,?_⟩
   cases bo
   · exact cnd_i (fun _=>hstop _ _ hL' H') (fun h=>by cases h)
   · refine cnd_i (fun h=>by cases h) fun _=>?_
     rw [W_id (by omega) (by omega)]
     exact ⟨⟨_,⟨k + 1,L',by omega,by push_cast; rfl,hL',rfl⟩,own_comm H'⟩,by omega⟩
 · have hc:=of_decide_eq_false hc
   rw [ks_len] at hc
   have:k = (pairsr kv).length:=by simp [pairsr]; omega
   subst this
   exact hend _ _ hI (own_comm H)
structure DvE where
 bits:Int
 ptr:Option Addr
noncomputable abbrev ED:El P where
 α:=DvE
 enc:=fun x=>[.int .i64 x.bits,.pointer x.ptr]
 z:=2
 ta:=tDevices
 te:=tDevice
 bytes:=16
 zs:=[.int .i64 0,.pointer none]
 hT:=appDevs
 hZ:=zeroDev
 hz1:=by simp [Value.oneCell']
 hlen:=fun _=>rfl
 h1:=by intro x u hu; simp only [List.mem_cons,List.not_mem_nil,or_false] at hu; rcases hu with rfl | rfl <;> rfl
 hz:=by omega
 hb:=by omega
def dv0:DvE:=⟨0,none⟩
theorem ov_d:ovB P F.zzcK:=by
 refine ⟨_,Tryz.func126,⟨by kernel_rfl,by kernel_rfl⟩,by kernel_rfl,Extern.SlicesOverlaps.overlaps #[ED.ta,ED.ta] #[T.t4],by kernel_rfl,?_⟩
 intro w vb o d o' la ca lb cb cur cv tA tB hne hrd hrv hcur
 obtain ⟨hu,i,z,hi,hz,h3,h4,h5⟩:=appB_out (El.hT ED)
 have hrd':=hrd
 have hrv':=hrv
 unfold Row at hrd' hrv'
 exact Lib.run_overlaps_apart (P:=P) w ED.ta T.t4 ED.te hu 2 (fun w=>by simp only [sizeOf,typeInfo,hi,h3]; rfl) ⟨vb,o,none⟩ ⟨d,o',none⟩ la ca lb cb (fun e=>hne e.symm) tB tA cv.length cur.length
  (by simp [World.shape?,hrv']) (by simp [World.shape?,hrd']) (by intro e; exact hcur (List.length_eq_zero_iff.1 e)) (hrv.frozen o) (hrv.frozen cv.length)
theorem insert_d {p:Option Addr} {c:Nat} {xs:List DvE} {i vb:Nat} {x:DvE} {tv:TypeId} (hi:i≤xs.length) (hl:xs.length < NB) :
 Tri P F.zzae [.slice p xs.length c,.int .i64 (i:Int),.slice (some ⟨vb,0,none⟩) 1 1] [els ED p c xs,row vb (ED.enc x) tv] fun v L'=>∃ p' c',v = .slice p' (ins xs i x).length c'∧L' = [els ED p' c' (ins xs i x)]:=by
 intro w S hS
 refine zzeD ?_
 unfold NB at hl
 rw [show ∀ Q,zzae p xs.length c (i:Int) (some ⟨vb,0,none⟩) 1 1 w Q = insertG ED T.t3 F.zzcK F.zzb4 p xs.length c (i:Int) (some ⟨vb,0,none⟩) 1 1 w Q from fun _=>rfl]
 exact insertG_o (E:=ED) (ti:=T.t3) ov_d (by kernel_rfl) hi (by show (xs.length + 1) * 16≤_; omega) (by unfold maxLen; omega) (Own.start hS) fun p' c' w' H=>⟨_,⟨p',c',rfl,rfl⟩,H⟩
theorem delete_d {p:Option Addr} {c:Nat} {xs:List DvE} {i:Nat} (hi:i < xs.length):Tri P F.zzaj [.slice p xs.length c,.int .i64 (i:Int),.int .i64 (i + 1:Int)] [els ED p c xs] fun v L'=>∃ c',v = .slice p (xs.eraseIdx i).length c'∧L' = [els ED p c' (xs.eraseIdx i)]:=by
 intro w S hS
 refine zzeE ?_
 rw [show ∀ Q,zzaj p xs.length c (i:Int) (i + 1:Int) w Q = deleteG ED T.t0 p xs.length c (i:Int) (i + 1:Int) w Q from fun _=>rfl]
 exact deleteG_o (E:=ED) (t0:=T.t0) hi (Own.start hS) fun c' w' H=>⟨_,⟨c',rfl,rfl⟩,H⟩
theorem clone_d (i:It) {p:Option Addr} {c:Nat} {xs:List DvE} (hi:∀ w S,i.h w S→Sl w p (ED.flat xs)) (hl:xs.length < NB) :
 Tri P F.zzak [.slice p xs.length c] [i] fun v L'=>∃ p' c',v = .slice p' xs.length c'∧L' = [els ED p' c' xs,i]:=by
 intro w S hS
 refine zzeN ?_
 unfold NB at hl
 rw [show ∀ Q,zzak p xs.length c w Q = cloneG ED p xs.length c w Q from fun _=>rfl]
 exact cloneG_o (E:=ED) (Own.start hS) .here hi (by show xs.length * 16≤_; omega) (by unfold maxLen; omega) fun p' c' w' H=>⟨_,⟨p',c',rfl,rfl⟩,H⟩
theorem new_d:Tri P F.zzaL [] [] fun v L'=>∃ b,v = bptr b∧L' = [bookG ED tBookD b []]:=by
 intro w S hS
 refine zzhO ?_
 unfold zzaL
 have H:=Own.start hS
 refine alc_o H fun b1 wx H=>?_
 exact ⟨_,⟨b1,rfl,rfl⟩,zzlJ H⟩
theorem get_d (b:Nat) (kv:List (Int×DvE)) (k:Int):Tri P F.zzaa [bptr b,.int .i64 k] [bookG ED tBookD b kv] fun v L'=>v = .tuple [.agg ([.int .i64 (getK dv0 kv k).bits,.pointer (getK dv0 kv k).ptr]:List Value).toArray,.bool (hasK kv k)].toArray∧L' = [bookG ED tBookD b kv]:=by
 intro w S hS
 refine zzgw ?_
 unfold zzaa
 have H:=Own.start hS
 refine alc_o H fun b3 wx H=>alc_o H fun b5 wx H=>?_
 obtain ⟨p,c,q,c2,h1,h2,H⟩:=zzbT H (by repeat (first | exact Pick.here | apply Pick.there))
 dsimp only [nn]
 repeat (first | refine lIa H ?_ | refine lLa H ?_ | refine lBa H ?_ | refine lPa H ?_ | refine lSa H ?_)
 refine call_pa H (search_t (nums p c (ks kv)) nums_sl h1 (by rw [ks_len]; unfold NB at h2; omega) k) fun wx H=>?_
 refine ⟨_,_,rfl,cnd_i (fun h=>?_) fun h=>?_⟩
 · have h:hasK kv k = false:=by rw [Bool.not_eq_true'] at h; exact h
   have eg:getK dv0 kv k = dv0:=by unfold getK; rw [h]; rfl
   repeat (first | refine lIa H ?_ | refine lLa H ?_ | refine lBa H ?_ | refine lPa H ?_ | refine lSa H ?_)
   iterate 2 refine sta H fun wx H=>?_
   repeat (first | refine lIa H ?_ | refine lLa H ?_ | refine lBa H ?_ | refine lPa H ?_ | refine lSa H ?_)
   have H:=H.drop (L1:=[row b [.slice p (ks kv).length c,.slice q (vs kv).length c2] tBookD,nums p c (ks kv),els ED q c2 (vs kv)]) (by repeat (first | exact Cut.nil | (apply Cut.cons; (repeat (first | exact Pick.here | apply Pick.there)))))
   exact ⟨_,⟨by rw [eg,h]; rfl,rfl⟩,zzaG H h1 h2⟩
 · have h:hasK kv k = true:=by rw [Bool.not_eq_false'] at h; exact h
   have hlt:=at_lt h
   have hv:=vs_at (d:=dv0) h
   repeat (first | refine lIa H ?_ | refine lLa H ?_ | refine lBa H ?_ | refine lPa H ?_ | refine lSa H ?_)
   refine ⟨⟨by omega,by rw [vs_len]; show ((at' kv k:Nat):Int) < _; exact_mod_cast hlt⟩,?_⟩
   rw [Int.toNat_natCast]
   obtain ⟨d,rfl,hc⟩:=els_at (q:=q) (c:=c2) H (by repeat (first | exact Pick.here | apply Pick.there)) hv
   dsimp only [nn]
   have hc2:∀ i v,(ED.enc (getK dv0 kv k))[i]? = some v→wx.cell? (((⟨d,0,none⟩:Addr).add (at' kv k * 2)).add i) = some v:=by
    intro i v hv
    rw [add_lit,add_lit,Nat.zero_add]; exact hc i v hv
   have hc0:∀ v,(ED.enc (getK dv0 kv k))[0]? = some v→wx.cell? ((⟨d,0,none⟩:Addr).add (at' kv k * 2)) = some v:=by
    intro v hv
    rw [add_lit,Nat.zero_add]; exact hc 0 v hv
   refine ⟨_,hc0 _ rfl,?_⟩
   refine ⟨_,hc2 1 _ rfl,?_⟩
   iterate 2 refine sta H fun wx H=>?_
   repeat (first | refine lIa H ?_ | refine lLa H ?_ | refine lBa H ?_ | refine lPa H ?_ | refine lSa H ?_)
   have H:=H.drop (L1:=[row b [.slice p (ks kv).length c,.slice (some ⟨d,0,none⟩) (vs kv).length c2] tBookD,nums p c (ks kv),els ED (some ⟨d,0,none⟩) c2 (vs kv)]) (by repeat (first | exact Cut.nil | (apply Cut.cons; (repeat (first | exact Pick.here | apply Pick.there)))))
   exact ⟨_,⟨by rw [h],rfl⟩,zzaG H h1 h2⟩
theorem put_d (b:Nat) (kv:List (Int×DvE)) (k:Int) (v:DvE) (hlen:kv.length + 1 < NB):Tri P F.zzaw [bptr b,.int .i64 k,.agg ([.int .i64 (v).bits,.pointer (v).ptr]:List Value).toArray] [bookG ED tBookD b kv] fun r L'=>r = .bool (!hasK kv k)∧L' = [bookG ED tBookD b (putK kv k v)]:=by
 intro w S hS
 refine zzgy ?_
 unfold zzaw
 have H:=Own.start hS
 refine alc_o H fun b5 wx H=>?_
 obtain ⟨p,c,q,c2,h1,h2,H⟩:=zzbT H (by repeat (first | exact Pick.here | apply Pick.there))
 dsimp only [nn]
 repeat (first | refine lIa H ?_ | refine lLa H ?_ | refine lBa H ?_ | refine lPa H ?_ | refine lSa H ?_)
 refine call_pa H (search_t (nums p c (ks kv)) nums_sl h1 (by rw [ks_len]; unfold NB at h2; omega) k) fun wx H=>?_
 have hile:at' kv k≤kv.length:=by have:=lb_le (k:=k) (ks kv); rw [ks_len] at this; exact this
 refine ⟨_,_,rfl,cnd_i (fun h=>?_) fun h=>join_o ?_⟩
 · have h:hasK kv k = true:=h
   obtain ⟨e1,e2⟩:=putK_old (v:=v) h
   have hlt:=at_lt h
   refine drw_o H fun wx H=>?_
   repeat (first | refine lIa H ?_ | refine lLa H ?_ | refine lBa H ?_ | refine lPa H ?_ | refine lSa H ?_)
   refine ⟨⟨by omega,by rw [vs_len]; show ((at' kv k:Nat):Int) < _; exact_mod_cast hlt⟩,?_⟩
   rw [Int.toNat_natCast,show lb (ks kv) k = at' kv k from rfl]
   have hlv:at' kv k < (vs kv).length:=by rw [vs_len]; exact hlt
   have H:=H.perm (L1:=[els ED q c2 (vs kv)]) (by repeat (first | exact Cut.nil | (apply Cut.cons; (repeat (first | exact Pick.here | apply Pick.there)))))
   simp only [List.cons_append,List.nil_append] at H
   obtain ⟨d,rest,rfl,hlen2,hle,hmx,H⟩:=els_open H .here (by intro e; rw [e] at hlv; simp at hlv)
   dsimp only [nn]
   show st1 _ _ _ _
   have hfit:at' kv k * 2 + 1 < (ED.flat (vs kv) ++ rest).length:=by
    rw [List.length_append,El.flat_len]
    have:(at' kv k + 1) * 2≤(vs kv).length * 2:=Nat.mul_le_mul_right _ hlv
    show _ < (vs kv).length * 2 + _
    omega
   rw [add_lit,Nat.zero_add]
   refine st1_o H .here (by show at' kv k * 2 < _; omega) fun wx H=>?_
   rw [add_lit]
   refine st1_o H .here (by simp only [List.length_set]; omega) fun wx H=>?_
   rw [splice2 (L:=ED.flat (vs kv) ++ rest) (i:=at' kv k * 2) (by omega)] at H
   have H:=els_put (E:=ED) (xs:=vs kv) (j:=at' kv k) (y:=v) H hlen2 hle hmx hlv
   rw [h]
   refine ⟨_,⟨rfl,rfl⟩,?_⟩
   have hl:(putK kv k v).length = kv.length:=by unfold putK; rw [h,if_pos rfl,List.length_set]
   have H:=H.drop (L1:=[row b [.slice p (ks kv).length c,.slice (some ⟨d,0,none⟩) (vs kv).length c2] tBookD,nums p c (ks kv),els ED (some ⟨d,0,none⟩) c2 ((vs kv).set (at' kv k) v)]) (by repeat (first | exact Cut.nil | (apply Cut.cons; (repeat (first | exact Pick.here | apply Pick.there)))))
   refine zzaG (p:=p) (c:=c) (q:=some ⟨d,0,none⟩) (c2:=c2) ?_ (by rw [e1]; exact h1) (by omega)
   rw [e1,e2]
   rw [List.length_set]
   exact H
 · have h:hasK kv k = false:=h
   obtain ⟨e1,e2⟩:=putK_new (v:=v) h
   have hn:(ks kv)[lb (ks kv) k]?≠some k:=of_decide_eq_false h
   have hl:(putK kv k v).length = kv.length + 1:=by
    rw [← ks_len,e1,ins_len (by rw [ks_len]; exact hile),ks_len]
   have fin:∀ (p1 q1:Option Addr) (c3 c4:Nat) (wx:World),X.Own w S [row b [.slice p1 (ins (ks kv) (at' kv k) k).length c3,.slice q1 (ins (vs kv) (at' kv k) v).length c4] tBookD,nums p1 c3 (ins (ks kv) (at' kv k) k),els ED q1 c4 (ins (vs kv) (at' kv k) v)] wx →
    zzbG (fun r w'=>∃ L',(r = .bool (!hasK kv k)∧L' = [bookG ED tBookD b (putK kv k v)])∧X.Own w S L' w') wx:=by
    intro p1 q1 c3 c4 wx H
    unfold zzbG
    rw [h]
    refine ⟨_,⟨rfl,rfl⟩,?_⟩
    rw [← e1,← e2] at H
    exact zzaG H (by rw [e1]; exact ins_up h1 hn) (by omega)
   have hk:at' kv k≤(ks kv).length:=by rw [ks_len]; exact hile
   have hv:at' kv k≤(vs kv).length:=by rw [vs_len]; exact hile
   refine drw_o H fun wx H=>?_
   repeat (first | refine lIa H ?_ | refine lLa H ?_ | refine lBa H ?_ | refine lPa H ?_ | refine lSa H ?_)
   refine ⟨alc_o H fun b30 wx H=>⟨?_,?_,?_,?_,alc_o H fun b63 wx H=>⟨?_,?_,?_⟩⟩,alc_o H fun b88 wx H=>⟨?_,?_,alc_o H fun b96 wx H=>⟨?_,?_,?_,?_⟩⟩⟩
   · repeat (first | refine lIa H ?_ | refine lLa H ?_ | refine lBa H ?_ | refine lPa H ?_ | refine lSa H ?_)
     rfl
   · repeat (first | refine lIa H ?_ | refine lLa H ?_ | refine lBa H ?_ | refine lPa H ?_ | refine lSa H ?_)
     rfl
   · repeat (first | refine lIa H ?_ | refine lLa H ?_ | refine lBa H ?_ | refine lPa H ?_ | refine lSa H ?_)
     rfl
   · skip
     refine call_oa H (insert_i (p:=p) (c:=c) (xs:=ks kv) (vb:=b30) (x:=k) hk (by rw [ks_len]; unfold NB at *; omega)) fun vx L' wx hq H=>?_
     obtain ⟨p1,c3,rfl,rfl⟩:=hq
     simp only [List.cons_append,List.nil_append] at H
     refine ⟨_,_,_,rfl,?_,?_,alc_o H fun b46 wx H=>⟨?_,?_,?_⟩⟩
     · repeat (first | refine lIa H ?_ | refine lLa H ?_ | refine lBa H ?_ | refine lPa H ?_ | refine lSa H ?_)
       rfl
     · repeat (first | refine lIa H ?_ | refine lLa H ?_ | refine lBa H ?_ | refine lPa H ?_ | refine lSa H ?_)
       rfl
     · repeat (first | refine lIa H ?_ | refine lLa H ?_ | refine lBa H ?_ | refine lPa H ?_ | refine lSa H ?_)
       rfl
     · repeat (first | refine lIa H ?_ | refine lLa H ?_ | refine lBa H ?_ | refine lPa H ?_ | refine lSa H ?_)
       rfl
     refine call_oa H (insert_d (p:=q) (c:=c2) (xs:=vs kv) (vb:=b46) (x:=v) hv (by rw [vs_len]; unfold NB at *; omega)) fun vx L' wx hq H=>?_
     obtain ⟨q1,c4,rfl,rfl⟩:=hq
     simp only [List.cons_append,List.nil_append] at H
     refine ⟨_,_,_,rfl,?_⟩
     dsimp only [nn]
     iterate 2 refine sta H fun wx H=>?_
     simp only [List.set_cons_zero,List.set_cons_succ] at H
     exact fin p1 q1 c3 c4 _ (H.dp)
   · repeat (first | refine lIa H ?_ | refine lLa H ?_ | refine lBa H ?_ | refine lPa H ?_ | refine lSa H ?_)
     rfl
   · repeat (first | refine lIa H ?_ | refine lLa H ?_ | refine lBa H ?_ | refine lPa H ?_ | refine lSa H ?_)
     rfl
   · skip
     refine call_oa H (insert_i (p:=p) (c:=c) (xs:=ks kv) (vb:=b30) (x:=k) hk (by rw [ks_len]; unfold NB at *; omega)) fun vx L' wx hq H=>?_
     obtain ⟨p1,c3,rfl,rfl⟩:=hq
     simp only [List.cons_append,List.nil_append] at H
     refine ⟨_,_,_,rfl,?_,?_,?_⟩
     · repeat (first | refine lIa H ?_ | refine lLa H ?_ | refine lBa H ?_ | refine lPa H ?_ | refine lSa H ?_)
       rfl
     · repeat (first | refine lIa H ?_ | refine lLa H ?_ | refine lBa H ?_ | refine lPa H ?_ | refine lSa H ?_)
       rfl
     refine call_oa H (insert_d (p:=q) (c:=c2) (xs:=vs kv) (vb:=b63) (x:=v) hv (by rw [vs_len]; unfold NB at *; omega)) fun vx L' wx hq H=>?_
     obtain ⟨q1,c4,rfl,rfl⟩:=hq
     simp only [List.cons_append,List.nil_append] at H
     refine ⟨_,_,_,rfl,?_⟩
     dsimp only [nn]
     iterate 2 refine sta H fun wx H=>?_
     simp only [List.set_cons_zero,List.set_cons_succ] at H
     exact fin p1 q1 c3 c4 _ (H.dp)
   · repeat (first | refine lIa H ?_ | refine lLa H ?_ | refine lBa H ?_ | refine lPa H ?_ | refine lSa H ?_)
     rfl
   · repeat (first | refine lIa H ?_ | refine lLa H ?_ | refine lBa H ?_ | refine lPa H ?_ | refine lSa H ?_)
     rfl
   · repeat (first | refine lIa H ?_ | refine lLa H ?_ | refine lBa H ?_ | refine lPa H ?_ | refine lSa H ?_)
     rfl
   · repeat (first | refine lIa H ?_ | refine lLa H ?_ | refine lBa H ?_ | refine lPa H ?_ | refine lSa H ?_)
     rfl
   · repeat (first | refine lIa H ?_ | refine lLa H ?_ | refine lBa H ?_ | refine lPa H ?_ | refine lSa H ?_)
     rfl
   · skip
     refine call_oa H (insert_i (p:=p) (c:=c) (xs:=ks kv) (vb:=b96) (x:=k) hk (by rw [ks_len]; unfold NB at *; omega)) fun vx L' wx hq H=>?_
     obtain ⟨p1,c3,rfl,rfl⟩:=hq
     simp only [List.cons_append,List.nil_append] at H
     refine ⟨_,_,_,rfl,?_,?_,?_⟩
     · repeat (first | refine lIa H ?_ | refine lLa H ?_ | refine lBa H ?_ | refine lPa H ?_ | refine lSa H ?_)
       rfl
     · repeat (first | refine lIa H ?_ | refine lLa H ?_ | refine lBa H ?_ | refine lPa H ?_ | refine lSa H ?_)
       rfl
     refine call_oa H (insert_d (p:=q) (c:=c2) (xs:=vs kv) (vb:=b88) (x:=v) hv (by rw [vs_len]; unfold NB at *; omega)) fun vx L' wx hq H=>?_
     obtain ⟨q1,c4,rfl,rfl⟩:=hq
     simp only [List.cons_append,List.nil_append] at H
     refine ⟨_,_,_,rfl,?_⟩
     dsimp only [nn]
     iterate 2 refine sta H fun wx H=>?_
     simp only [List.set_cons_zero,List.set_cons_succ] at H
     exact fin p1 q1 c3 c4 _ (H.dp)
theorem take_d (b:Nat) (kv:List (Int×DvE)) (k:Int):Tri P F.zzau [bptr b,.int .i64 k] [bookG ED tBookD b kv] fun r L'=>r = .tuple [.agg ([.int .i64 (getK dv0 kv k).bits,.pointer (getK dv0 kv k).ptr]:List Value).toArray,.bool (hasK kv k)].toArray∧L' = [bookG ED tBookD b (takeK kv k)]:=by
 intro w S hS
 refine zzgq ?_
 unfold zzau
 have H:=Own.start hS
 refine alc_o H fun b3 wx H=>?_
 refine call_pa H (get_d b kv k) fun wx H=>?_
 refine ⟨_,_,_,rfl,alc_o H fun b10 wx H=>?_⟩
 iterate 2 refine sta H fun wx H=>?_
 refine join_o (cnd_i (fun h=>?_) fun h=>?_)
 · obtain ⟨e1,e2⟩:=takeK_old h
   have hlt:=at_lt h
   obtain ⟨p,c,q,c2,h1,h2,H⟩:=zzbT H (by repeat (first | exact Pick.here | apply Pick.there))
   dsimp only [nn]
   repeat (first | refine lIa H ?_ | refine lLa H ?_ | refine lBa H ?_ | refine lPa H ?_ | refine lSa H ?_)
   refine call_pa H (search_t (nums p c (ks kv)) nums_sl h1 (by rw [ks_len]; unfold NB at h2; omega) k) fun wx H=>?_
   refine ⟨_,_,rfl,?_⟩
   refine drw_o H fun wx H=>?_
   repeat (first | refine lIa H ?_ | refine lLa H ?_ | refine lBa H ?_ | refine lPa H ?_ | refine lSa H ?_)
   have ew:IntKind.i64.wrap (((lb (ks kv) k:Nat):Int) + 1) = ((at' kv k:Nat):Int) + 1:=by
    unfold NB at h2
    rw [show lb (ks kv) k = at' kv k from rfl,W_id (by omega) (by omega)]
   rw [ew]
   refine call_oa H (delete_i (p:=p) (c:=c) (xs:=ks kv) (i:=at' kv k) (by rw [ks_len]; exact hlt)) fun vx L' wx hq H=>?_
   obtain ⟨c3,rfl,rfl⟩:=hq
   simp only [List.cons_append,List.nil_append] at H
   refine ⟨_,_,_,rfl,?_,?_⟩
   · repeat (first | refine lIa H ?_ | refine lLa H ?_ | refine lBa H ?_ | refine lPa H ?_ | refine lSa H ?_)
     rfl
   refine call_oa H (delete_d (p:=q) (c:=c2) (xs:=vs kv) (i:=at' kv k) (by rw [vs_len]; exact hlt)) fun vx L' wx hq H=>?_
   obtain ⟨c4,rfl,rfl⟩:=hq
   simp only [List.cons_append,List.nil_append] at H
   refine ⟨_,_,_,rfl,?_⟩
   iterate 2 refine sta H fun wx H=>?_
   simp only [List.set_cons_zero,List.set_cons_succ] at H
   unfold zzbC
   repeat (first | refine lIa H ?_ | refine lLa H ?_ | refine lBa H ?_ | refine lPa H ?_ | refine lSa H ?_)
   iterate 2 refine sta H fun wx H=>?_
   repeat (first | refine lIa H ?_ | refine lLa H ?_ | refine lBa H ?_ | refine lPa H ?_ | refine lSa H ?_)
   refine ⟨_,⟨rfl,rfl⟩,?_⟩
   have H:=H.drop (L1:=[row b [.slice p ((ks kv).eraseIdx (at' kv k)).length c3,.slice q ((vs kv).eraseIdx (at' kv k)).length c4] tBookD,nums p c3 ((ks kv).eraseIdx (at' kv k)),els ED q c4 ((vs kv).eraseIdx (at' kv k))]) (by repeat (first | exact Cut.nil | (apply Cut.cons; (repeat (first | exact Pick.here | apply Pick.there)))))
   rw [← e1,← e2] at H
   have hl:=takeK_len kv k
   exact zzaG H (by rw [e1]; exact h1.sublist (List.eraseIdx_sublist _ _)) (by omega)
 · unfold zzbC
   repeat (first | refine lIa H ?_ | refine lLa H ?_ | refine lBa H ?_ | refine lPa H ?_ | refine lSa H ?_)
   iterate 2 refine sta H fun wx H=>?_
   repeat (first | refine lIa H ?_ | refine lLa H ?_ | refine lBa H ?_ | refine lPa H ?_ | refine lSa H ?_)
   refine ⟨_,⟨rfl,rfl⟩,?_⟩
   have:takeK kv k = kv:=by unfold takeK; rw [h]; rfl
   rw [this]
   exact H.dp
def thrVd (g h:Nat):Value:=.func (.func F.zzah) [].toArray [bptr g,bptr h].toArray
noncomputable def thrEd (g h:Nat) (p:Option Addr) (c:Nat) (q:Option Addr) (c2:Nat) (kv:List (Int×DvE)):List It:=[row g [.slice p (ks kv).length c] tInts,row h [.slice q (vs kv).length c2] ED.ta,nums p c (ks kv),els ED q c2 (vs kv)]
def pairsd (kv:List (Int×DvE)):List (List Value):=kv.map fun x=>[.int .i64 x.1,.agg ([.int .i64 (x.2).bits,.pointer (x.2).ptr]:List Value).toArray]
theorem pairsd_len (kv:List (Int×DvE)):∀ x∈pairsd kv,x.length = 2:=by
 intro x hx
 obtain ⟨y,_,rfl⟩:=List.mem_map.1 hx
 rfl
theorem thrd_enters:enters P F.zzah = true:=by kernel_rfl
theorem all_d (b:Nat) (kv:List (Int×DvE)):Tri P F.zzav [bptr b] [bookG ED tBookD b kv] fun r L'=>∃ g h p c q c2,r = thrVd g h∧L' = thrEd g h p c q c2 kv ++ [bookG ED tBookD b kv]:=by
 intro w S hS
 refine zzgx ?_
 unfold zzav
 have H:=Own.start hS
 obtain ⟨p,c,q,c2,h1,h2,H⟩:=zzbT H .here
 refine drw_o H fun wx H=>?_
 dsimp only [nn]
 repeat (first | refine lIa H ?_ | refine lLa H ?_ | refine lBa H ?_ | refine lPa H ?_ | refine lSa H ?_)
 refine call_oa H (clone_i (nums p c (ks kv)) own_sl (by rw [ks_len]; omega)) fun vx L' wx hq H=>?_
 obtain ⟨p1,c3,rfl,rfl⟩:=hq
 simp only [List.cons_append,List.nil_append] at H
 refine ⟨_,_,_,rfl,?_,?_⟩
 · repeat (first | refine lIa H ?_ | refine lLa H ?_ | refine lBa H ?_ | refine lPa H ?_ | refine lSa H ?_)
   rfl
 refine call_oa H (clone_d (els ED q c2 (vs kv)) own_slZ (by rw [vs_len]; omega)) fun vx L' wx hq H=>?_
 obtain ⟨q1,c4,rfl,rfl⟩:=hq
 simp only [List.cons_append,List.nil_append] at H
 refine ⟨_,_,_,rfl,?_⟩
 refine zzg2 ?_
 unfold zzaO
 refine alc_o H fun g wx H=>alc_o H fun h wx H=>?_
 refine ⟨_,rfl,_,⟨g,h,p1,c3,q1,c4,rfl,rfl⟩,?_⟩
 have H:=H.perm (L1:=[row b [.slice p (ks kv).length c,.slice q (vs kv).length c2] tBookD,nums p c (ks kv),els ED q c2 (vs kv)]) (by repeat (first | exact Cut.nil | (apply Cut.cons; (repeat (first | exact Pick.here | apply Pick.there)))))
 have H:=zzaG H h1 h2
 exact own_comm (A:=[bookG ED tBookD b kv]) (B:=thrEd g h p1 c3 q1 c4 kv) (H.drop (by unfold thrEd; exact (by repeat (first | exact Cut.nil | (apply Cut.cons; (repeat (first | exact Pick.here | apply Pick.there)))))))
theorem thrd_it (g h:Nat) (p:Option Addr) (c:Nat) (q:Option Addr) (c2:Nat) (kv:List (Int×DvE)) (hl:kv.length < NB) :
 Iter P F.zzah [bptr g,bptr h] (thrEd g h p c q c2 kv) (pairsd kv):=by
 intro y w0 S0 L0 w Q I D hy H h0 hstep hend hstop
 obtain ⟨fn,fa,fc,rfl⟩:=hy
 unfold NB at hl
 refine zzgA ?_
 unfold zzah
 have H:=own_comm H
 unfold thrEd at H
 simp only [List.cons_append,List.nil_append] at H
 refine ldL_o H .here (by rfl) ?_
 refine loop_o (fun (st:Int) L'=>∃ (k:Nat) (L:List It),k≤kv.length∧st = k∧I k L∧L' = thrEd g h p c q c2 kv ++ L) (fun (st:Int)=>((kv.length:Int) - st).toNat) H
  ⟨0,L0,by omega,rfl,h0,rfl⟩ ?_
 rintro _ _ wx ⟨k,L,hk,rfl,hI,rfl⟩ H
 unfold zzdq
 refine cnd_i (fun hc=>?_) fun hc=>?_
 · have hc:=of_decide_eq_true hc
   rw [ks_len] at hc
   have hkl:k < kv.length:=by omega
   have H1:=H
   unfold thrEd at H1
   simp only [List.cons_append,List.nil_append] at H1
   have hk1:(ks kv)[k]? = some (kv[k].1):=by simp [ks,hkl]
   have hk2:(vs kv)[k]? = some (kv[k].2):=by simp [vs,hkl]
   refine ⟨⟨by omega,by rw [ks_len]; exact_mod_cast hkl⟩,?_⟩
   rw [Int.toNat_natCast]
   obtain ⟨d1,rfl,hc1⟩:=els_at (q:=p) (c:=c) H1 (.there (.there .here)) hk1
   dsimp only [nn]
   refine ⟨_,by rw [add_lit,Nat.zero_add]; exact hc1 0 _ rfl,?_⟩
   refine ldL_o H1 (.there .here) (by rfl) ⟨⟨by omega,by rw [vs_len]; exact_mod_cast hkl⟩,?_⟩
   rw [Int.toNat_natCast]
   obtain ⟨d2,rfl,hc2⟩:=els_at (q:=q) (c:=c2) H1 (.there (.there (.there .here))) hk2
   dsimp only [nn]
   refine ⟨_,by rw [add_lit,Nat.zero_add]; exact hc2 0 _ rfl,?_⟩
   refine ⟨_,by rw [add_lit,add_lit,Nat.zero_add]; exact hc2 1 _ rfl,?_⟩
   have hx:(pairsd kv)[k]? = some [.int .i64 kv[k].1,.agg ([.int .i64 (kv[k].2).bits,.pointer (kv[k].2).ptr]:List Value).toArray]:=by simp [pairsd,hkl]
   refine callVal_mono (hstep k _ L [] wx hx hI (by rw [List.append_nil]; exact own_comm H)) ?_
   rintro _ w' ⟨bo,rfl,L',hL',H'⟩
   rw [List.append_nil] at H'
   refine ⟨_,rfl,?_⟩
   cases bo
   · exact cnd_i (fun _=>hstop _ _ hL' H') (fun h=>by cases h)
   · refine cnd_i (fun h=>by cases h) fun _=>?_
     rw [W_id (by omega) (by omega)]
     exact ⟨⟨_,⟨k + 1,L',by omega,by push_cast; rfl,hL',rfl⟩,own_comm H'⟩,by omega⟩
 · have hc:=of_decide_eq_false hc
   rw [ks_len] at hc
   have:k = (pairsd kv).length:=by simp [pairsd]; omega
   subst this
   exact hend _ _ hI (own_comm H)
structure Cm where
 op:Int
 dev:Int
 ev:Int
 num:Int
 coll:Int
 tgt:Int
 bits:Int
 addr:Int
 val:Bool
 deriving DecidableEq
def Cm.cells (c:Cm):List Value:=[.int .i64 c.op,.int .i64 c.dev,.int .i64 c.ev,.int .i64 c.num,.int .i64 c.coll,.int .i64 c.tgt,.int .i64 c.bits,.int .i64 c.addr,.bool c.val]
def cmV (c:Cm):Value:=.agg [.int .i64 c.op,.int .i64 c.dev,.int .i64 c.ev,.int .i64 c.num,.int .i64 c.coll,.int .i64 c.tgt,.int .i64 c.bits,.int .i64 c.addr,.bool c.val].toArray
def cm0:Cm:=⟨0,0,0,0,0,0,0,0,false⟩
def knownB (op:Int):Bool:=decide (op = 1∨(3≤op∧op≤5)∨(8≤op∧op≤15))
def pw (op:Int):Nat→Nat
 | 0=>0
 | 1=>1
 | 2=>if op = 14 then 3 else 1
 | 5=>1
 | _=>2
def pf (op:Int):Nat→Nat
 | 0=>32
 | 1=>0
 | 2=>if op = 14 then 16 else 32
 | 3=>0
 | 4=>16
 | 5=>0
 | 6=>8
 | _=>63
def ps (op:Int):Nat→Nat
 | 0=>32
 | 1=>32
 | 2=>if op = 14 then 16 else 32
 | 3=>16
 | 4=>16
 | 5=>5
 | 6=>40
 | _=>1
def ph (op:Int):Nat→Bool
 | 0=>decide (op≠9∧op≠13∧op≠14∧op≠5)
 | 1=>decide (op = 10∨op = 11∨op = 1∨op = 3∨op = 4∨op = 12∨op = 15)
 | 2=>decide (op = 14∨op = 10)
 | 3=>decide (op = 9∨op = 10∨op = 11∨op = 1∨op = 13)
 | 4=>decide (op = 9∨op = 14∨op = 5)
 | 5=>decide (op = 8)
 | 6=>decide (op = 8)
 | _=>decide (op = 8∨op = 9)
def Cm.get (c:Cm):Nat→Int
 | 0=>c.dev
 | 1=>c.ev
 | 2=>c.num
 | 3=>c.coll
 | 4=>c.tgt
 | 5=>c.bits
 | 6=>c.addr / 256
 | _=>if c.val then 1 else 0
def Cm.put (c:Cm) (n:Int):Nat→Cm
 | 0=>{ c with dev:=n }
 | 1=>{ c with ev:=n }
 | 2=>{ c with num:=n }
 | 3=>{ c with coll:=n }
 | 4=>{ c with tgt:=n }
 | 5=>{ c with bits:=n }
 | 6=>{ c with addr:=IntKind.i64.wrap (n * 256) }
 | _=>{ c with val:=n == 1 }
theorem Known_t (op:Int):Tri P F.zzgS [.int .i64 op] [] fun v L'=>v = .bool (knownB op)∧L' = []:=by
 intro w S hS
 refine zzl8 ?_
 unfold zzgS
 have H:=Own.start hS
 refine join_o ?_
 unfold zzkY
 have fin:∀ b:Bool,b = knownB op→∃ L',((Value.bool b) = .bool (knownB op)∧L' = [])∧X.Own w S L' w:=fun b h=>⟨_,⟨by rw [h],rfl⟩,H⟩
 refine cnd_i (fun h=>fin _ ?_) fun h=>cnd_i (fun h2=>cnd_i (fun h3=>fin _ ?_) fun h3=>cnd_i (fun h4=>fin _ ?_) fun h4=>fin _ ?_) fun h2=>cnd_i (fun h3=>fin _ ?_) fun h3=>fin _ ?_ <;>
 · unfold knownB
   simp only [beq_iff_eq,decide_eq_true_eq,beq_eq_false_iff_ne,ne_eq,decide_eq_false_iff_not] at *
   first
    | (symm; rw [decide_eq_true_eq]; omega)
    | (symm; rw [decide_eq_false_iff_not]; omega)
    | (rw [decide_eq_decide]; omega)
theorem parted_t (op:Int) (k:Nat) (hk:k < 8):Tri P F.zzeH [.int .i64 op,.int .i64 (k:Int)] [] fun v L' =>
 v = .tuple [.agg [.int .i64 ((pw op k:Nat):Int),.int .i64 ((pf op k:Nat):Int),.int .i64 ((ps op k:Nat):Int)].toArray,.bool (ph op k)].toArray∧L' = []:=by
 intro w S hS
 refine zzl0 ?_
 unfold zzeH
 have H:=Own.start hS
 refine alc_o H fun bx wx H=>?_
 have fin:∀ (x y z:Nat) (b:Bool) wx,X.Own w S [row bx [.int .i64 x,.int .i64 y,.int .i64 z] tPart] wx→x = pw op k→y = pf op k→z = ps op k→b = ph op k →
  ldI .i64 ⟨bx,0,none⟩ wx fun n=>ldI .i64 ⟨bx,1,none⟩ wx fun n'=>ldI .i64 ⟨bx,2,none⟩ wx fun n'' =>
  ∃ L',(Value.tuple [.agg [.int .i64 n,.int .i64 n',.int .i64 n''].toArray,.bool b].toArray = .tuple [.agg [.int .i64 ((pw op k:Nat):Int),.int .i64 ((pf op k:Nat):Int),.int .i64 ((ps op k:Nat):Int)].toArray,.bool (ph op k)].toArray∧L' = [])∧X.Own w S L' wx:=by
  intro x y z b wx H e1 e2 e3 e4
  repeat (first | refine lIa H ?_ | refine lLa H ?_ | refine lBa H ?_ | refine lPa H ?_ | refine lSa H ?_)
  exact ⟨_,⟨by rw [e1,e2,e3,e4],rfl⟩,H.dp⟩
 unfold zzj6 zzj7 zzj8 zzj9 zzka
 have hk:k = 0∨k = 1∨k = 2∨k = 3∨k = 4∨k = 5∨k = 6∨k = 7:=by omega
 rcases hk with rfl | rfl | rfl | rfl | rfl | rfl | rfl | rfl
 · refine cnd_i (fun _=>?_) (fun h=>by cases h)
   refine join_o ?_
   refine cnd_i (fun h1=>cnd_i (fun h2=>cnd_i (fun h3=>?_) fun h3=>?_) fun h2=>?_) fun h1=>?_ <;> (refine sta H fun wx H=>?_; refine sta H fun wx H=>?_; refine sta H fun wx H=>?_; refine fin 0 32 32 _ _ H rfl rfl rfl ?_; simp_all [ph])
   exact Bool.eq_iff_iff.2 (by simp)
 · refine cnd_i (fun h=>by cases h) (fun _=>?_)
   refine cnd_i (fun _=>?_) (fun h=>by cases h)
   refine join_o ?_
   refine cnd_i (fun h1=>?_) fun h1=>cnd_i (fun h2=>?_) fun h2=>cnd_i (fun h3=>?_) fun h3=>cnd_i (fun h4=>?_) fun h4=>cnd_i (fun h5=>?_) fun h5=>cnd_i (fun h6=>?_) fun h6=>?_ <;> (refine sta H fun wx H=>?_; refine sta H fun wx H=>?_; refine sta H fun wx H=>?_; refine fin 1 0 32 _ _ H rfl rfl rfl ?_; simp_all [ph])
   exact Bool.eq_iff_iff.2 (by simp)
 · refine cnd_i (fun h=>by cases h) (fun _=>?_)
   refine cnd_i (fun h=>by cases h) (fun _=>?_)
   refine cnd_i (fun _=>?_) (fun h=>by cases h)
   refine cnd_i (fun h1=>?_) fun h1=>?_
   · iterate 3 refine sta H fun wx H=>?_
     refine fin 3 16 16 _ _ H ?_ ?_ ?_ ?_ <;> simp_all [pw,pf,ps,ph]
   · iterate 3 refine sta H fun wx H=>?_
     refine fin 1 32 32 _ _ H ?_ ?_ ?_ ?_ <;> simp_all [pw,pf,ps,ph]
     exact Bool.eq_iff_iff.2 (by simp)
 · refine cnd_i (fun h=>by cases h) (fun _=>?_)
   refine cnd_i (fun h=>by cases h) (fun _=>?_)
   refine cnd_i (fun h=>by cases h) (fun _=>?_)
   refine cnd_i (fun _=>?_) (fun h=>by cases h)
   refine join_o ?_
   refine cnd_i (fun h1=>?_) fun h1=>cnd_i (fun h2=>?_) fun h2=>cnd_i (fun h3=>?_) fun h3=>cnd_i (fun h4=>?_) fun h4=>?_ <;> (refine sta H fun wx H=>?_; refine sta H fun wx H=>?_; refine sta H fun wx H=>?_; refine fin 2 0 16 _ _ H rfl rfl rfl ?_; simp_all [ph])
   exact Bool.eq_iff_iff.2 (by simp)
 · refine cnd_i (fun h=>by cases h) (fun _=>?_)
   refine cnd_i (fun h=>by cases h) (fun _=>?_)
   refine cnd_i (fun h=>by cases h) (fun _=>?_)
   refine cnd_i (fun h=>by cases h) (fun _=>?_)
   refine cnd_i (fun _=>?_) (fun h=>by cases h)
   refine join_o ?_
   refine cnd_i (fun h1=>?_) fun h1=>cnd_i (fun h2=>?_) fun h2=>?_ <;> (refine sta H fun wx H=>?_; refine sta H fun wx H=>?_; refine sta H fun wx H=>?_; refine fin 2 16 16 _ _ H rfl rfl rfl ?_; simp_all [ph])
   exact Bool.eq_iff_iff.2 (by simp)
 · refine cnd_i (fun h=>by cases h) (fun _=>?_)
   refine cnd_i (fun h=>by cases h) (fun _=>?_)
   refine cnd_i (fun h=>by cases h) (fun _=>?_)
   refine cnd_i (fun h=>by cases h) (fun _=>?_)
   refine cnd_i (fun h=>by cases h) (fun _=>?_)
   refine cnd_i (fun _=>?_) (fun h=>by cases h)
   iterate 3 refine sta H fun wx H=>?_
   exact fin 1 0 5 _ _ H rfl rfl rfl (Bool.eq_iff_iff.2 (by simp [ph]))
 · refine cnd_i (fun h=>by cases h) (fun _=>?_)
   refine cnd_i (fun h=>by cases h) (fun _=>?_)
   refine cnd_i (fun h=>by cases h) (fun _=>?_)
   refine cnd_i (fun h=>by cases h) (fun _=>?_)
   refine cnd_i (fun h=>by cases h) (fun _=>?_)
   refine cnd_i (fun h=>by cases h) (fun _=>?_)
   refine cnd_i (fun _=>?_) (fun h=>by cases h)
   iterate 3 refine sta H fun wx H=>?_
   exact fin 2 8 40 _ _ H rfl rfl rfl (Bool.eq_iff_iff.2 (by simp [ph]))
 · refine cnd_i (fun h=>by cases h) (fun _=>?_)
   refine cnd_i (fun h=>by cases h) (fun _=>?_)
   refine cnd_i (fun h=>by cases h) (fun _=>?_)
   refine cnd_i (fun h=>by cases h) (fun _=>?_)
   refine cnd_i (fun h=>by cases h) (fun _=>?_)
   refine cnd_i (fun h=>by cases h) (fun _=>?_)
   refine cnd_i (fun h=>by cases h) (fun _=>?_)
   refine join_o ?_
   refine cnd_i (fun h1=>?_) fun h1=>?_ <;> (refine sta H fun wx H=>?_; refine sta H fun wx H=>?_; refine sta H fun wx H=>?_; refine fin 2 63 1 _ _ H rfl rfl rfl ?_; simp_all [ph])
   exact Bool.eq_iff_iff.2 (by simp)
theorem get_t (c:Cm) (k:Nat) (hk:k < 8):Tri P F.zziE [cmV c,.int .i64 (k:Int)] [] fun v L'=>v = .int .i64 (c.get k)∧L' = []:=by
 intro w S hS
 refine zzmq ?_
 unfold zziE
 have H:=Own.start hS
 refine alc_o H fun bx wx H=>?_
 have hk:k = 0∨k = 1∨k = 2∨k = 3∨k = 4∨k = 5∨k = 6∨k = 7:=by omega
 rcases hk with rfl | rfl | rfl | rfl | rfl | rfl | rfl | rfl
 · refine cnd_i (fun _=>?_) (fun h=>by cases h)
   repeat (first | refine lIa H ?_ | refine lLa H ?_ | refine lBa H ?_ | refine lPa H ?_ | refine lSa H ?_)
   exact ⟨_,⟨rfl,rfl⟩,H.dp⟩
 · refine cnd_i (fun h=>by cases h) (fun _=>?_)
   refine cnd_i (fun _=>?_) (fun h=>by cases h)
   repeat (first | refine lIa H ?_ | refine lLa H ?_ | refine lBa H ?_ | refine lPa H ?_ | refine lSa H ?_)
   exact ⟨_,⟨rfl,rfl⟩,H.dp⟩
 · refine cnd_i (fun h=>by cases h) (fun _=>?_)
   refine cnd_i (fun h=>by cases h) (fun _=>?_)
   refine cnd_i (fun _=>?_) (fun h=>by cases h)
   repeat (first | refine lIa H ?_ | refine lLa H ?_ | refine lBa H ?_ | refine lPa H ?_ | refine lSa H ?_)
   exact ⟨_,⟨rfl,rfl⟩,H.dp⟩
 · refine cnd_i (fun h=>by cases h) (fun _=>?_)
   refine cnd_i (fun h=>by cases h) (fun _=>?_)
   refine cnd_i (fun h=>by cases h) (fun _=>?_)
   refine cnd_i (fun _=>?_) (fun h=>by cases h)
   repeat (first | refine lIa H ?_ | refine lLa H ?_ | refine lBa H ?_ | refine lPa H ?_ | refine lSa H ?_)
   exact ⟨_,⟨rfl,rfl⟩,H.dp⟩
 · refine cnd_i (fun h=>by cases h) (fun _=>?_)
   refine cnd_i (fun h=>by cases h) (fun _=>?_)
   refine cnd_i (fun h=>by cases h) (fun _=>?_)
   refine cnd_i (fun h=>by cases h) (fun _=>?_)
   refine cnd_i (fun _=>?_) (fun h=>by cases h)
   repeat (first | refine lIa H ?_ | refine lLa H ?_ | refine lBa H ?_ | refine lPa H ?_ | refine lSa H ?_)
   exact ⟨_,⟨rfl,rfl⟩,H.dp⟩
 · refine cnd_i (fun h=>by cases h) (fun _=>?_)
   refine cnd_i (fun h=>by cases h) (fun _=>?_)
   refine cnd_i (fun h=>by cases h) (fun _=>?_)
   refine cnd_i (fun h=>by cases h) (fun _=>?_)
   refine cnd_i (fun h=>by cases h) (fun _=>?_)
   refine cnd_i (fun _=>?_) (fun h=>by cases h)
   repeat (first | refine lIa H ?_ | refine lLa H ?_ | refine lBa H ?_ | refine lPa H ?_ | refine lSa H ?_)
   exact ⟨_,⟨rfl,rfl⟩,H.dp⟩
 · refine cnd_i (fun h=>by cases h) (fun _=>?_)
   refine cnd_i (fun h=>by cases h) (fun _=>?_)
   refine cnd_i (fun h=>by cases h) (fun _=>?_)
   refine cnd_i (fun h=>by cases h) (fun _=>?_)
   refine cnd_i (fun h=>by cases h) (fun _=>?_)
   refine cnd_i (fun h=>by cases h) (fun _=>?_)
   refine cnd_i (fun _=>?_) (fun h=>by cases h)
   repeat (first | refine lIa H ?_ | refine lLa H ?_ | refine lBa H ?_ | refine lPa H ?_ | refine lSa H ?_)
   refine ⟨by decide,_,⟨?_,rfl⟩,H.dp⟩
   show Value.int .i64 (Int.fdiv c.addr 256) = _
   rw [Int.fdiv_eq_ediv_of_nonneg _ (by decide)]; rfl
 · refine cnd_i (fun h=>by cases h) (fun _=>?_)
   refine cnd_i (fun h=>by cases h) (fun _=>?_)
   refine cnd_i (fun h=>by cases h) (fun _=>?_)
   refine cnd_i (fun h=>by cases h) (fun _=>?_)
   refine cnd_i (fun h=>by cases h) (fun _=>?_)
   refine cnd_i (fun h=>by cases h) (fun _=>?_)
   refine cnd_i (fun h=>by cases h) (fun _=>?_)
   repeat (first | refine lIa H ?_ | refine lLa H ?_ | refine lBa H ?_ | refine lPa H ?_ | refine lSa H ?_)
   refine cnd_i (fun h=>?_) fun h=>?_ <;> exact ⟨_,⟨by simp [Cm.get,h],rfl⟩,H.dp⟩
theorem put_t' (b:Nat) (c:Cm) (k:Nat) (hk:k < 8) (n:Int):Tri P F.zziG [.pointer (some ⟨b,0,none⟩),.int .i64 (k:Int),.int .i64 n] [row b c.cells tCmd] fun v L'=>v = .tuple [].toArray∧L' = [row b (c.put n k).cells tCmd]:=by
 intro w S hS
 refine zzms ?_
 unfold zziG
 have H:=Own.start hS
 refine join_o ?_
 unfold zzlP
 unfold Cm.cells at H
 have hk:k = 0∨k = 1∨k = 2∨k = 3∨k = 4∨k = 5∨k = 6∨k = 7:=by omega
 rcases hk with rfl | rfl | rfl | rfl | rfl | rfl | rfl | rfl
 · refine cnd_i (fun _=>?_) (fun h=>by cases h)
   show st1 _ _ _ _
   rw [add_lit]
   refine sta H fun wx H=>?_
   exact ⟨_,⟨rfl,rfl⟩,H⟩
 · refine cnd_i (fun h=>by cases h) (fun _=>?_)
   refine cnd_i (fun _=>?_) (fun h=>by cases h)
   show st1 _ _ _ _
   rw [add_lit]
   refine sta H fun wx H=>?_
   exact ⟨_,⟨rfl,rfl⟩,H⟩
 · refine cnd_i (fun h=>by cases h) (fun _=>?_)
   refine cnd_i (fun h=>by cases h) (fun _=>?_)
   refine cnd_i (fun _=>?_) (fun h=>by cases h)
   show st1 _ _ _ _
   rw [add_lit]
   refine sta H fun wx H=>?_
   exact ⟨_,⟨rfl,rfl⟩,H⟩
 · refine cnd_i (fun h=>by cases h) (fun _=>?_)
   refine cnd_i (fun h=>by cases h) (fun _=>?_)
   refine cnd_i (fun h=>by cases h) (fun _=>?_)
   refine cnd_i (fun _=>?_) (fun h=>by cases h)
   show st1 _ _ _ _
   rw [add_lit]
   refine sta H fun wx H=>?_
   exact ⟨_,⟨rfl,rfl⟩,H⟩
 · refine cnd_i (fun h=>by cases h) (fun _=>?_)
   refine cnd_i (fun h=>by cases h) (fun _=>?_)
   refine cnd_i (fun h=>by cases h) (fun _=>?_)
   refine cnd_i (fun h=>by cases h) (fun _=>?_)
   refine cnd_i (fun _=>?_) (fun h=>by cases h)
   show st1 _ _ _ _
   rw [add_lit]
   refine sta H fun wx H=>?_
   exact ⟨_,⟨rfl,rfl⟩,H⟩
 · refine cnd_i (fun h=>by cases h) (fun _=>?_)
   refine cnd_i (fun h=>by cases h) (fun _=>?_)
   refine cnd_i (fun h=>by cases h) (fun _=>?_)
   refine cnd_i (fun h=>by cases h) (fun _=>?_)
   refine cnd_i (fun h=>by cases h) (fun _=>?_)
   refine cnd_i (fun _=>?_) (fun h=>by cases h)
   show st1 _ _ _ _
   rw [add_lit]
   refine sta H fun wx H=>?_
   exact ⟨_,⟨rfl,rfl⟩,H⟩
 · refine cnd_i (fun h=>by cases h) (fun _=>?_)
   refine cnd_i (fun h=>by cases h) (fun _=>?_)
   refine cnd_i (fun h=>by cases h) (fun _=>?_)
   refine cnd_i (fun h=>by cases h) (fun _=>?_)
   refine cnd_i (fun h=>by cases h) (fun _=>?_)
   refine cnd_i (fun h=>by cases h) (fun _=>?_)
   refine cnd_i (fun _=>?_) (fun h=>by cases h)
   refine ⟨by decide,?_⟩
   show st1 _ _ _ _
   rw [add_lit]
   refine sta H fun wx H=>?_
   exact ⟨_,⟨rfl,rfl⟩,H⟩
 · refine cnd_i (fun h=>by cases h) (fun _=>?_)
   refine cnd_i (fun h=>by cases h) (fun _=>?_)
   refine cnd_i (fun h=>by cases h) (fun _=>?_)
   refine cnd_i (fun h=>by cases h) (fun _=>?_)
   refine cnd_i (fun h=>by cases h) (fun _=>?_)
   refine cnd_i (fun h=>by cases h) (fun _=>?_)
   refine cnd_i (fun h=>by cases h) (fun _=>?_)
   show st1 _ _ _ _
   rw [add_lit]
   refine sta H fun wx H=>?_
   exact ⟨_,⟨rfl,rfl⟩,H⟩
theorem eqA_eql {t:TypeId} {xs ys:Array Value} {r:Bool} {w:World} {K:Bool→Prop} (hS:P.underlying t = some (.struct (P.fieldsOf t))) (hp:P.stoodInHeld t = false) (hm:P.eqGuardType P.depth t = false)
 (hr:(Op.eqFields 9999 xs ys (P.fieldsOf t).toList).run P w = .ok r w) (hk:K r):eqA P .eql t (.agg xs) (.agg ys) w K:=by
 refine ⟨run_eqGuard_agg w _ _ _ _ _ _ hm,r,?_,hk⟩
 rw [run_eql_struct,show (10000:Nat) = 9999 + 1 from rfl,run_equalIn_agg w 9999 t _ _ hS hp,hr]; rfl
theorem eqA_neq {t:TypeId} {xs ys:Array Value} {r:Bool} {w:World} {K:Bool→Prop} (hS:P.underlying t = some (.struct (P.fieldsOf t))) (hp:P.stoodInHeld t = false) (hm:P.eqGuardType P.depth t = false)
 (hr:(Op.eqFields 9999 xs ys (P.fieldsOf t).toList).run P w = .ok r w) (hk:K (!r)):eqA P .neq t (.agg xs) (.agg ys) w K:=by
 refine ⟨run_eqGuard_agg w _ _ _ _ _ _ hm,!r,?_,hk⟩
 rw [run_neq_struct,show (10000:Nat) = 9999 + 1 from rfl,run_equalIn_agg w 9999 t _ _ hS hp,hr]; rfl
theorem eqA_arr {t e:TypeId} {n:Nat} {xs ys:Array Value} {r:Bool} {w:World} {K:Bool→Prop} (hu:P.underlying t = some (.array n e)) (hi:(P.info? e).isSome = true) (hm:P.eqGuardType P.depth t = false)
 (hr:(Op.eqItems 9999 e (P.cellsOf e) xs ys (List.range n)).run P w = .ok r w) (hk:K (!r)):eqA P .neq t (.agg xs) (.agg ys) w K:=by
 obtain ⟨i,hi⟩:=Option.isSome_iff_exists.1 hi
 refine ⟨run_eqGuard_agg w _ _ _ _ _ _ hm,!r,?_,hk⟩
 rw [run_neq_struct,show (10000:Nat) = 9999 + 1 from rfl,run_equalIn_array w 9999 xs ys hu hi,hr]; rfl
theorem w4_items (a0 a1 a2 a3 x0 x1 x2 x3:Int) (w:World):(Op.eqItems 9999 61 (P.cellsOf 61) [.int .u64 x0,.int .u64 x1,.int .u64 x2,.int .u64 x3].toArray [.int .u64 a0,.int .u64 a1,.int .u64 a2,.int .u64 a3].toArray (List.range 4)).run P w = .ok (decide ([x0,x1,x2,x3] = [a0,a1,a2,a3])) w:=by
 rw [show P.cellsOf 61 = 1 by kernel_rfl,show List.range 4 = [0,1,2,3] from rfl]
 have u:=Tryz.underlying61
 have a:=Tryz.isAgg61
 have z:=Tryz.sizeOf61
 simp only [Op.eqItems]
 go_simp
 by_cases h0:x0 = a0 <;> by_cases h1:x1 = a1 <;> by_cases h2:x2 = a2 <;> by_cases h3:x3 = a3 <;> simp [h0,h1,h2,h3]
theorem eq4 {a0 a1 a2 a3 x0 x1 x2 x3:Int} {w:World} {K:Bool→Prop} (hK:K (!decide ([x0,x1,x2,x3] = [a0,a1,a2,a3]))) :
 eqA P .neq tW4 (.agg [.int .u64 x0,.int .u64 x1,.int .u64 x2,.int .u64 x3].toArray) (.agg [.int .u64 a0,.int .u64 a1,.int .u64 a2,.int .u64 a3].toArray) w K :=
 eqA_arr Tryz.underlying90 (by kernel_rfl) (by kernel_rfl) (w4_items a0 a1 a2 a3 x0 x1 x2 x3 w) hK
theorem cm_fields (c d:Cm) (w:World):(Op.eqFields 9999 c.cells.toArray d.cells.toArray (P.fieldsOf tCmd).toList).run P w = .ok (decide (c = d)) w:=by
 obtain ⟨c0,c1,c2,c3,c4,c5,c6,c7,c8⟩:=c
 obtain ⟨d0,d1,d2,d3,d4,d5,d6,d7,d8⟩:=d
 simp only [Program.fieldsOf,Tryz.underlying26,Cm.cells,tCmd]
 have u3:=Tryz.underlying3
 have a3:=Tryz.isAgg3
 have z3:=Tryz.sizeOf3
 have u4:=Tryz.underlying4
 have a4:=Tryz.isAgg4
 have z4:=Tryz.sizeOf4
 have u38:=Tryz.underlying24
 have a38:=Tryz.isAgg24
 have z38:=Tryz.sizeOf24
 go_simp
 repeat' split
 all_goals simp_all
theorem cm_eq {c d:Cm} {w:World} {K:Bool→Prop} (h:K (decide (c = d))):eqA P .eql tCmd (cmV c) (cmV d) w K :=
 eqA_eql (by kernel_rfl) (by kernel_rfl) (by kernel_rfl) (cm_fields c d w) h
theorem cm_ne {c d:Cm} {w:World} {K:Bool→Prop} (h:K (!decide (c = d))):eqA P .neq tCmd (cmV c) (cmV d) w K :=
 eqA_neq (by kernel_rfl) (by kernel_rfl) (by kernel_rfl) (cm_fields c d w) h
def wI (ws:List Int):List Value:=ws.map fun n=>.int .u64 n
theorem wI_length (ws:List Int):(wI ws).length = ws.length:=by simp [wI]
theorem wI_get {ws:List Int} {i:Nat} (h:i < ws.length):(wI ws)[i]? = some (.int .u64 (ws.getD i 0)):=by simp [wI,h]
theorem wI_set (ws:List Int) (i:Nat) (n:Int):(wI ws).set i (.int .u64 n) = wI (ws.set i n):=by simp [wI]
def insB (a n:Int) (f:Nat):Int:=bitX .or .u64 a (IntKind.u64.wrap ((IntKind.u64.wrap n) * 2 ^ min (Int.toNat (f:Int)) IntKind.u64.bits))
def ext (a:Int) (f s:Nat):Int:=IntKind.i64.wrap (bitX .and .u64 (Int.fdiv a (2 ^ min (Int.toNat (f:Int)) IntKind.u64.bits)) (IntKind.u64.wrap ((IntKind.u64.wrap (1 * 2 ^ min (Int.toNat (s:Int)) IntKind.u64.bits)) - 1)))
def badB (c:Cm) (k:Nat):Bool:=(!ph c.op k && (c.get k != 0)) || (decide (c.get k < 0) || decide (c.get k≥IntKind.i64.wrap (1 * 2 ^ min (Int.toNat ((ps c.op k:Nat):Int)) IntKind.i64.bits)))
def wd (c:Cm):Nat→List Int
 | 0=>[IntKind.u64.wrap c.op,0,0,0]
 | k + 1=>if ph c.op k then (wd c k).set (pw c.op k) (insB ((wd c k).getD (pw c.op k) 0) (c.get k) (pf c.op k)) else wd c k
theorem wd_length (c:Cm):∀ k,(wd c k).length = 4
 | 0=>rfl
 | k + 1=>by unfold wd; split <;> simp [wd_length c k]
theorem pw_lt (op:Int) (k:Nat):pw op k < 4:=by unfold pw; split <;> (try split) <;> omega
def badC (c:Cm):Bool:=!knownB c.op || (bitX .and .i64 c.addr 255 != 0)
def encM (c:Cm):Option (List Int):=if badC c then none else if (List.range 8).any (badB c) then none else some (wd c 8)
def encV (c:Cm):Value:=match encM c with
 | some ws=>.tuple [.agg (wI ws).toArray,.int .i64 0].toArray
 | none=>.tuple [.agg (wI [0,0,0,0]).toArray,.int .i64 160].toArray
theorem four {ws:List Int} (h:ws.length = 4):∃ a b c d,ws = [a,b,c,d]:=by
 match ws,h with
 | [a,b,c,d],_=>exact ⟨a,b,c,d,rfl⟩
theorem Encode_t (c:Cm):Tri P F.zzeG [cmV c] [] fun v L'=>v = encV c∧L' = []:=by
 intro w S hS
 refine zzlY ?_
 unfold zzeG
 have H:=Own.start hS
 refine alc_o H fun b10 wx H=>alc_o H fun b12 wx H=>?_
 repeat (first | refine lIa H ?_ | refine lLa H ?_ | refine lBa H ?_ | refine lPa H ?_ | refine lSa H ?_)
 refine alc_o H fun b15 wx H=>?_
 iterate 4 refine sta H fun wx H=>?_
 have badE:encM c = none→∀ wx,X.Own w S [row b15 (wI (wd c 0)) tW4,row b12 [.int .u64 0,.int .u64 0,.int .u64 0,.int .u64 0] tW4,row b10 c.cells tCmd] wx→∃ L',(Value.tuple [.agg [.int .u64 0,.int .u64 0,.int .u64 0,.int .u64 0].toArray,.int .i64 160].toArray = encV c∧L' = [])∧X.Own w S L' wx:=by
  intro e wx H
  exact ⟨_,⟨by unfold encV; rw [e]; rfl,rfl⟩,H.dp⟩
 refine join_o ?_
 repeat (first | refine lIa H ?_ | refine lLa H ?_ | refine lBa H ?_ | refine lPa H ?_ | refine lSa H ?_)
 refine call_pa H (Known_t c.op) fun wx H=>?_
 refine ⟨_,rfl,?_⟩
 have bad:badC c = true→zzeY (fun v w'=>∃ L',(v = encV c∧L' = [])∧X.Own w S L' w') b10 b12 b15 true wx:=by
  intro hb
  unfold zzeY
  refine cnd_i (fun _=>?_) (fun h=>by cases h)
  iterate 4 refine sta H fun wx H=>?_
  repeat (first | refine lIa H ?_ | refine lLa H ?_ | refine lBa H ?_ | refine lPa H ?_ | refine lSa H ?_)
  have e:encM c = none:=by unfold encM; rw [if_pos hb]
  exact ⟨_,⟨by unfold encV; rw [e]; rfl,rfl⟩,H.dp⟩
 refine cnd_i (fun h=>bad (by unfold badC; rw [h]; rfl)) fun h=>?_
 repeat (first | refine lIa H ?_ | refine lLa H ?_ | refine lBa H ?_ | refine lPa H ?_ | refine lSa H ?_)
 cases h2:(bitX .and .i64 c.addr 255 != 0)
 · refine (?_:zzeY _ b10 b12 b15 false wx)
   have hb:badC c = false:=by unfold badC; rw [h,h2]; rfl
   unfold zzeY
   refine cnd_i (fun h=>by cases h) fun _=>?_
   refine loop_o (fun (st:Int) L=>∃ k:Nat,k≤8∧(∀ j,j < k→badB c j = false)∧st = k∧L = [row b15 (wI (wd c k)) tW4,row b12 [.int .u64 0,.int .u64 0,.int .u64 0,.int .u64 0] tW4,row b10 c.cells tCmd])
    (fun (st:Int)=>(8 - st).toNat) H ⟨0,by omega,fun _ h=>absurd h (by omega),rfl,rfl⟩ ?_
   rintro _ _ wx ⟨k,hk,hg,rfl,rfl⟩ H
   unfold zzj5
   refine cnd_i (fun hc=>join_o ?_) fun hc=>?_
   · have hc:=of_decide_eq_true hc
     have hk8:k < 8:=by omega
     repeat (first | refine lIa H ?_ | refine lLa H ?_ | refine lBa H ?_ | refine lPa H ?_ | refine lSa H ?_)
     refine call_pa H (parted_t c.op k hk8) fun wx H=>?_
     refine ⟨_,_,_,_,rfl,?_⟩
     refine alc_o H fun b45 wx H=>?_
     iterate 3 refine sta H fun wx H=>?_
     repeat (first | refine lIa H ?_ | refine lLa H ?_ | refine lBa H ?_ | refine lPa H ?_ | refine lSa H ?_)
     refine call_pa H (get_t c k hk8) fun wx H=>?_
     refine ⟨_,rfl,join_o ?_⟩
     have fin:∀ bb:Bool,bb = badB c k→∀ wx,X.Own w S [row b45 [.int .i64 ((pw c.op k:Nat):Int),.int .i64 ((pf c.op k:Nat):Int),.int .i64 ((ps c.op k:Nat):Int)] tPart,row b15 (wI (wd c k)) tW4,row b12 [.int .u64 0,.int .u64 0,.int .u64 0,.int .u64 0] tW4,row b10 c.cells tCmd] wx →
      zzhW (fun v w'=>∃ L',(v = encV c∧L' = [])∧X.Own w S L' w') b12 b15 (fun s85 w86=>zzhV (k:Int) (fun (s':Int) w'=>(∃ L',(∃ k:Nat,k≤8∧(∀ j,j < k→badB c j = false)∧s' = k∧L' = [row b15 (wI (wd c k)) tW4,row b12 [.int .u64 0,.int .u64 0,.int .u64 0,.int .u64 0] tW4,row b10 c.cells tCmd])∧X.Own w S L' w')∧(8 - s').toNat < (8 - (k:Int)).toNat) w86) (ph c.op k) b45 (c.get k) bb wx:=by
      intro bb hbb wx H
      unfold zzhW
      refine cnd_i (fun h=>?_) fun h=>?_
      · iterate 4 refine sta H fun wx H=>?_
        repeat (first | refine lIa H ?_ | refine lLa H ?_ | refine lBa H ?_ | refine lPa H ?_ | refine lSa H ?_)
        have e:encM c = none:=by
         unfold encM
         rw [hb,if_neg (by decide),if_pos (List.any_eq_true.2 ⟨k,List.mem_range.2 hk8,by rw [← hbb,h]⟩)]
        exact ⟨_,⟨by unfold encV; rw [e]; rfl,rfl⟩,H.dp⟩
      have hg':∀ j,j < k + 1→badB c j = false:=by
       intro j hj
       by_cases e:j = k
       · rw [e,← hbb,h]
       · exact hg j (by omega)
      unfold zzhV
      have e1:IntKind.i64.wrap ((k:Int) + 1) = ((k + 1:Nat):Int):=by rw [W_id (by omega) (by omega)]; push_cast; rfl
      rw [e1]
      refine cnd_i (fun hh=>?_) fun hh=>?_
      · refine drw_o H fun wx H=>?_
        repeat (first | refine lIa H ?_ | refine lLa H ?_ | refine lBa H ?_ | refine lPa H ?_ | refine lSa H ?_)
        refine ix_i (pw_lt c.op k) ?_
        rw [add_lit,Nat.mul_one,Nat.zero_add]
        refine ldI_o H (by repeat (first | exact Pick.here | apply Pick.there)) (wI_get (by rw [wd_length]; exact pw_lt _ _)) ?_
        repeat (first | refine lIa H ?_ | refine lLa H ?_ | refine lBa H ?_ | refine lPa H ?_ | refine lSa H ?_)
        refine ⟨by omega,ix_i (pw_lt c.op k) ?_⟩
        rw [add_lit,Nat.mul_one,Nat.zero_add]
        refine st1_o H (by repeat (first | exact Rep.here | apply Rep.there)) (by rw [wI_length,wd_length]; exact pw_lt _ _) fun wx H=>⟨⟨[row b15 (wI (wd c (k + 1))) tW4,row b12 [.int .u64 0,.int .u64 0,.int .u64 0,.int .u64 0] tW4,row b10 c.cells tCmd],⟨k + 1,by omega,hg',rfl,rfl⟩,?_⟩,by omega⟩
        have e2:wd c (k + 1) = (wd c k).set (pw c.op k) (insB ((wd c k).getD (pw c.op k) 0) (c.get k) (pf c.op k)):=by
         conv=>lhs; unfold wd
         rw [hh,if_pos rfl]
        rw [e2,← wI_set]
        exact H.dp
      · refine ⟨⟨[row b15 (wI (wd c (k + 1))) tW4,row b12 [.int .u64 0,.int .u64 0,.int .u64 0,.int .u64 0] tW4,row b10 c.cells tCmd],⟨k + 1,by omega,hg',rfl,rfl⟩,?_⟩,by omega⟩
        have e2:wd c (k + 1) = wd c k:=by
         conv=>lhs; unfold wd
         rw [hh,if_neg (by decide)]
        rw [e2]
        exact H.dp
     have lt1:∀ wx,X.Own w S [row b45 [.int .i64 ((pw c.op k:Nat):Int),.int .i64 ((pf c.op k:Nat):Int),.int .i64 ((ps c.op k:Nat):Int)] tPart,row b15 (wI (wd c k)) tW4,row b12 [.int .u64 0,.int .u64 0,.int .u64 0,.int .u64 0] tW4,row b10 c.cells tCmd] wx→True:=fun _ _=>trivial
     refine cnd_i (fun h1=>cnd_i (fun h2=>?_) fun h2=>cnd_i (fun h3=>?_) fun h3=>?_) fun h1=>cnd_i (fun h3=>?_) fun h3=>?_
     · exact fin _ (by unfold badB; rw [h1,h2]; rfl) _ H
     · exact fin _ (by unfold badB; rw [h3]; simp) _ H
     · repeat (first | refine lIa H ?_ | refine lLa H ?_ | refine lBa H ?_ | refine lPa H ?_ | refine lSa H ?_)
       refine ⟨by omega,fin _ ?_ _ H⟩
       unfold badB; rw [h2,h3]; simp
     · exact fin _ (by unfold badB; rw [h3]; simp) _ H
     · repeat (first | refine lIa H ?_ | refine lLa H ?_ | refine lBa H ?_ | refine lPa H ?_ | refine lSa H ?_)
       refine ⟨by omega,fin _ ?_ _ H⟩
       unfold badB; rw [h1,h3]; simp
   · have hc:=of_decide_eq_false hc
     have:k = 8:=by omega
     subst this
     obtain ⟨x0,x1,x2,x3,hx⟩:=four (wd_length c 8)
     have e:encM c = some [x0,x1,x2,x3]:=by
      unfold encM
      rw [hb,if_neg (by decide),if_neg,hx]
      intro ha
      obtain ⟨j,hj,hj'⟩:=List.any_eq_true.1 ha
      rw [hg j (List.mem_range.1 hj)] at hj'
      cases hj'
     rw [hx] at H
     repeat (first | refine lIa H ?_ | refine lLa H ?_ | refine lBa H ?_ | refine lPa H ?_ | refine lSa H ?_)
     iterate 4 refine sta H fun wx H=>?_
     repeat (first | refine lIa H ?_ | refine lLa H ?_ | refine lBa H ?_ | refine lPa H ?_ | refine lSa H ?_)
     exact ⟨_,⟨by unfold encV; rw [e]; rfl,rfl⟩,H.dp⟩
 · exact bad (by unfold badC; rw [h2]; simp)
def cd (ws:List Int):Nat→Cm
 | 0=>{ cm0 with op:=IntKind.i64.wrap (bitX .and .u64 (ws.getD 0 0) 255) }
 | k + 1=>if ph (cd ws k).op k then (cd ws k).put (ext (ws.getD (pw (cd ws k).op k) 0) (pf (cd ws k).op k) (ps (cd ws k).op k)) k else cd ws k
def decM (ws:List Int):Option Cm:=if encM (cd ws 8) = some ws then some (cd ws 8) else none
def decV (ws:List Int):Value:=match decM ws with
 | some c=>.tuple [cmV c,.int .i64 0].toArray
 | none=>.tuple [cmV cm0,.int .i64 160].toArray
theorem Decode_t (a0 a1 a2 a3:Int):Tri P F.zzfT [.agg (wI [a0,a1,a2,a3]).toArray] [] fun v L'=>v = decV [a0,a1,a2,a3]∧L' = []:=by
 intro w S hS
 refine zzl3 ?_
 unfold zzfT
 have H:=Own.start hS
 refine alc_o H fun b5 wx H=>alc_o H fun b7 wx H=>ix_i (i:=0) (by omega) ?_
 rw [add_lit]
 repeat (first | refine lIa H ?_ | refine lLa H ?_ | refine lBa H ?_ | refine lPa H ?_ | refine lSa H ?_)
 refine alc_o H fun b11 wx H=>?_
 iterate 9 refine sta H fun wx H=>?_
 generalize hws:[a0,a1,a2,a3] = ws at *
 have hl:ws.length = 4:=by rw [← hws]; rfl
 refine loop_o (fun (st:Int) L=>∃ k:Nat,k≤8∧st = k∧L = [row b11 (cd ws k).cells tCmd,row b7 [.int .i64 0,.int .i64 0,.int .i64 0,.int .i64 0,.int .i64 0,.int .i64 0,.int .i64 0,.int .i64 0,.bool false] tCmd,row b5 (wI ws) tW4])
  (fun (st:Int)=>(8 - st).toNat) H ⟨0,by omega,rfl,by rw [← hws]; rfl⟩ ?_
 rintro _ _ wx ⟨k,hk,rfl,rfl⟩ H
 unfold zzkc
 refine cnd_i (fun hc=>join_o ?_) fun hc=>?_
 · have hc:=of_decide_eq_true hc
   have hk8:k < 8:=by omega
   repeat (first | refine lIa H ?_ | refine lLa H ?_ | refine lBa H ?_ | refine lPa H ?_ | refine lSa H ?_)
   refine call_pa H (parted_t (cd ws k).op k hk8) fun wx H=>?_
   refine ⟨_,_,_,_,rfl,?_⟩
   refine alc_o H fun b35 wx H=>?_
   iterate 3 refine sta H fun wx H=>?_
   unfold zzkb
   have e1:IntKind.i64.wrap ((k:Int) + 1) = ((k + 1:Nat):Int):=by rw [W_id (by omega) (by omega)]; push_cast; rfl
   rw [e1]
   refine cnd_i (fun hh=>?_) fun hh=>?_
   · refine drw_o H fun wx H=>?_
     repeat (first | refine lIa H ?_ | refine lLa H ?_ | refine lBa H ?_ | refine lPa H ?_ | refine lSa H ?_)
     refine ix_i (pw_lt _ k) ?_
     rw [add_lit,Nat.mul_one,Nat.zero_add]
     refine ldI_o H (by repeat (first | exact Pick.here | apply Pick.there)) (wI_get (by rw [hl]; exact pw_lt _ _)) ?_
     repeat (first | refine lIa H ?_ | refine lLa H ?_ | refine lBa H ?_ | refine lPa H ?_ | refine lSa H ?_)
     refine ⟨by omega,?_⟩
     repeat (first | refine lIa H ?_ | refine lLa H ?_ | refine lBa H ?_ | refine lPa H ?_ | refine lSa H ?_)
     refine ⟨by omega,?_⟩
     refine call_oa H (put_t' b11 (cd ws k) k hk8 _) fun vx L' wx hq H=>?_
     obtain ⟨rfl,rfl⟩:=hq
     simp only [List.cons_append,List.nil_append] at H
     refine ⟨rfl,⟨[row b11 (cd ws (k + 1)).cells tCmd,row b7 [.int .i64 0,.int .i64 0,.int .i64 0,.int .i64 0,.int .i64 0,.int .i64 0,.int .i64 0,.int .i64 0,.bool false] tCmd,row b5 (wI ws) tW4],⟨k + 1,by omega,rfl,rfl⟩,?_⟩,by omega⟩
     have e2:cd ws (k + 1) = (cd ws k).put (ext (ws.getD (pw (cd ws k).op k) 0) (pf (cd ws k).op k) (ps (cd ws k).op k)) k:=by
      conv=>lhs; unfold cd
      rw [hh,if_pos rfl]
     rw [e2]
     exact H.dp
   · refine ⟨⟨[row b11 (cd ws (k + 1)).cells tCmd,row b7 [.int .i64 0,.int .i64 0,.int .i64 0,.int .i64 0,.int .i64 0,.int .i64 0,.int .i64 0,.int .i64 0,.bool false] tCmd,row b5 (wI ws) tW4],⟨k + 1,by omega,rfl,rfl⟩,?_⟩,by omega⟩
     have e2:cd ws (k + 1) = cd ws k:=by
      conv=>lhs; unfold cd
      rw [hh,if_neg (by decide)]
     rw [e2]
     exact H.dp
 · have hc:=of_decide_eq_false hc
   have:k = 8:=by omega
   subst this
   repeat (first | refine lIa H ?_ | refine lLa H ?_ | refine lBa H ?_ | refine lPa H ?_ | refine lSa H ?_)
   refine call_pa H (Encode_t (cd ws 8)) fun wx H=>?_
   have hd:decV ws = if encM (cd ws 8) = some ws then .tuple [cmV (cd ws 8),.int .i64 0].toArray else .tuple [cmV cm0,.int .i64 160].toArray:=by
    unfold decV decM; split <;> split <;> simp_all
   have fin:∀ bb:Bool,(bb = true↔encM (cd ws 8)≠some ws)→∀ wx,∀ b66 xs,X.Own w S [row b66 xs tW4,row b11 (cd ws 8).cells tCmd,row b7 [.int .i64 0,.int .i64 0,.int .i64 0,.int .i64 0,.int .i64 0,.int .i64 0,.int .i64 0,.int .i64 0,.bool false] tCmd,row b5 (wI ws) tW4] wx →
    zzh8 (fun v w'=>∃ L',(v = decV ws∧L' = [])∧X.Own w S L' w') b7 b11 bb wx:=by
    intro bb hbb wx b66 xs H
    unfold zzh8
    rw [hd]
    refine cnd_i (fun h=>?_) fun h=>?_
    · rw [if_neg (hbb.1 h)]
      iterate 9 refine sta H fun wx H=>?_
      repeat (first | refine lIa H ?_ | refine lLa H ?_ | refine lBa H ?_ | refine lPa H ?_ | refine lSa H ?_)
      exact ⟨_,⟨rfl,rfl⟩,H.dp⟩
    · rw [if_pos (Classical.not_not.1 fun hn=>by rw [hbb.2 hn] at h; cases h)]
      repeat (first | refine lIa H ?_ | refine lLa H ?_ | refine lBa H ?_ | refine lPa H ?_ | refine lSa H ?_)
      iterate 9 refine sta H fun wx H=>?_
      repeat (first | refine lIa H ?_ | refine lLa H ?_ | refine lBa H ?_ | refine lPa H ?_ | refine lSa H ?_)
      exact ⟨_,⟨rfl,rfl⟩,H.dp⟩
   cases he:encM (cd ws 8) with
   | none =>
    have e:encV (cd ws 8) = .tuple [.agg [.int .u64 0,.int .u64 0,.int .u64 0,.int .u64 0].toArray,.int .i64 160].toArray:=by unfold encV; rw [he]; rfl
    rw [e]
    refine ⟨_,_,_,_,_,rfl,?_⟩
    refine alc_o H fun b66 wx H=>?_
    iterate 4 refine sta H fun wx H=>?_
    refine join_o (cnd_i (fun _=>?_) (fun h=>by cases h))
    exact fin true (by rw [he]; simp) _ _ _ H
   | some xs =>
    have hx4:xs.length = 4:=by
     unfold encM at he
     split at he
     · cases he
     split at he
     · cases he
     · cases he; exact wd_length _ _
    obtain ⟨x0,x1,x2,x3,rfl⟩:=four hx4
    have e:encV (cd ws 8) = .tuple [.agg [.int .u64 x0,.int .u64 x1,.int .u64 x2,.int .u64 x3].toArray,.int .i64 0].toArray:=by unfold encV; rw [he]; rfl
    rw [e]
    refine ⟨_,_,_,_,_,rfl,?_⟩
    refine alc_o H fun b66 wx H=>?_
    iterate 4 refine sta H fun wx H=>?_
    refine join_o (cnd_i (fun h=>by cases h) fun _=>?_)
    subst hws
    repeat (first | refine lIa H ?_ | refine lLa H ?_ | refine lBa H ?_ | refine lPa H ?_ | refine lSa H ?_)
    refine eq4 ?_
    exact fin _ (by rw [he]; simp only [ne_eq,Option.some.injEq,Bool.not_eq_true',decide_eq_false_iff_not]) _ _ _ H
def Plain (f:FuncId) (args:List Value) (v:Value):Prop:=∀ w,CV P f args w fun v' w'=>v' = v∧Below w.heap.size w w'
def winV (a s:Int):Value:=.agg [.int .i64 a,.int .i64 s].toArray
structure MemAt (w:World) (p:Option Addr) (b d c:Nat) (bs:List Int) (rest:List Value):Prop where
 hp:p = some ⟨b,0,none⟩
 hb:∃ t,Row w b [.slice (some ⟨d,0,none⟩) bs.length c] t
 hd:∃ t,Row w d ((u8s bs ++ rest)) t
 hc:c = bs.length + rest.length
 hne:b≠d
 hr:∀ x∈bs,0≤x∧x < 256
 hl:bs.length≤131072
theorem zzlX {bs:List Int} {rest:List Value} {k:Nat} (h:k < bs.length):(u8s bs ++ rest)[k]? = some (.int .u8 bs[k]):=by
 rw [List.getElem?_append_left (by rw [u8s_length]; exact h),u8s_get h]
theorem zzmu {bs:List Int} {rest:List Value} {k:Nat} {n:Int} (h:k < bs.length):(u8s bs ++ rest).set k (.int .u8 n) = u8s (bs.set k n) ++ rest:=by
 rw [List.set_append_left _ _ (by rw [u8s_length]; exact h),u8s_set]
theorem MemAt.ext {w w':World} {p:Option Addr} {b d c:Nat} {bs:List Int} {rest:List Value} (h:MemAt w p b d c bs rest) (hB:Below w.heap.size w w'):MemAt w' p b d c bs rest :=
 ⟨h.hp,let ⟨t,r⟩:=h.hb; ⟨t,r.ext hB⟩,let ⟨t,r⟩:=h.hd; ⟨t,r.ext hB⟩,h.hc,h.hne,h.hr,h.hl⟩
theorem MemAt.heap {w w':World} {p:Option Addr} {b d c:Nat} {bs:List Int} {rest:List Value} (h:MemAt w p b d c bs rest) (hb:w'.heap[b]? = w.heap[b]?) (hd:w'.heap[d]? = w.heap[d]?):MemAt w' p b d c bs rest :=
 ⟨h.hp,let ⟨t,r⟩:=h.hb; ⟨t,by unfold Row; rw [hb]; exact r⟩,let ⟨t,r⟩:=h.hd; ⟨t,by unfold Row; rw [hd]; exact r⟩,h.hc,h.hne,h.hr,h.hl⟩
theorem MemAt.lt {w:World} {p:Option Addr} {b d c:Nat} {bs:List Int} {rest:List Value} (h:MemAt w p b d c bs rest):b < w.heap.size∧d < w.heap.size :=
 ⟨let ⟨t,r⟩:=h.hb; r.lt,let ⟨t,r⟩:=h.hd; r.lt⟩
def holdsB (n:Nat) (a s:Int):Bool:=decide (0≤a) && (decide (0≤s) && (decide (s≤n) && decide (a≤n - s)))
theorem holdsB_iff {n:Nat} {a s:Int}:holdsB n a s = true↔0≤a∧0≤s∧s≤n∧a≤n - s:=by simp [holdsB]
theorem holds_cv {w:World} {p:Option Addr} {b d c:Nat} {bs:List Int} {rest:List Value} (hm:MemAt w p b d c bs rest) (a s:Int) :
 CV P F.zzcY [.pointer p,winV a s] w fun v w'=>v = .bool (holdsB bs.length a s)∧Below w.heap.size w w':=by
 refine zzlG ?_
 unfold zzcY
 refine alc_i fun w1 hB1 h1 hs1=>?_
 have hb1:=(hB1 _ (Nat.le_refl _)).drew
 have hm1:=hm.ext (hB1 _ (Nat.le_refl _))
 obtain ⟨tb,rb⟩:=hm1.hb
 have hp:=hm.hp
 have hl:=hm.hl
 subst hp
 unfold JoinT
 refine ldI_i h1.drew rfl (cnd_i (fun h=>?_) fun h=>⟨?_,hb1⟩)
 · refine ldI_i h1.drew rfl (cnd_i (fun h'=>?_) fun h'=>⟨?_,hb1⟩)
   · refine ldI_i h1.drew rfl (ldL_i rb.drew rfl (cnd_i (fun h2=>?_) fun h2=>⟨?_,hb1⟩))
     · refine ldI_i h1.drew rfl (ldL_i rb.drew rfl (ldI_i h1.drew rfl ⟨?_,hb1⟩))
       have h:=of_decide_eq_true h
       have h':=of_decide_eq_true h'
       have h2:=of_decide_eq_true h2
       rw [W_id (by omega) (by omega)]
       simp [holdsB,show 0≤a by omega,show 0≤s by omega,h2]
     · have h2:=of_decide_eq_false h2
       have:holdsB bs.length a s = false:=by
        cases hh:holdsB bs.length a s
        · rfl
        · rw [holdsB_iff] at hh; omega
       rw [this]
   · have h':=of_decide_eq_false h'
     have:holdsB bs.length a s = false:=by
      cases hh:holdsB bs.length a s
      · rfl
      · rw [holdsB_iff] at hh; omega
     rw [this]
 · have h:=of_decide_eq_false h
   have:holdsB bs.length a s = false:=by
    cases hh:holdsB bs.length a s
    · rfl
    · rw [holdsB_iff] at hh; omega
   rw [this]
def mayE (s o n:Int):Int:=if n≠1∧n≠4∧n≠8 then 40 else if Int.tmod o n≠0 then 41 else if o < 0∨o > IntKind.i64.wrap (s - n) then 42 else 0
theorem may_plain (s o n:Int):Plain F.zziH [.int .i64 s,.int .i64 o,.int .i64 n] (.int .i64 (mayE s o n)):=by
 intro w
 refine zzmt ?_
 unfold zziH JoinT
 have hB:=Below.refl w.heap.size w
 have good:(n = 1∨n = 4∨n = 8)→zzj2 s o n (fun v' w'=>v' = .int .i64 (mayE s o n)∧Below w.heap.size w w') false w:=by
  intro hn
  unfold zzj2
  refine cnd_i (fun h=>by cases h) fun _=>⟨by omega,?_⟩
  refine cnd_i (fun h=>⟨?_,hB⟩) fun h=>?_
  · have h:Int.tmod o n≠0:=by simpa using h
    rw [mayE,if_neg (by omega),if_pos h]
  have h:Int.tmod o n = 0:=by simpa using h
  unfold JoinT zzlQ
  refine cnd_i (fun h'=>cnd_i (fun _=>⟨?_,hB⟩) fun h=>by cases h) fun h'=>cnd_i (fun h2=>⟨?_,hB⟩) fun h2=>⟨?_,hB⟩
  · have h':=of_decide_eq_true h'
    rw [mayE,if_neg (by omega),if_neg (by omega),if_pos (by omega)]
  · have h2:=of_decide_eq_true h2
    rw [mayE,if_neg (by omega),if_neg (by omega),if_pos (by omega)]
  · have h':=of_decide_eq_false h'
    have h2:=of_decide_eq_false h2
    rw [mayE,if_neg (by omega),if_neg (by omega),if_neg (by omega)]
 refine cnd_i (fun h=>cnd_i (fun h'=>?_) fun h'=>?_) fun h=>?_
 · have h:n≠1:=by simpa using h
   have h':n≠4:=by simpa using h'
   cases h2:(n != 8)
   · exact good (by
                    have:n = 8:=by simpa using h2
                    omega)
   · have h2:n≠8:=by simpa using h2
     exact ⟨by rw [mayE,if_pos (by omega)],hB⟩
 · exact good (by
                  have:n = 4:=by simpa using h'
                  omega)
 · exact good (by
                  have:n = 1:=by simpa using h
                  omega)
def errE (len:Nat) (a s o n:Int):Int:=if holdsB len a s then mayE s o n else 42
theorem errE_ok {len:Nat} {a s o n:Int} (h:errE len a s o n = 0) (hl:len≤131072):0≤a∧0≤o∧(n = 1∨n = 4∨n = 8)∧Int.tmod o n = 0∧a + o + n≤len∧s≤len∧o + n≤s∧a + s≤len:=by
 unfold errE at h
 split at h
 · rename_i hh
   rw [holdsB_iff] at hh
   unfold mayE at h
   split at h
   · omega
   · split at h
     · omega
     · split at h
       · omega
       · rename_i h1 h2 h3
         have hn:n = 1∨n = 4∨n = 8:=by omega
         rw [W_id (by omega) (by omega)] at h3
         exact ⟨by omega,by omega,hn,by omega,by omega,by omega,by omega,by omega⟩
 · omega
def partV (len c d:Nat) (a s o n:Int):Value:=if errE len a s o n = 0 then .tuple [.slice (some ⟨d,(a + o).toNat,none⟩) n.toNat (c - (a + o).toNat),.int .i64 0].toArray else .tuple [.slice none 0 0,.int .i64 (errE len a s o n)].toArray
theorem part_cv {w:World} {p:Option Addr} {b d c:Nat} {bs:List Int} {rest:List Value} (hm:MemAt w p b d c bs rest) (a s o n:Int) :
 CV P F.zzeo [.pointer p,winV a s,.int .i64 o,.int .i64 n] w fun v w'=>v = partV bs.length c d a s o n∧Below w.heap.size w w':=by
 refine zzlO ?_
 unfold zzeo
 refine alc_i fun w1 hB1 h1 hs1=>?_
 have hb1:=hB1 _ (Nat.le_refl _)
 have hm1:=hm.ext hb1
 refine ldI_i h1 rfl (ldI_i h1 rfl ?_)
 refine (holds_cv hm1 a s).mono ?_
 rintro _ w2 ⟨rfl,hB2⟩
 have h2:=h1.ext hB2
 have hm2:=hm1.ext hB2
 have hb2:=hb1.trans (hB2.mono hb1.size)
 refine ⟨_,rfl,?_⟩
 cases hh:holdsB bs.length a s
 · refine ⟨?_,hb2⟩
   have:errE bs.length a s o n = 42:=by simp [errE,hh]
   simp [partV,this]
 refine cnd_i (fun h=>by cases h) fun _=>ldI_i h2 rfl ?_
 refine (may_plain s o n w2).mono ?_
 rintro _ w3 ⟨rfl,hB3⟩
 have h3:=h2.ext hB3
 have hm3:=hm2.ext hB3
 have hb3:=hb2.trans (hB3.mono hb2.size)
 have he:errE bs.length a s o n = mayE s o n:=by simp [errE,hh]
 refine ⟨_,rfl,cnd_i (fun h=>⟨?_,hb3⟩) fun h=>?_⟩
 · have h:mayE s o n≠0:=by simpa using h
   simp [partV,he,h]
 have h:mayE s o n = 0:=by simpa using h
 have hz:errE bs.length a s o n = 0:=by rw [he,h]
 obtain ⟨a0,o0,hn,ht,hlen,_,_,_⟩:=errE_ok hz hm.hl
 have hl:=hm.hl
 obtain ⟨tb,rb⟩:=hm3.hb
 have hp:=hm.hp
 subst hp
 refine ldL_i rb.drew rfl (ldI_i h3.drew rfl (ldI_i h3.drew rfl ?_))
 have hc:=hm.hc
 rw [W_id (n:=a + o) (by omega) (by omega),W_id (n:=a + o + n) (by omega) (by omega)]
 refine ⟨by simp,?_,?_,?_⟩
 · intro x hx; cases hx; exact ⟨by omega,by simp; omega⟩
 · intro x hx; cases hx; exact ⟨by omega,by simp; omega⟩
 · refine ⟨?_,hb3.drew⟩
   have e1:c≠(a + o).toNat:=by omega
   have e2:(a + o + n).toNat - (a + o).toNat = n.toNat:=by omega
   simp [partV,hz,e1,e2,add_lit]
def le:List Int→Int
 | []=>0
 | x :: r=>x + 256 * le r
theorem le_nonneg {bs:List Int} (h:∀ x∈bs,0≤x∧x < 256):0≤le bs∧le bs < 256 ^ bs.length:=by
 induction bs with
 | nil=>simp [le]
 | cons x r ih =>
  obtain ⟨h1,h2⟩:=ih fun y hy=>h y (by simp [hy])
  have hx:=h x (by simp)
  simp only [le,List.length_cons,Int.pow_succ]
  omega
theorem le_append (a b:List Int):le (a ++ b) = le a + 256 ^ a.length * le b:=by
 induction a with
 | nil=>simp [le]
 | cons x r ih=>simp only [List.cons_append,le,ih,List.length_cons,Int.pow_succ,Int.mul_add]; rw [Int.mul_comm (256 ^ r.length) 256,Int.mul_assoc]; omega
theorem or_add {a x:Int} {i:Nat} (hi:i < 8) (ha:0≤a∧a < 256 ^ i) (hx:0≤x∧x < 256) :
 bitX .or .u64 a (IntKind.u64.wrap (IntKind.u64.wrap x * 2 ^ min (Int.toNat (IntKind.i64.wrap (8 * (i:Int)))) IntKind.u64.bits)) = a + 256 ^ i * x:=by
 have e1:IntKind.i64.wrap (8 * (i:Int)) = 8 * i:=W_id (by omega) (by omega)
 have e2:min (8 * (i:Int)).toNat IntKind.u64.bits = 8 * i:=by simp [IntKind.bits]; omega
 rw [e1,e2]
 obtain ⟨m,rfl⟩:=Int.eq_ofNat_of_zero_le ha.1
 obtain ⟨y,rfl⟩:=Int.eq_ofNat_of_zero_le hx.1
 have hm:m < 256 ^ i:=by have:=ha.2; exact_mod_cast this
 have hy:y < 256:=by omega
 have hp:(256:Nat) ^ i = 2 ^ (8 * i):=by rw [Nat.pow_mul]
 have hle:2 ^ (8 * i)≤2 ^ 56:=Nat.pow_le_pow_right (by omega) (by omega)
 have hprod:y * 2 ^ (8 * i)≤255 * 2 ^ 56:=Nat.mul_le_mul (by omega) hle
 have w1:IntKind.u64.wrap (y:Int) = y:=by simp [IntKind.wrap,IntKind.signed,IntKind.bits]; omega
 rw [w1]
 have hc:((y:Int) * 2 ^ (8 * i)) = ((y * 2 ^ (8 * i):Nat):Int):=by push_cast; rfl
 rw [hc]
 generalize hk:y * 2 ^ (8 * i) = k at *
 have w2:IntKind.u64.wrap (k:Int) = k:=by simp [IntKind.wrap,IntKind.signed,IntKind.bits]; omega
 rw [w2]
 have hor:k ||| m = k + m:=by
  rw [← hk,← Nat.shiftLeft_eq]; exact (Nat.shiftLeft_add_eq_or_of_lt (by rw [← hp]; exact hm) y).symm
 have hm64:m < 2 ^ 64:=by rw [hp] at hm; omega
 have hb:(BitVec.ofInt 64 (m:Int) ||| BitVec.ofInt 64 (k:Int)).toNat = m + k:=by
  rw [BitVec.toNat_or,BitVec.ofInt_natCast,BitVec.ofInt_natCast,BitVec.toNat_ofNat,BitVec.toNat_ofNat,Nat.mod_eq_of_lt hm64,Nat.mod_eq_of_lt (by omega),Nat.or_comm,hor,Nat.add_comm]
 show IntKind.u64.wrap _ = _
 have hb':(BitVec.ofInt (IntKind.u64).bits (m:Int) ||| BitVec.ofInt (IntKind.u64).bits (k:Int)).toNat = m + k:=hb
 rw [hb']
 have w3:IntKind.u64.wrap ((m + k:Nat):Int) = (m + k:Nat):=by
  simp [IntKind.wrap,IntKind.signed,IntKind.bits]
  rw [hp] at hm; omega
 rw [w3,← hk,hp.symm]
 push_cast
 rw [Int.mul_comm (y:Int)]
def cut (bs:List Int) (k n:Nat):List Int:=(bs.drop k).take n
theorem cut_length {bs:List Int} {k n:Nat} (h:k + n≤bs.length):(cut bs k n).length = n:=by simp [cut]; omega
theorem cut_succ {bs:List Int} {k n:Nat} (h:k + n < bs.length):cut bs k (n + 1) = cut bs k n ++ [bs[k + n]]:=by
 unfold cut
 rw [List.take_succ_eq_append_getElem (by simp; omega)]
 simp
theorem cut_mem {bs:List Int} {k n:Nat} {x:Int} (h:x∈cut bs k n):x∈bs:=List.mem_of_mem_drop (List.mem_of_mem_take h)
def readV (bs:List Int) (a s o n:Int):Value:=if errE bs.length a s o n = 0 then .tuple [.int .u64 (le (cut bs (a + o).toNat n.toNat)),.int .i64 0].toArray else .tuple [.int .u64 0,.int .i64 (errE bs.length a s o n)].toArray
theorem read_cv {w:World} {p:Option Addr} {b d c:Nat} {bs:List Int} {rest:List Value} (hm:MemAt w p b d c bs rest) (a s o n:Int) :
 CV P F.zzdB [.pointer p,winV a s,.int .i64 o,.int .i64 n] w fun v w'=>v = readV bs a s o n∧Below w.heap.size w w':=by
 refine zzlN ?_
 unfold zzdB
 refine alc_i fun w1 hB1 h1 hs1=>?_
 have hb1:=hB1 _ (Nat.le_refl _)
 have hm1:=hm.ext hb1
 refine ldI_i h1 rfl (ldI_i h1 rfl ?_)
 refine (part_cv hm1 a s o n).mono ?_
 rintro _ w2 ⟨rfl,hB2⟩
 have hm2:=hm1.ext hB2
 have hb2:=hb1.trans (hB2.mono hb1.size)
 by_cases he:errE bs.length a s o n = 0
 · obtain ⟨a0,o0,hn,ht,hlen,_,_,_⟩:=errE_ok he hm.hl
   refine ⟨some ⟨d,(a + o).toNat,none⟩,n.toNat,c - (a + o).toNat,0,by simp [partV,he],?_⟩
   refine ⟨fun (st:Int×Int) w'=>∃ i:Nat,i≤n.toNat∧st.2 = i∧st.1 = le (cut bs (a + o).toNat i)∧w' = w2,fun (st:Int×Int) _=>(n - st.2).toNat,⟨0,by omega,rfl,by simp [cut,le],rfl⟩,?_⟩
   rintro ⟨acc,i'⟩ _ ⟨i,hi,hi',hacc,rfl⟩
   simp only at hi' hacc
   subst hi' hacc
   unfold zzhg
   refine cnd_i (fun h=>?_) fun h=>⟨?_,hb2⟩
   · have h:=of_decide_eq_true h
     have hin:i < n.toNat:=by omega
     refine ⟨⟨by omega,by omega⟩,?_⟩
     rw [show ((i:Int)).toNat = i from rfl]
     obtain ⟨td,rd⟩:=hm2.hd
     have hk:(a + o).toNat + i < bs.length:=by omega
     show ldI _ _ _ _
     rw [add_lit,Nat.mul_one]
     refine ldI_i rd (n:=bs[(a + o).toNat + i]) (zzlX hk) ?_
     refine ⟨by rw [W_id (by omega) (by omega)]; omega,⟨i + 1,by omega,?_,?_,rfl⟩,?_⟩
     · show IntKind.i64.wrap ((i:Int) + 1) = ((i + 1:Nat):Int)
       rw [W_id (by omega) (by omega)]; rfl
     · show bitX .or .u64 _ _ = _
       have hr:=hm.hr
       have hle:=le_nonneg (bs:=cut bs (a + o).toNat i) fun x hx=>hr x (cut_mem hx)
       rw [cut_length (by omega)] at hle
       rw [or_add (by omega) hle (hr _ (List.getElem_mem hk)),cut_succ hk,le_append,cut_length (by omega)]
       simp [le]
     · show (n - IntKind.i64.wrap ((i:Int) + 1)).toNat < (n - (i:Int)).toNat
       rw [W_id (by omega) (by omega)]; omega
   · have h:=of_decide_eq_false h
     have:i = n.toNat:=by omega
     subst this
     simp [readV,he]
 · refine ⟨none,0,0,errE bs.length a s o n,by simp [partV,he],?_⟩
   refine ⟨fun (st:Int×Int) w'=>st = (0,0)∧w' = w2,fun _ _=>0,⟨rfl,rfl⟩,?_⟩
   rintro _ _ ⟨rfl,rfl⟩
   unfold zzhg
   refine cnd_i (fun h=>by simp at h) fun h=>⟨?_,hb2⟩
   simp [readV,he]
def byteI (v:Int) (i:Nat):Int:=(v / 256 ^ i) % 256
theorem byteI_range (v:Int) (i:Nat):0≤byteI v i∧byteI v i < 256:=⟨Int.emod_nonneg _ (by omega),Int.emod_lt_of_pos _ (by omega)⟩
def wr (bs:List Int) (k:Nat) (v:Int):Nat→List Int
 | 0=>bs
 | i + 1=>(wr bs k v i).set (k + i) (byteI v i)
theorem wr_length (bs:List Int) (k:Nat) (v:Int):∀ i,(wr bs k v i).length = bs.length
 | 0=>rfl
 | i + 1=>by simp [wr,wr_length bs k v i]
theorem wr_range {bs:List Int} (h:∀ x∈bs,0≤x∧x < 256) (k:Nat) (v:Int):∀ i,∀ x∈wr bs k v i,0≤x∧x < 256
 | 0,x,hx=>h x hx
 | i + 1,x,hx=>by
  rcases List.mem_or_eq_of_mem_set hx with hx | rfl
  · exact wr_range h k v i x hx
  · exact byteI_range v i
def writeM (bs:List Int) (a s o n v:Int):List Int:=if errE bs.length a s o n = 0 then wr bs (a + o).toNat v n.toNat else bs
theorem new_cv {w:World} (n:Int):CV P F.zziF [.int .i64 n] w fun v w'=>Below w.heap.size w w' ∧
 (if 0≤n∧n≤131072 then ∃ b d,v = .tuple [.pointer (some ⟨b,0,none⟩),.int .i64 0].toArray∧MemAt w' (some ⟨b,0,none⟩) b d n.toNat (List.replicate n.toNat 0) []∧w.heap.size≤b∧w.heap.size≤d
  else v = .tuple [.pointer none,.int .i64 1].toArray):=by
 refine zzmr ?_
 unfold zziF JoinT
 have hB:=Below.refl w.heap.size w
 have bad:¬ (0≤n∧n≤131072)→zzir n (fun v w'=>Below w.heap.size w w' ∧
  (if 0≤n∧n≤131072 then ∃ b d,v = .tuple [.pointer (some ⟨b,0,none⟩),.int .i64 0].toArray∧MemAt w' (some ⟨b,0,none⟩) b d n.toNat (List.replicate n.toNat 0) []∧w.heap.size≤b∧w.heap.size≤d
   else v = .tuple [.pointer none,.int .i64 1].toArray)) true w:=by
  intro h
  unfold zzir
  exact cnd_i (fun _=>⟨hB,by rw [if_neg h]⟩) fun h=>by cases h
 refine cnd_i (fun h=>bad (by have h:=of_decide_eq_true h; omega)) fun h=>?_
 have h:=of_decide_eq_false h
 cases h2:decide (n > 131072)
 · have h2:=of_decide_eq_false h2
   unfold zzir
   refine cnd_i (fun h=>by cases h) fun _=>?_
   refine make_i appBytes zeroByte (by omega) (by omega) (by omega) fun w1 hB1 h1 hs1=>alc_i fun w2 hB2 h2' hs2=>⟨(hB1 _ (Nat.le_refl _)).trans (hB2 _ (by omega)),?_⟩
   rw [if_pos (by omega)]
   have hb':∃ t,Row w2 w1.heap.size [.slice (some ⟨w.heap.size,0,none⟩) (List.replicate n.toNat (0:Int)).length n.toNat] t:=by rw [List.length_replicate]; exact ⟨_,h2'⟩
   have hd':∃ t,Row w2 w.heap.size (u8s (List.replicate n.toNat 0) ++ []) t:=by
    have:=h1.below (hB2 w1.heap.size (Nat.le_refl _)) (by omega)
    exact ⟨_,by simpa [u8s] using this⟩
   refine ⟨w1.heap.size,w.heap.size,rfl,⟨rfl,hb',hd',by simp,by omega,?_,by simp; omega⟩,by omega,Nat.le_refl _⟩
   intro x hx; rw [(List.mem_replicate.1 hx).2]; omega
 · have h2:=of_decide_eq_true h2
   exact bad (by omega)
theorem u8s_one (bs:List Int):∀ u∈u8s bs,u.oneCell' = true:=by
 intro u hu
 obtain ⟨x,_,rfl⟩:=List.mem_map.1 hu
 rfl
def over (bs:List Int) (k:Nat) (xs:List Int):List Int:=bs.take k ++ xs ++ bs.drop (k + xs.length)
theorem over_length {bs xs:List Int} {k:Nat} (h:k + xs.length≤bs.length):(over bs k xs).length = bs.length:=by simp [over]; omega
theorem splice_u8s {bs xs:List Int} {rest:List Value} {k:Nat} (h:k + xs.length≤bs.length):splice ((u8s bs ++ rest)) k (u8s xs) = u8s (over bs k xs) ++ rest:=by
 simp only [splice,over,u8s_append,u8s_length]
 rw [List.take_append_of_le_length (by rw [u8s_length]; omega),List.drop_append_of_le_length (by rw [u8s_length]; omega)]
 simp [u8s]
theorem over_range {bs xs:List Int} {k:Nat} (h:∀ x∈bs,0≤x∧x < 256) (h':∀ x∈xs,0≤x∧x < 256):∀ x∈over bs k xs,0≤x∧x < 256:=by
 intro x hx
 simp only [over,List.mem_append] at hx
 rcases hx with (hx | hx) | hx
 · exact h x (List.mem_of_mem_take hx)
 · exact h' x hx
 · exact h x (List.mem_of_mem_drop hx)
theorem MemAt.turned {w w':World} {p:Option Addr} {b d c:Nat} {bs xs:List Int} {rest:List Value} {k:Nat} {td:TypeId} (hm:MemAt w p b d c bs rest) (h:k + xs.length≤bs.length) (hx:∀ x∈xs,0≤x∧x < 256)
 (hd:Row w' d (splice ((u8s bs ++ rest)) k (u8s xs)) td) (ho:∀ k,k≠d→w'.heap[k]? = w.heap[k]?):MemAt w' p b d c (over bs k xs) rest:=by
 obtain ⟨tb,rb⟩:=hm.hb
 refine ⟨hm.hp,⟨tb,?_⟩,⟨td,?_⟩,by rw [hm.hc,over_length h],hm.hne,over_range hm.hr hx,by rw [over_length h]; exact hm.hl⟩
 · rw [over_length h]; unfold Row; rw [ho _ hm.hne]; exact rb
 · rw [splice_u8s h] at hd; exact hd
theorem put_cv {w:World} {p:Option Addr} {b d c:Nat} {bs:List Int} {rest:List Value} (hm:MemAt w p b d c bs rest) (a s:Int) {q:Option Addr} {c':Nat} {xs:List Int} (hx:Sl w q (u8s xs)) (hr:∀ x∈xs,0≤x∧x < 256) :
 CV P F.zzdp [.pointer p,winV a s,.slice q xs.length c'] w fun v w'=>v = .int .i64 (if holdsB bs.length a s && decide ((xs.length:Int)≤s) then 0 else 42)∧Out (fun k=>k = d) w w' ∧
  MemAt w' p b d c (if holdsB bs.length a s && decide ((xs.length:Int)≤s) then over bs a.toNat xs else bs) rest:=by
 refine zzlU ?_
 unfold zzdp JoinT
 refine alc_i fun w1 hB1 h1 hs1=>?_
 have hb1:=hB1 _ (Nat.le_refl _)
 have hm1:=hm.ext hb1
 refine ldI_i h1 rfl (ldI_i h1 rfl ?_)
 refine (holds_cv hm1 a s).mono ?_
 rintro _ w2 ⟨rfl,hB2⟩
 have h2:=h1.ext hB2
 have hm2:=hm1.ext hB2
 have hb2:=hb1.trans (hB2.mono hb1.size)
 refine ⟨_,rfl,?_⟩
 cases hh:holdsB bs.length a s
 · refine cnd_i (fun _=>?_) fun h=>by cases h
   unfold zzhE
   exact cnd_i (fun _=>⟨rfl,Out.pure hb2,hm2⟩) fun h=>by cases h
 refine cnd_i (fun h=>by cases h) fun _=>ldI_i h2 rfl ?_
 unfold zzhE
 refine cnd_i (fun h=>?_) fun h=>?_
 · have h:=of_decide_eq_true h
   rw [show decide ((xs.length:Int)≤s) = false from decide_eq_false (by omega)]
   exact ⟨rfl,Out.pure hb2,hm2⟩
 have h:=of_decide_eq_false h
 rw [show decide ((xs.length:Int)≤s) = true from decide_eq_true (by omega)]
 obtain ⟨g1,g2,g3,g4⟩:=holdsB_iff.1 hh
 have hl:=hm.hl
 have hc:=hm.hc
 obtain ⟨tb,rb⟩:=hm2.hb
 obtain ⟨td,rd⟩:=hm2.hd
 have hp:=hm.hp
 subst hp
 unfold drw
 refine ldL_i rb.drew rfl (ldI_i h2.drew rfl ?_)
 refine ⟨by simp,by simp,?_,?_⟩
 · intro x hx; cases hx; exact ⟨by omega,by simp; omega⟩
 simp only [Option.map_some,Option.getD_some,Option.map_none,Option.getD_none,Nat.mul_one,add_lit,Nat.zero_add]
 have hx2:Sl w2.drew q (u8s xs):=by
  intro j u hj
  obtain ⟨y,hy,hcell⟩:=hx j u hj
  refine ⟨y,hy,?_⟩
  have hlt:=World.block_lt_of_cell? w _ hcell
  show w2.cell? _ = _
  rw [hb2.cell hlt]; exact hcell
 have fin:∀ w',Row w' d (splice ((u8s bs ++ rest)) a.toNat (u8s xs)) td→(∀ k,k≠d→w'.heap[k]? = w2.heap[k]?)→w'.heap.size = w2.heap.size→w'.os = w2.os→w'.tape = w2.tape→w'.output = w2.output →
  (Value.int .i64 0 = .int .i64 (if (true && true) = true then 0 else 42)∧Out (fun k=>k = d) w w'∧MemAt w' (some ⟨b,0,none⟩) b d c (if (true && true) = true then over bs a.toNat xs else bs) rest):=by
  intro w' h5 h6 h7 h8 h9 h10
  refine ⟨rfl,(Out.pure hb2).trans ⟨h8,h9,h10,by omega,fun k _ hk=>h6 k hk⟩,?_⟩
  show MemAt w' _ b d c (over bs a.toNat xs) rest
  exact hm2.turned (by omega) hr h5 h6
 by_cases hca:c = a.toNat
 · have hs0:xs.length = 0:=by omega
   have:xs = []:=List.eq_nil_of_length_eq_zero hs0
   subst this
   rw [if_pos hca]
   refine copy_i appBytes (o:=0) rd.drew hx2 (by simp [u8s]) (by simp) (by simp) (by simp [u8s]) fun w' h5 h6 h7 h8 h9 h10=>fin w' ?_ h6 h7 h8 h9 h10
   simpa [splice,u8s] using h5
 · rw [if_neg hca]
   refine copy_i appBytes (o:=a.toNat) rd.drew hx2 (by rw [u8s_length]) (by omega) (by rw [List.length_append,u8s_length]; omega) (u8s_one xs) fun w' h5 h6 h7 h8 h9 h10=>fin w' h5 h6 h7 h8 h9 h10
def memI (b:Nat) (bs:List Int):It where
 h:=fun w S=>∃ d c rest,MemAt w (some ⟨b,0,none⟩) b d c bs rest∧∀ k,S k↔k = b∨k = d
 loc:=fun ⟨d,c,rest,h1,h2⟩ hw _=>⟨d,c,rest,h1.heap (hw _ ((h2 _).2 (.inl rfl))) (hw _ ((h2 _).2 (.inr rfl))),h2⟩
 lt:=fun ⟨d,c,rest,h1,h2⟩ k hk=>by rcases (h2 k).1 hk with rfl | rfl; exact h1.lt.1; exact h1.lt.2
theorem tri_mem {f:FuncId} {args:List Value} {b:Nat} {bs:List Int} {V:Value} (h:∀ w d c rest,MemAt w (some ⟨b,0,none⟩) b d c bs rest→CV P f args w fun v w'=>v = V∧Below w.heap.size w w') :
 Tri P f args [memI b bs] fun v L'=>v = V∧L' = [memI b bs] :=
 Tri.of_pure fun w S hS=>let ⟨d,c,rest,h1,_⟩:=sep_one.1 hS; h w d c rest h1
theorem read_t (b:Nat) (bs:List Int) (a s o n:Int):Tri P F.zzdB [.pointer (some ⟨b,0,none⟩),winV a s,.int .i64 o,.int .i64 n] [memI b bs] fun v L'=>v = readV bs a s o n∧L' = [memI b bs]:=tri_mem fun w d c rest hm=>read_cv hm a s o n
theorem put_t (b:Nat) (bs:List Int) (a s:Int) {q:Option Addr} {c':Nat} {xs:List Int} (i:It) (hi:∀ w S,i.h w S→Sl w q (u8s xs)) (hr:∀ x∈xs,0≤x∧x < 256) :
 Tri P F.zzdp [.pointer (some ⟨b,0,none⟩),winV a s,.slice q xs.length c'] [memI b bs,i] fun v L'=>v = .int .i64 (if holdsB bs.length a s && decide ((xs.length:Int)≤s) then 0 else 42) ∧
  L' = [memI b (if holdsB bs.length a s && decide ((xs.length:Int)≤s) then over bs a.toNat xs else bs),i]:=by
 rintro w S ⟨S1,S2,⟨d,c,rest,hm,h2⟩,hS2,h3,h4⟩
 refine (put_cv hm a s (hi w S2 (sep_one.1 hS2)) hr).mono fun v w' ⟨e,hO,hm'⟩=>⟨_,⟨e,rfl⟩,?_⟩
 refine own_join (L2:=[memI b _]) hS2 h3 (Out.refl _ _) (fun k hk=>.inl ((h4 k).2 hk)) (S':=S1) (sep_one.2 ⟨d,c,rest,hm',h2⟩) (hO.mono fun k _ hk=>(h2 k).2 (.inr hk)) fun k hk=>.inl hk
def ptr (b:Nat):Value:=.pointer (some ⟨b,0,none⟩)
theorem refHolds_cv {w:World} {p:Option Addr} {b d c:Nat} {bs:List Int} {rest:List Value} (hm:MemAt w p b d c bs rest) (a s:Int) :
 CV P F.zzas [.pointer p,winV a s] w fun v w'=>v = .bool (holdsB bs.length a s)∧Below w.heap.size w w':=by
 refine zzjk ?_
 unfold zzas
 refine alc_i fun w1 hB1 h1 hs1=>?_
 have hb1:=(hB1 _ (Nat.le_refl _)).drew
 have hm1:=hm.ext (hB1 _ (Nat.le_refl _))
 obtain ⟨tb,rb⟩:=hm1.hb
 have hp:=hm.hp
 have hl:=hm.hl
 subst hp
 unfold JoinT
 refine ldI_i h1.drew rfl (cnd_i (fun h=>?_) fun h=>⟨?_,hb1⟩)
 · refine ldI_i h1.drew rfl (cnd_i (fun h'=>?_) fun h'=>⟨?_,hb1⟩)
   · refine ldI_i h1.drew rfl (ldL_i rb.drew rfl (cnd_i (fun h2=>?_) fun h2=>⟨?_,hb1⟩))
     · refine ldI_i h1.drew rfl (ldL_i rb.drew rfl (ldI_i h1.drew rfl ⟨?_,hb1⟩))
       have h:=of_decide_eq_true h
       have h':=of_decide_eq_true h'
       have h2:=of_decide_eq_true h2
       rw [W_id (by omega) (by omega)]
       simp [holdsB,show 0≤a by omega,show 0≤s by omega,h2]
     · have h2:=of_decide_eq_false h2
       have:holdsB bs.length a s = false:=by
        cases hh:holdsB bs.length a s
        · rfl
        · rw [holdsB_iff] at hh; omega
       rw [this]
   · have h':=of_decide_eq_false h'
     have:holdsB bs.length a s = false:=by
      cases hh:holdsB bs.length a s
      · rfl
      · rw [holdsB_iff] at hh; omega
     rw [this]
 · have h:=of_decide_eq_false h
   have:holdsB bs.length a s = false:=by
    cases hh:holdsB bs.length a s
    · rfl
    · rw [holdsB_iff] at hh; omega
   rw [this]
theorem refMay_plain (s o n:Int):Plain F.zzcy [.int .i64 s,.int .i64 o,.int .i64 n] (.int .i64 (mayE s o n)):=by
 intro w
 refine zzlz ?_
 unfold zzcy JoinT
 have hB:=Below.refl w.heap.size w
 have good:(n = 1∨n = 4∨n = 8)→zzgv s o n (fun v' w'=>v' = .int .i64 (mayE s o n)∧Below w.heap.size w w') false w:=by
  intro hn
  unfold zzgv
  refine cnd_i (fun h=>by cases h) fun _=>⟨by omega,?_⟩
  refine cnd_i (fun h=>⟨?_,hB⟩) fun h=>?_
  · have h:Int.tmod o n≠0:=by simpa using h
    rw [mayE,if_neg (by omega),if_pos h]
  have h:Int.tmod o n = 0:=by simpa using h
  unfold JoinT zzij
  refine cnd_i (fun h'=>cnd_i (fun _=>⟨?_,hB⟩) fun h=>by cases h) fun h'=>cnd_i (fun h2=>⟨?_,hB⟩) fun h2=>⟨?_,hB⟩
  · have h':=of_decide_eq_true h'
    rw [mayE,if_neg (by omega),if_neg (by omega),if_pos (by omega)]
  · have h2:=of_decide_eq_true h2
    rw [mayE,if_neg (by omega),if_neg (by omega),if_pos (by omega)]
  · have h':=of_decide_eq_false h'
    have h2:=of_decide_eq_false h2
    rw [mayE,if_neg (by omega),if_neg (by omega),if_neg (by omega)]
 refine cnd_i (fun h=>cnd_i (fun h'=>?_) fun h'=>?_) fun h=>?_
 · have h:n≠1:=by simpa using h
   have h':n≠4:=by simpa using h'
   cases h2:(n != 8)
   · exact good (by
                    have:n = 8:=by simpa using h2
                    omega)
   · have h2:n≠8:=by simpa using h2
     exact ⟨by rw [mayE,if_pos (by omega)],hB⟩
 · exact good (by
                  have:n = 4:=by simpa using h'
                  omega)
 · exact good (by
                  have:n = 1:=by simpa using h
                  omega)
theorem refHolds_t (b:Nat) (bs:List Int) (a s:Int):Tri P F.zzas [ptr b,winV a s] [memI b bs] fun v L'=>v = .bool (holdsB bs.length a s)∧L' = [memI b bs]:=tri_mem fun w d c rest hm=>refHolds_cv hm a s
theorem zzj4 {w w0:World} {S0:Nat→Prop} {L F:List It} {b:Nat} {bs:List Int} (H:X.Own w0 S0 L w) (hp:Pick L (memI b bs) F):∃ (d c:Nat) (rest:List Value) (tb td:TypeId),
 X.Own w0 S0 (row b [.slice (some ⟨d,0,none⟩) bs.length c] tb :: row d (u8s bs ++ rest) td :: F) w∧c = bs.length + rest.length∧(∀ x∈bs,0≤x∧x < 256)∧bs.length≤131072:=by
 obtain ⟨S,h1,h2⟩:=H
 obtain ⟨S1,S2,⟨d,c,rest,hm,g⟩,g2,g3,g4⟩:=hp.iff.1 h1
 obtain ⟨tb,rb⟩:=hm.hb
 obtain ⟨td,rd⟩:=hm.hd
 refine ⟨d,c,rest,tb,td,⟨S,⟨fun k=>k = b,fun k=>k = d∨S2 k,⟨rb,fun _=>Iff.rfl⟩,⟨fun k=>k = d,S2,⟨rd,fun _=>Iff.rfl⟩,g2,?_,fun _=>Iff.rfl⟩,?_,?_⟩,h2⟩,hm.hc,hm.hr,hm.hl⟩
 · rintro k rfl; exact g3 k ((g k).2 (.inr rfl))
 · rintro k rfl (h | h)
   · exact hm.hne h
   · exact g3 k ((g k).2 (.inl rfl)) h
 · intro k; rw [g4,g,or_assoc]
theorem zzlK {w w0:World} {S0:Nat→Prop} {F:List It} {b d c n:Nat} {bs:List Int} {rest:List Value} {tb td:TypeId} (H:X.Own w0 S0 (row b [.slice (some ⟨d,0,none⟩) n c] tb :: row d (u8s bs ++ rest) td :: F) w)
 (hn:n = bs.length) (hc:c = bs.length + rest.length) (hr:∀ x∈bs,0≤x∧x < 256) (hl:bs.length≤131072):X.Own w0 S0 (memI b bs :: F) w:=by
 subst hn
 obtain ⟨S,⟨S1,S2,⟨rb,e1⟩,⟨T1,T2,⟨rd,e2⟩,g2,g3,g4⟩,g5,g6⟩,h2⟩:=H
 refine ⟨S,⟨fun k=>k = b∨k = d,T2,⟨d,c,rest,⟨rfl,⟨_,rb⟩,⟨_,rd⟩,hc,?_,hr,hl⟩,fun _=>Iff.rfl⟩,g2,?_,?_⟩,h2⟩
 · rintro rfl; exact g5 b ((e1 b).2 rfl) ((g4 b).2 (.inl ((e2 b).2 rfl)))
 · rintro k (rfl | rfl) h
   · exact g5 k ((e1 k).2 rfl) ((g4 k).2 (.inr h))
   · exact g3 k ((e2 k).2 rfl) h
 · intro k; rw [g6,g4,e1,e2,or_assoc]
theorem refWrite_t (b:Nat) (bs:List Int) (a s o n v:Int) (hv:0≤v∧v < 2 ^ 64):Tri P F.zzbw [ptr b,winV a s,.int .i64 o,.int .i64 n,.int .u64 v] [memI b bs] fun r L'=>r = .int .i64 (errE bs.length a s o n)∧L' = [memI b (writeM bs a s o n v)]:=by
 intro w S hS
 refine zzjo ?_
 unfold zzbw
 have H:=Own.start hS
 refine alc_o H fun bx wx H=>?_
 repeat (first | refine lIa H ?_ | refine lLa H ?_ | refine lBa H ?_ | refine lPa H ?_ | refine lSa H ?_)
 refine call_pa H (refHolds_t b bs a s) fun wx H=>?_
 refine ⟨_,rfl,?_⟩
 cases hh:holdsB bs.length a s
 · have:errE bs.length a s o n = 42:=by simp [errE,hh]
   rw [writeM,this,if_neg (by omega)]
   exact cnd_i (fun _=>⟨_,⟨rfl,rfl⟩,H.dp⟩) (fun h=>by cases h)
 refine cnd_i (fun h=>by cases h) fun _=>?_
 repeat (first | refine lIa H ?_ | refine lLa H ?_ | refine lBa H ?_ | refine lPa H ?_ | refine lSa H ?_)
 refine call_pa H (tri_plain (refMay_plain s o n)) fun wx H=>?_
 have he:errE bs.length a s o n = mayE s o n:=by simp [errE,hh]
 refine ⟨_,rfl,cnd_i (fun h=>?_) fun h=>?_⟩
 · have h:mayE s o n≠0:=by simpa using h
   rw [writeM,he,if_neg h]
   exact ⟨_,⟨rfl,rfl⟩,H.dp⟩
 have h:mayE s o n = 0:=by simpa using h
 have hz:errE bs.length a s o n = 0:=by rw [he,h]
 obtain ⟨d,c,rest,tb,td,H,hc,hr,hl⟩:=zzj4 H (b:=b) (bs:=bs) (by repeat (first | exact Pick.here | apply Pick.there))
 obtain ⟨a0,o0,hn,ht,hlen,_,_,_⟩:=errE_ok hz hl
 refine loop_o (fun (st:Int×Int) L=>∃ i:Nat,i≤n.toNat∧st.2 = i∧st.1 = v / 256 ^ i∧L = [row b [.slice (some ⟨d,0,none⟩) bs.length c] tb,row d (u8s (wr bs (a + o).toNat v i) ++ rest) td,row bx [.int .i64 a,.int .i64 s] _])
  (fun (st:Int×Int)=>(n - st.2).toNat) H ⟨0,by omega,rfl,by simp,rfl⟩ ?_
 rintro ⟨v',i'⟩ _ wx ⟨i,hi,hi',hv',rfl⟩ H
 simp only at hi' hv'
 subst hi' hv'
 unfold zzf7
 dsimp only
 refine cnd_i (fun h=>?_) fun h=>?_
 · have h:=of_decide_eq_true h
   refine drw_o H fun wx H=>?_
   repeat (first | refine lIa H ?_ | refine lLa H ?_ | refine lBa H ?_ | refine lPa H ?_ | refine lSa H ?_)
   rw [W_id (n:=a + o) (by omega) (by omega),W_id (n:=a + o + _) (by omega) (by omega)]
   refine ⟨by omega,⟨by omega,by omega⟩,?_⟩
   dsimp only [nn]
   have hk:(a + o + (i:Int)).toNat < (wr bs (a + o).toNat v i).length:=by rw [wr_length]; omega
   have e:(a + o + (i:Int)).toNat = (a + o).toNat + i:=by omega
   have hq:0≤v / 256 ^ i∧v / 256 ^ i≤v:=⟨Int.ediv_nonneg hv.1 (Int.le_of_lt (Int.pow_pos (by omega))),Int.ediv_le_self _ hv.1⟩
   have hb:IntKind.u8.wrap (Int.tmod (v / 256 ^ i) 256) = byteI v i:=by
    rw [Int.tmod_eq_emod_of_nonneg hq.1]
    have:=byteI_range v i
    unfold byteI at *
    simp [IntKind.wrap,IntKind.signed,IntKind.bits]
   rw [add_lit,Nat.mul_one,Nat.zero_add,hb]
   refine st1_o H (by repeat (first | exact Rep.here | apply Rep.there)) (by rw [List.length_append,u8s_length]; omega) fun wx H=>⟨by omega,⟨_,⟨i + 1,by omega,?_,?_,?_⟩,H⟩,?_⟩
   · rw [W_id (by omega) (by omega)]; rfl
   · show IntKind.u64.wrap _ = _
     rw [Int.tdiv_eq_ediv_of_nonneg hq.1,Int.pow_succ,← Int.ediv_ediv_of_nonneg (Int.le_of_lt (Int.pow_pos (by omega)))]
     have h1:0≤v / 256 ^ i / 256:=Int.ediv_nonneg hq.1 (by omega)
     have h2:v / 256 ^ i / 256≤v / 256 ^ i:=Int.ediv_le_self _ hq.1
     have:=hv.2
     simp [IntKind.wrap,IntKind.signed,IntKind.bits]; omega
   · rw [zzmu hk,e]; rfl
   · show (n - IntKind.i64.wrap ((i:Int) + 1)).toNat < (n - (i:Int)).toNat
     rw [W_id (by omega) (by omega)]; omega
 · have h:=of_decide_eq_false h
   have:i = n.toNat:=by omega
   subst this
   rw [hz,writeM,if_pos hz]
   exact ⟨_,⟨rfl,rfl⟩,(zzlK H (by rw [wr_length]) (by rw [wr_length]; exact hc) (wr_range hr _ _ _) (by rw [wr_length]; exact hl)).dp⟩
def fairB (a s:Int):Bool:=decide (a≥0) && (decide (a≤1099511627776) && (decide (s≥0) && decide (s≤1099511627776)))
theorem fair_plain (a s:Int):Plain F.zziI [winV a s] (.bool (fairB a s)):=by
 intro w
 refine zzmn ?_
 refine alc_i fun w1 hB1 h1 hs1=>?_
 have hb1:=hB1 _ (Nat.le_refl _)
 unfold JoinT
 have no:∀ x,x = false→fairB a s = x→zzlB (fun v' w'=>v' = .bool (fairB a s)∧Below w.heap.size w w') x w1:=fun x hx h=>⟨by rw [h],hb1⟩
 refine ldI_i h1 rfl (cnd_i (fun ha=>?_) fun ha=>no _ rfl (by simp only [fairB,ha,Bool.false_and]))
 refine ldI_i h1 rfl (cnd_i (fun ha'=>?_) fun ha'=>no _ rfl (by simp only [fairB,ha',Bool.false_and,Bool.and_false]))
 refine ldI_i h1 rfl (cnd_i (fun hs=>?_) fun hs=>no _ rfl (by simp only [fairB,hs,Bool.false_and,Bool.and_false]))
 exact ldI_i h1 rfl ⟨by simp only [fairB,ha,ha',hs,Bool.true_and],hb1⟩
theorem fairB_iff {a s:Int}:fairB a s = true↔0≤a∧a≤1099511627776∧0≤s∧s≤1099511627776:=by simp [fairB]
def partW (a s x n:Int):Value:=if fairB a s && (decide (0≤x) && (decide (0≤n) && (decide (n≤s) && decide (x≤s - n)))) then .tuple [winV (a + x) n,.int .i64 0].toArray else .tuple [winV 0 0,.int .i64 42].toArray
theorem cond_false {a s x n:Int} (h:¬ (fairB a s = true∧0≤x∧0≤n∧n≤s∧x≤s - n)):partW a s x n = .tuple [winV 0 0,.int .i64 42].toArray:=by
 unfold partW; rw [if_neg]; simpa using h
theorem cond_true {a s x n:Int} (h:fairB a s = true∧0≤x∧0≤n∧n≤s∧x≤s - n):partW a s x n = .tuple [winV (a + x) n,.int .i64 0].toArray:=by
 unfold partW; rw [if_pos]; simpa using h
theorem Part_plain (a s x n:Int):Plain F.zzhz [winV a s,.int .i64 x,.int .i64 n] (partW a s x n):=by
 intro w
 refine zzml ?_
 refine alc_i fun w1 hB1 h1 hs1=>alc_i fun w2 hB2 h2 hs2=>?_
 have h1:=h1.below (hB2 w1.heap.size (Nat.le_refl _)) (by omega)
 have hb2:=(hB1 _ (Nat.le_refl _)).trans (hB2 w.heap.size (by omega))
 unfold JoinT
 refine ldI_i h1 rfl (ldI_i h1 rfl ?_)
 refine (fair_plain a s w2).mono ?_
 rintro _ w3 ⟨rfl,hB3⟩
 have h1:=h1.ext hB3
 have h2:=h2.ext hB3
 have hb3:=hb2.trans (hB3.mono hb2.size)
 have no:¬ (fairB a s = true∧0≤x∧0≤n∧n≤s∧x≤s - n)→zzhI x n (fun v' w'=>v' = partW a s x n∧Below w.heap.size w w') w.heap.size w1.heap.size true w3:=by
  intro h
  unfold zzhI
  refine cnd_i (fun _=>?_) fun h=>by cases h
  refine st1_i h2 (by simp) fun w4 hB4 _ _ h4=>st1_i h4 (by simp) fun w5 hB5 _ _ h5=>?_
  have h5:Row w5 w1.heap.size [.int .i64 0,.int .i64 0] _:=h5
  exact ldI_i h5 rfl (ldI_i h5 rfl ⟨by rw [cond_false h]; rfl,(hb3.trans (hB4 _ (by omega))).trans (hB5 _ (by omega))⟩)
 refine ⟨_,rfl,cnd_i (fun h=>no (by simp only [Bool.not_eq_true'] at h; simp [h])) fun hf=>?_⟩
 simp only [Bool.not_eq_false'] at hf
 have hf':=fairB_iff.1 hf
 refine cnd_i (fun h=>no (by have h:=of_decide_eq_true h; omega)) fun hx=>cnd_i (fun h=>no (by have h:=of_decide_eq_true h; omega)) fun hn=>ldI_i h1 rfl (cnd_i (fun h=>no (by have h:=of_decide_eq_true h; omega)) fun hns=>ldI_i h1 rfl ?_)
 have hx:=of_decide_eq_false hx
 have hn:=of_decide_eq_false hn
 have hns:=of_decide_eq_false hns
 rw [W_id (n:=s - n) (by omega) (by omega)]
 cases hg:decide (x > s - n)
 · have hg:=of_decide_eq_false hg
   unfold zzhI
   refine cnd_i (fun h=>by cases h) fun _=>ldI_i h1 rfl ?_
   refine st1_i h2 (by simp) fun w4 hB4 _ _ h4=>st1_i h4 (by simp) fun w5 hB5 _ _ h5=>?_
   have h5:Row w5 w1.heap.size [.int .i64 (IntKind.i64.wrap (a + x)),.int .i64 n] _:=h5
   refine ldI_i h5 rfl (ldI_i h5 rfl ⟨?_,(hb3.trans (hB4 _ (by omega))).trans (hB5 _ (by omega))⟩)
   rw [cond_true ⟨hf,by omega,by omega,by omega,by omega⟩,W_id (by omega) (by omega)]; rfl
 · exact no (by have hg:=of_decide_eq_true hg; omega)
theorem and_low {v:Int} (h0:0≤v) (h1:v < 2 ^ 64) (m:Nat) (hm:m≤64):bitX .and .u64 v ((2 ^ m - 1:Nat):Int) = v % 2 ^ m:=by
 obtain ⟨x,rfl⟩:=Int.eq_ofNat_of_zero_le h0
 have hx:x < 2 ^ 64:=by omega
 have hle:2 ^ m≤2 ^ 64:=Nat.pow_le_pow_right (by omega) hm
 have hp:0 < 2 ^ m:=Nat.pow_pos (by omega)
 show IntKind.u64.wrap ((BitVec.ofInt 64 (x:Int) &&& BitVec.ofInt 64 ((2 ^ m - 1:Nat):Int)).toNat:Int) = _
 rw [BitVec.toNat_and,BitVec.ofInt_natCast,BitVec.ofInt_natCast,BitVec.toNat_ofNat,BitVec.toNat_ofNat,Nat.mod_eq_of_lt hx,Nat.mod_eq_of_lt (by omega),Nat.and_two_pow_sub_one_eq_mod]
 have hlt:x % 2 ^ m < 2 ^ m:=Nat.mod_lt _ hp
 have:IntKind.u64.wrap ((x % 2 ^ m:Nat):Int) = ((x % 2 ^ m:Nat):Int):=by
  generalize x % 2 ^ m = y at *
  simp [IntKind.wrap,IntKind.signed,IntKind.bits]
  omega
 rw [this]; push_cast; rfl
theorem insB_eq {a n:Int} {f:Nat} (hf:f < 64) (ha:0≤a∧a < 2 ^ f) (hn:0≤n) (h:n * 2 ^ f < 2 ^ 64):insB a n f = a + n * 2 ^ f:=by
 unfold insB
 have e2:min (Int.toNat (f:Int)) IntKind.u64.bits = f:=by simp [IntKind.bits]; omega
 rw [e2]
 obtain ⟨m,rfl⟩:=Int.eq_ofNat_of_zero_le ha.1
 obtain ⟨y,rfl⟩:=Int.eq_ofNat_of_zero_le hn
 have hm:m < 2 ^ f:=by have:=ha.2; exact_mod_cast this
 have hk:y * 2 ^ f < 2 ^ 64:=by exact_mod_cast h
 have hp:0 < 2 ^ f:=Nat.pow_pos (by omega)
 have hle:2 ^ f≤2 ^ 63:=Nat.pow_le_pow_right (by omega) (by omega)
 have hy:y < 2 ^ 64:=Nat.lt_of_le_of_lt (Nat.le_mul_of_pos_right y hp) hk
 have w1:IntKind.u64.wrap (y:Int) = y:=by simp [IntKind.wrap,IntKind.signed,IntKind.bits]; omega
 rw [w1]
 have hc:((y:Int) * 2 ^ f) = ((y * 2 ^ f:Nat):Int):=by push_cast; rfl
 rw [hc]
 have hor:(y * 2 ^ f) ||| m = y * 2 ^ f + m:=by
  rw [← Nat.shiftLeft_eq]; exact (Nat.shiftLeft_add_eq_or_of_lt hm y).symm
 generalize y * 2 ^ f = k at *
 have w2:IntKind.u64.wrap (k:Int) = k:=by simp [IntKind.wrap,IntKind.signed,IntKind.bits]; omega
 rw [w2]
 have hm64:m < 2 ^ 64:=by omega
 have hsum:k ||| m < 2 ^ 64:=Nat.or_lt_two_pow hk hm64
 have hb:(BitVec.ofInt 64 (m:Int) ||| BitVec.ofInt 64 (k:Int)).toNat = m + k:=by
  rw [BitVec.toNat_or,BitVec.ofInt_natCast,BitVec.ofInt_natCast,BitVec.toNat_ofNat,BitVec.toNat_ofNat,Nat.mod_eq_of_lt hm64,Nat.mod_eq_of_lt hk,Nat.or_comm,hor,Nat.add_comm]
 show IntKind.u64.wrap _ = _
 have hb':(BitVec.ofInt (IntKind.u64).bits (m:Int) ||| BitVec.ofInt (IntKind.u64).bits (k:Int)).toNat = m + k:=hb
 rw [hb']
 have w3:IntKind.u64.wrap ((m + k:Nat):Int) = (m + k:Nat):=by
  simp [IntKind.wrap,IntKind.signed,IntKind.bits]
  omega
 rw [w3]
 push_cast; rfl
theorem ext_eq {a:Int} {f s:Nat} (hf:f < 64) (hs:s≤62) (ha:0≤a∧a < 2 ^ 64):ext a f s = a / 2 ^ f % 2 ^ s:=by
 unfold ext
 have e1:min (Int.toNat (f:Int)) IntKind.u64.bits = f:=by simp [IntKind.bits]; omega
 have e2:min (Int.toNat (s:Int)) IntKind.u64.bits = s:=by simp [IntKind.bits]; omega
 rw [e1,e2]
 have hp:(0:Int) < 2 ^ f:=Int.pow_pos (by omega)
 have hle:(2:Nat) ^ s≤2 ^ 62:=Nat.pow_le_pow_right (by omega) hs
 have hps:0 < (2:Nat) ^ s:=Nat.pow_pos (by omega)
 have e3:IntKind.u64.wrap (IntKind.u64.wrap (1 * 2 ^ s) - 1) = ((2 ^ s - 1:Nat):Int):=by
  have:(1 * 2 ^ s:Int) = ((2 ^ s:Nat):Int):=by push_cast; omega
  rw [this]
  generalize (2:Nat) ^ s = y at *
  simp [IntKind.wrap,IntKind.signed,IntKind.bits]
  omega
 rw [e3,Int.fdiv_eq_ediv_of_nonneg _ (by omega)]
 have hd0:0≤a / 2 ^ f:=Int.ediv_nonneg ha.1 (by omega)
 have hd1:a / 2 ^ f < 2 ^ 64:=Int.lt_of_le_of_lt (Int.ediv_le_self _ ha.1) ha.2
 rw [and_low hd0 hd1 s (by omega)]
 have hq:(2:Int) ^ s = ((2 ^ s:Nat):Int):=by push_cast; rfl
 rw [hq]
 generalize (2:Nat) ^ s = y at *
 generalize a / 2 ^ f = z at *
 have h1:=Int.emod_nonneg z (b:=(y:Int)) (by omega)
 have h2:=Int.emod_lt_of_pos z (b:=(y:Int)) (by omega)
 rw [W_id (by omega) (by omega)]
theorem and_i64 {a:Int} (h0:0≤a) (h1:a < 2 ^ 63):bitX .and .i64 a 255 = a % 256:=by
 obtain ⟨x,rfl⟩:=Int.eq_ofNat_of_zero_le h0
 have hx:x < 2 ^ 63:=by omega
 show IntKind.i64.wrap ((BitVec.ofInt 64 (x:Int) &&& BitVec.ofInt 64 ((255:Nat):Int)).toNat:Int) = _
 rw [BitVec.toNat_and,BitVec.ofInt_natCast,BitVec.ofInt_natCast,BitVec.toNat_ofNat,BitVec.toNat_ofNat,Nat.mod_eq_of_lt (by omega),Nat.mod_eq_of_lt (by omega),show (255:Nat) = 2 ^ 8 - 1 from rfl,Nat.and_two_pow_sub_one_eq_mod]
 rw [W_id (by omega) (by omega)]; push_cast; rfl
def wS (c:Cm):List Int:=[c.op + c.dev * 4294967296,c.ev + (if c.op = 14 then 0 else c.num) * 4294967296 + c.bits,c.coll + c.tgt * 65536 + c.addr / 256 * 256 + (if c.val = true then 1 else 0) * 9223372036854775808,(if c.op = 14 then c.num else 0) * 65536]
def stD (ws:List Int) (k:Nat) (c:Cm):Cm:=if ph c.op k then c.put (ext (ws.getD (pw c.op k) 0) (pf c.op k) (ps c.op k)) k else c
theorem cd_eight (ws:List Int):cd ws 8 = stD ws 7 (stD ws 6 (stD ws 5 (stD ws 4 (stD ws 3 (stD ws 2 (stD ws 1 (stD ws 0 (cd ws 0)))))))):=rfl
theorem l4 {a b c d a' b' c' d':Int} (h1:a = a') (h2:b = b') (h3:c = c') (h4:d = d'):[a,b,c,d] = [a',b',c',d']:=by rw [h1,h2,h3,h4]
theorem cd_zero (a b c d:Int):cd [a,b,c,d] 0 = ⟨IntKind.i64.wrap (bitX .and .u64 a 255),0,0,0,0,0,0,0,false⟩:=rfl
theorem low8 {a:Int} (h0:0≤a) (h1:a < 2 ^ 64):IntKind.i64.wrap (bitX .and .u64 a 255) = a % 256:=by
 have h:bitX .and .u64 a 255 = a % 2 ^ 8:=and_low h0 h1 8 (by omega)
 rw [h,W_id (by omega) (by omega)]; rfl
def Fld (c:Cm):Prop:=∀ k,k < 8→0≤c.get k∧c.get k < 2 ^ ps c.op k∧(ph c.op k = false→c.get k = 0)
theorem ps_le (op:Int) (k:Nat):ps op k≤40:=by unfold ps; split <;> (try split) <;> omega
theorem fld_of {c:Cm} (h:(List.range 8).any (badB c) = false):Fld c:=by
 intro k hk
 have hb:badB c k = false:=by
  cases e:badB c k with
  | false=>rfl
  | true=>rw [List.any_eq_true.2 ⟨k,List.mem_range.2 hk,e⟩] at h; cases h
 unfold badB at hb
 have e2:min (Int.toNat ((ps c.op k:Nat):Int)) IntKind.i64.bits = ps c.op k:=by have:=ps_le c.op k; simp [IntKind.bits]; omega
 have hle:(2:Nat) ^ ps c.op k≤2 ^ 40:=Nat.pow_le_pow_right (by omega) (ps_le _ _)
 have e3:IntKind.i64.wrap (1 * 2 ^ ps c.op k) = 2 ^ ps c.op k:=by
  have:(1 * 2 ^ ps c.op k:Int) = ((2 ^ ps c.op k:Nat):Int):=by push_cast; omega
  rw [this]
  have h2:(2:Int) ^ ps c.op k = ((2 ^ ps c.op k:Nat):Int):=by push_cast; rfl
  rw [h2]
  generalize (2:Nat) ^ ps c.op k = y at *
  exact W_id (by omega) (by omega)
 rw [e2,e3] at hb
 simp only [Bool.or_eq_false_iff,decide_eq_false_iff_not,Bool.and_eq_false_iff] at hb
 refine ⟨by omega,by omega,fun hh=>?_⟩
 rcases hb.1 with h1 | h1
 · rw [hh] at h1; cases h1
 · simpa using h1
theorem rt_1 (dev ev num coll tgt bits addr:Int) (val:Bool) (hA:addr % 256 = 0) (f:Fld ⟨1,dev,ev,num,coll,tgt,bits,addr,val⟩) :
 wd ⟨1,dev,ev,num,coll,tgt,bits,addr,val⟩ 8 = wS ⟨1,dev,ev,num,coll,tgt,bits,addr,val⟩∧cd (wS ⟨1,dev,ev,num,coll,tgt,bits,addr,val⟩) 8 = ⟨1,dev,ev,num,coll,tgt,bits,addr,val⟩:=by
 have f0:0≤dev∧dev < 2 ^ 32:=⟨(f 0 (by omega)).1,(f 0 (by omega)).2.1⟩
 have f1:0≤ev∧ev < 2 ^ 32:=⟨(f 1 (by omega)).1,(f 1 (by omega)).2.1⟩
 have f2:num = 0:=(f 2 (by omega)).2.2 (by simp [ph])
 have f3:0≤coll∧coll < 2 ^ 16:=⟨(f 3 (by omega)).1,(f 3 (by omega)).2.1⟩
 have f4:tgt = 0:=(f 4 (by omega)).2.2 (by simp [ph])
 have f5:bits = 0:=(f 5 (by omega)).2.2 (by simp [ph])
 have f6:(addr / 256) = 0:=(f 6 (by omega)).2.2 (by simp [ph])
 have f7:val = false:=by have h:=(f 7 (by omega)).2.2 (by simp [ph]); cases val <;> first | rfl | cases h
 subst f7
 have e:wd ⟨1,dev,ev,num,coll,tgt,bits,addr,false⟩ 8 = wS ⟨1,dev,ev,num,coll,tgt,bits,addr,false⟩:=by
  show [insB (1) dev 32,insB (0) ev 0,insB (0) coll 0,0] = _
  rw [insB_eq (a:=1) (n:=dev) (f:=32) (by omega) (by omega) (by omega) (by omega),insB_eq (a:=0) (n:=ev) (f:=0) (by omega) (by omega) (by omega) (by omega),insB_eq (a:=0) (n:=coll) (f:=0) (by omega) (by omega) (by omega) (by omega)]
  unfold wS
  dsimp only
  simp only [show ¬ ((1:Int) = 14) by decide,if_false,Bool.false_eq_true,if_true]
  exact l4 (by omega) (by omega) (by omega) (by omega)
 refine ⟨e,?_⟩
 unfold wS
 dsimp only
 simp only [show ¬ ((1:Int) = 14) by decide,if_false,Bool.false_eq_true,if_true]
 have h0:cd [1 + dev * 4294967296,ev + num * 4294967296 + bits,coll + tgt * 65536 + addr / 256 * 256 + 0 * 9223372036854775808,0 * 65536] 0 = ⟨1,0,0,0,0,0,0,0,false⟩:=by
  rw [cd_zero,low8 (by omega) (by omega),show (1 + dev * 4294967296) % 256 = 1 by omega]
 have hd:∀ W0 W1 W2 W3:Int,cd [W0,W1,W2,W3] 0 = ⟨1,0,0,0,0,0,0,0,false⟩→cd [W0,W1,W2,W3] 8 = ⟨1,ext W0 32 32,ext W1 0 32,0,ext W2 0 16,0,0,0,false⟩:=by
  intro W0 W1 W2 W3 h
  rw [cd_eight,h]
  simp [stD,ph,pw,pf,ps,Cm.put]
 rw [hd _ _ _ _ h0]
 have x0:ext (1 + dev * 4294967296) 32 32 = dev:=by rw [ext_eq (by omega) (by omega) (by omega)]; omega
 have x1:ext (ev + num * 4294967296 + bits) 0 32 = ev:=by rw [ext_eq (by omega) (by omega) (by omega)]; omega
 have x3:ext (coll + tgt * 65536 + addr / 256 * 256 + 0 * 9223372036854775808) 0 16 = coll:=by rw [ext_eq (by omega) (by omega) (by omega)]; omega
 rw [x0,x1,x3]
 subst f2
 subst f4
 subst f5
 obtain rfl:addr = 0:=by omega
 try rfl
theorem rt_3 (dev ev num coll tgt bits addr:Int) (val:Bool) (hA:addr % 256 = 0) (f:Fld ⟨3,dev,ev,num,coll,tgt,bits,addr,val⟩) :
 wd ⟨3,dev,ev,num,coll,tgt,bits,addr,val⟩ 8 = wS ⟨3,dev,ev,num,coll,tgt,bits,addr,val⟩∧cd (wS ⟨3,dev,ev,num,coll,tgt,bits,addr,val⟩) 8 = ⟨3,dev,ev,num,coll,tgt,bits,addr,val⟩:=by
 have f0:0≤dev∧dev < 2 ^ 32:=⟨(f 0 (by omega)).1,(f 0 (by omega)).2.1⟩
 have f1:0≤ev∧ev < 2 ^ 32:=⟨(f 1 (by omega)).1,(f 1 (by omega)).2.1⟩
 have f2:num = 0:=(f 2 (by omega)).2.2 (by simp [ph])
 have f3:coll = 0:=(f 3 (by omega)).2.2 (by simp [ph])
 have f4:tgt = 0:=(f 4 (by omega)).2.2 (by simp [ph])
 have f5:bits = 0:=(f 5 (by omega)).2.2 (by simp [ph])
 have f6:(addr / 256) = 0:=(f 6 (by omega)).2.2 (by simp [ph])
 have f7:val = false:=by have h:=(f 7 (by omega)).2.2 (by simp [ph]); cases val <;> first | rfl | cases h
 subst f7
 have e:wd ⟨3,dev,ev,num,coll,tgt,bits,addr,false⟩ 8 = wS ⟨3,dev,ev,num,coll,tgt,bits,addr,false⟩:=by
  show [insB (3) dev 32,insB (0) ev 0,0,0] = _
  rw [insB_eq (a:=3) (n:=dev) (f:=32) (by omega) (by omega) (by omega) (by omega),insB_eq (a:=0) (n:=ev) (f:=0) (by omega) (by omega) (by omega) (by omega)]
  unfold wS
  dsimp only
  simp only [show ¬ ((3:Int) = 14) by decide,if_false,Bool.false_eq_true,if_true]
  exact l4 (by omega) (by omega) (by omega) (by omega)
 refine ⟨e,?_⟩
 unfold wS
 dsimp only
 simp only [show ¬ ((3:Int) = 14) by decide,if_false,Bool.false_eq_true,if_true]
 have h0:cd [3 + dev * 4294967296,ev + num * 4294967296 + bits,coll + tgt * 65536 + addr / 256 * 256 + 0 * 9223372036854775808,0 * 65536] 0 = ⟨3,0,0,0,0,0,0,0,false⟩:=by
  rw [cd_zero,low8 (by omega) (by omega),show (3 + dev * 4294967296) % 256 = 3 by omega]
 have hd:∀ W0 W1 W2 W3:Int,cd [W0,W1,W2,W3] 0 = ⟨3,0,0,0,0,0,0,0,false⟩→cd [W0,W1,W2,W3] 8 = ⟨3,ext W0 32 32,ext W1 0 32,0,0,0,0,0,false⟩:=by
  intro W0 W1 W2 W3 h
  rw [cd_eight,h]
  simp [stD,ph,pw,pf,ps,Cm.put]
 rw [hd _ _ _ _ h0]
 have x0:ext (3 + dev * 4294967296) 32 32 = dev:=by rw [ext_eq (by omega) (by omega) (by omega)]; omega
 have x1:ext (ev + num * 4294967296 + bits) 0 32 = ev:=by rw [ext_eq (by omega) (by omega) (by omega)]; omega
 rw [x0,x1]
 subst f2
 subst f3
 subst f4
 subst f5
 obtain rfl:addr = 0:=by omega
 try rfl
theorem rt_4 (dev ev num coll tgt bits addr:Int) (val:Bool) (hA:addr % 256 = 0) (f:Fld ⟨4,dev,ev,num,coll,tgt,bits,addr,val⟩) :
 wd ⟨4,dev,ev,num,coll,tgt,bits,addr,val⟩ 8 = wS ⟨4,dev,ev,num,coll,tgt,bits,addr,val⟩∧cd (wS ⟨4,dev,ev,num,coll,tgt,bits,addr,val⟩) 8 = ⟨4,dev,ev,num,coll,tgt,bits,addr,val⟩:=by
 have f0:0≤dev∧dev < 2 ^ 32:=⟨(f 0 (by omega)).1,(f 0 (by omega)).2.1⟩
 have f1:0≤ev∧ev < 2 ^ 32:=⟨(f 1 (by omega)).1,(f 1 (by omega)).2.1⟩
 have f2:num = 0:=(f 2 (by omega)).2.2 (by simp [ph])
 have f3:coll = 0:=(f 3 (by omega)).2.2 (by simp [ph])
 have f4:tgt = 0:=(f 4 (by omega)).2.2 (by simp [ph])
 have f5:bits = 0:=(f 5 (by omega)).2.2 (by simp [ph])
 have f6:(addr / 256) = 0:=(f 6 (by omega)).2.2 (by simp [ph])
 have f7:val = false:=by have h:=(f 7 (by omega)).2.2 (by simp [ph]); cases val <;> first | rfl | cases h
 subst f7
 have e:wd ⟨4,dev,ev,num,coll,tgt,bits,addr,false⟩ 8 = wS ⟨4,dev,ev,num,coll,tgt,bits,addr,false⟩:=by
  show [insB (4) dev 32,insB (0) ev 0,0,0] = _
  rw [insB_eq (a:=4) (n:=dev) (f:=32) (by omega) (by omega) (by omega) (by omega),insB_eq (a:=0) (n:=ev) (f:=0) (by omega) (by omega) (by omega) (by omega)]
  unfold wS
  dsimp only
  simp only [show ¬ ((4:Int) = 14) by decide,if_false,Bool.false_eq_true,if_true]
  exact l4 (by omega) (by omega) (by omega) (by omega)
 refine ⟨e,?_⟩
 unfold wS
 dsimp only
 simp only [show ¬ ((4:Int) = 14) by decide,if_false,Bool.false_eq_true,if_true]
 have h0:cd [4 + dev * 4294967296,ev + num * 4294967296 + bits,coll + tgt * 65536 + addr / 256 * 256 + 0 * 9223372036854775808,0 * 65536] 0 = ⟨4,0,0,0,0,0,0,0,false⟩:=by
  rw [cd_zero,low8 (by omega) (by omega),show (4 + dev * 4294967296) % 256 = 4 by omega]
 have hd:∀ W0 W1 W2 W3:Int,cd [W0,W1,W2,W3] 0 = ⟨4,0,0,0,0,0,0,0,false⟩→cd [W0,W1,W2,W3] 8 = ⟨4,ext W0 32 32,ext W1 0 32,0,0,0,0,0,false⟩:=by
  intro W0 W1 W2 W3 h
  rw [cd_eight,h]
  simp [stD,ph,pw,pf,ps,Cm.put]
 rw [hd _ _ _ _ h0]
 have x0:ext (4 + dev * 4294967296) 32 32 = dev:=by rw [ext_eq (by omega) (by omega) (by omega)]; omega
 have x1:ext (ev + num * 4294967296 + bits) 0 32 = ev:=by rw [ext_eq (by omega) (by omega) (by omega)]; omega
 rw [x0,x1]
 subst f2
 subst f3
 subst f4
 subst f5
 obtain rfl:addr = 0:=by omega
 try rfl
theorem rt_5 (dev ev num coll tgt bits addr:Int) (val:Bool) (hA:addr % 256 = 0) (f:Fld ⟨5,dev,ev,num,coll,tgt,bits,addr,val⟩) :
 wd ⟨5,dev,ev,num,coll,tgt,bits,addr,val⟩ 8 = wS ⟨5,dev,ev,num,coll,tgt,bits,addr,val⟩∧cd (wS ⟨5,dev,ev,num,coll,tgt,bits,addr,val⟩) 8 = ⟨5,dev,ev,num,coll,tgt,bits,addr,val⟩:=by
 have f0:dev = 0:=(f 0 (by omega)).2.2 (by simp [ph])
 have f1:ev = 0:=(f 1 (by omega)).2.2 (by simp [ph])
 have f2:num = 0:=(f 2 (by omega)).2.2 (by simp [ph])
 have f3:coll = 0:=(f 3 (by omega)).2.2 (by simp [ph])
 have f4:0≤tgt∧tgt < 2 ^ 16:=⟨(f 4 (by omega)).1,(f 4 (by omega)).2.1⟩
 have f5:bits = 0:=(f 5 (by omega)).2.2 (by simp [ph])
 have f6:(addr / 256) = 0:=(f 6 (by omega)).2.2 (by simp [ph])
 have f7:val = false:=by have h:=(f 7 (by omega)).2.2 (by simp [ph]); cases val <;> first | rfl | cases h
 subst f7
 have e:wd ⟨5,dev,ev,num,coll,tgt,bits,addr,false⟩ 8 = wS ⟨5,dev,ev,num,coll,tgt,bits,addr,false⟩:=by
  show [5,0,insB (0) tgt 16,0] = _
  rw [insB_eq (a:=0) (n:=tgt) (f:=16) (by omega) (by omega) (by omega) (by omega)]
  unfold wS
  dsimp only
  simp only [show ¬ ((5:Int) = 14) by decide,if_false,Bool.false_eq_true,if_true]
  exact l4 (by omega) (by omega) (by omega) (by omega)
 refine ⟨e,?_⟩
 unfold wS
 dsimp only
 simp only [show ¬ ((5:Int) = 14) by decide,if_false,Bool.false_eq_true,if_true]
 have h0:cd [5 + dev * 4294967296,ev + num * 4294967296 + bits,coll + tgt * 65536 + addr / 256 * 256 + 0 * 9223372036854775808,0 * 65536] 0 = ⟨5,0,0,0,0,0,0,0,false⟩:=by
  rw [cd_zero,low8 (by omega) (by omega),show (5 + dev * 4294967296) % 256 = 5 by omega]
 have hd:∀ W0 W1 W2 W3:Int,cd [W0,W1,W2,W3] 0 = ⟨5,0,0,0,0,0,0,0,false⟩→cd [W0,W1,W2,W3] 8 = ⟨5,0,0,0,0,ext W2 16 16,0,0,false⟩:=by
  intro W0 W1 W2 W3 h
  rw [cd_eight,h]
  simp [stD,ph,pw,pf,ps,Cm.put]
 rw [hd _ _ _ _ h0]
 have x4:ext (coll + tgt * 65536 + addr / 256 * 256 + 0 * 9223372036854775808) 16 16 = tgt:=by rw [ext_eq (by omega) (by omega) (by omega)]; omega
 rw [x4]
 subst f0
 subst f1
 subst f2
 subst f3
 subst f5
 obtain rfl:addr = 0:=by omega
 try rfl
theorem rt_8 (dev ev num coll tgt bits addr:Int) (val:Bool) (hA:addr % 256 = 0) (f:Fld ⟨8,dev,ev,num,coll,tgt,bits,addr,val⟩) :
 wd ⟨8,dev,ev,num,coll,tgt,bits,addr,val⟩ 8 = wS ⟨8,dev,ev,num,coll,tgt,bits,addr,val⟩∧cd (wS ⟨8,dev,ev,num,coll,tgt,bits,addr,val⟩) 8 = ⟨8,dev,ev,num,coll,tgt,bits,addr,val⟩:=by
 have f0:0≤dev∧dev < 2 ^ 32:=⟨(f 0 (by omega)).1,(f 0 (by omega)).2.1⟩
 have f1:ev = 0:=(f 1 (by omega)).2.2 (by simp [ph])
 have f2:num = 0:=(f 2 (by omega)).2.2 (by simp [ph])
 have f3:coll = 0:=(f 3 (by omega)).2.2 (by simp [ph])
 have f4:tgt = 0:=(f 4 (by omega)).2.2 (by simp [ph])
 have f5:0≤bits∧bits < 2 ^ 5:=⟨(f 5 (by omega)).1,(f 5 (by omega)).2.1⟩
 have f6:0≤(addr / 256)∧(addr / 256) < 2 ^ 40:=⟨(f 6 (by omega)).1,(f 6 (by omega)).2.1⟩
 have f7:True:=trivial
 have hv:(0:Int)≤(if val = true then 1 else 0)∧(if val = true then (1:Int) else 0)≤1:=by cases val <;> decide
 have e:wd ⟨8,dev,ev,num,coll,tgt,bits,addr,val⟩ 8 = wS ⟨8,dev,ev,num,coll,tgt,bits,addr,val⟩:=by
  show [insB (8) dev 32,insB (0) bits 0,insB (insB (0) (addr / 256) 8) (if val = true then 1 else 0) 63,0] = _
  rw [insB_eq (a:=8) (n:=dev) (f:=32) (by omega) (by omega) (by omega) (by omega),insB_eq (a:=0) (n:=bits) (f:=0) (by omega) (by omega) (by omega) (by omega),insB_eq (a:=0) (n:=(addr / 256)) (f:=8) (by omega) (by omega) (by omega) (by omega),insB_eq (a:=0 + (addr / 256) * 2 ^ 8) (n:=(if val = true then 1 else 0)) (f:=63) (by omega) (by omega) (by omega) (by omega)]
  unfold wS
  dsimp only
  simp only [show ¬ ((8:Int) = 14) by decide,if_false,Bool.false_eq_true,if_true]
  exact l4 (by omega) (by omega) (by omega) (by omega)
 refine ⟨e,?_⟩
 unfold wS
 dsimp only
 simp only [show ¬ ((8:Int) = 14) by decide,if_false,Bool.false_eq_true,if_true]
 have h0:cd [8 + dev * 4294967296,ev + num * 4294967296 + bits,coll + tgt * 65536 + addr / 256 * 256 + (if val = true then 1 else 0) * 9223372036854775808,0 * 65536] 0 = ⟨8,0,0,0,0,0,0,0,false⟩:=by
  rw [cd_zero,low8 (by omega) (by omega),show (8 + dev * 4294967296) % 256 = 8 by omega]
 have hd:∀ W0 W1 W2 W3:Int,cd [W0,W1,W2,W3] 0 = ⟨8,0,0,0,0,0,0,0,false⟩→cd [W0,W1,W2,W3] 8 = ⟨8,ext W0 32 32,0,0,0,0,ext W1 0 5,IntKind.i64.wrap (ext W2 8 40 * 256),(ext W2 63 1 == 1)⟩:=by
  intro W0 W1 W2 W3 h
  rw [cd_eight,h]
  simp [stD,ph,pw,pf,ps,Cm.put]
 rw [hd _ _ _ _ h0]
 have x0:ext (8 + dev * 4294967296) 32 32 = dev:=by rw [ext_eq (by omega) (by omega) (by omega)]; omega
 have x5:ext (ev + num * 4294967296 + bits) 0 5 = bits:=by rw [ext_eq (by omega) (by omega) (by omega)]; omega
 have x6:ext (coll + tgt * 65536 + addr / 256 * 256 + (if val = true then 1 else 0) * 9223372036854775808) 8 40 = (addr / 256):=by rw [ext_eq (by omega) (by omega) (by omega)]; omega
 have x7:ext (coll + tgt * 65536 + addr / 256 * 256 + (if val = true then 1 else 0) * 9223372036854775808) 63 1 = (if val = true then 1 else 0):=by rw [ext_eq (by omega) (by omega) (by omega)]; omega
 rw [x0,x5,x6,x7]
 rw [W_id (by omega) (by omega),show addr / 256 * 256 = addr by omega]
 subst f1
 subst f2
 subst f3
 subst f4
 cases val <;> rfl
theorem rt_9 (dev ev num coll tgt bits addr:Int) (val:Bool) (hA:addr % 256 = 0) (f:Fld ⟨9,dev,ev,num,coll,tgt,bits,addr,val⟩) :
 wd ⟨9,dev,ev,num,coll,tgt,bits,addr,val⟩ 8 = wS ⟨9,dev,ev,num,coll,tgt,bits,addr,val⟩∧cd (wS ⟨9,dev,ev,num,coll,tgt,bits,addr,val⟩) 8 = ⟨9,dev,ev,num,coll,tgt,bits,addr,val⟩:=by
 have f0:dev = 0:=(f 0 (by omega)).2.2 (by simp [ph])
 have f1:ev = 0:=(f 1 (by omega)).2.2 (by simp [ph])
 have f2:num = 0:=(f 2 (by omega)).2.2 (by simp [ph])
 have f3:0≤coll∧coll < 2 ^ 16:=⟨(f 3 (by omega)).1,(f 3 (by omega)).2.1⟩
 have f4:0≤tgt∧tgt < 2 ^ 16:=⟨(f 4 (by omega)).1,(f 4 (by omega)).2.1⟩
 have f5:bits = 0:=(f 5 (by omega)).2.2 (by simp [ph])
 have f6:(addr / 256) = 0:=(f 6 (by omega)).2.2 (by simp [ph])
 have f7:True:=trivial
 have hv:(0:Int)≤(if val = true then 1 else 0)∧(if val = true then (1:Int) else 0)≤1:=by cases val <;> decide
 have e:wd ⟨9,dev,ev,num,coll,tgt,bits,addr,val⟩ 8 = wS ⟨9,dev,ev,num,coll,tgt,bits,addr,val⟩:=by
  show [9,0,insB (insB (insB (0) coll 0) tgt 16) (if val = true then 1 else 0) 63,0] = _
  rw [insB_eq (a:=0) (n:=coll) (f:=0) (by omega) (by omega) (by omega) (by omega),insB_eq (a:=0 + coll * 2 ^ 0) (n:=tgt) (f:=16) (by omega) (by omega) (by omega) (by omega),insB_eq (a:=0 + coll * 2 ^ 0 + tgt * 2 ^ 16) (n:=(if val = true then 1 else 0)) (f:=63) (by omega) (by omega) (by omega) (by omega)]
  unfold wS
  dsimp only
  simp only [show ¬ ((9:Int) = 14) by decide,if_false,Bool.false_eq_true,if_true]
  exact l4 (by omega) (by omega) (by omega) (by omega)
 refine ⟨e,?_⟩
 unfold wS
 dsimp only
 simp only [show ¬ ((9:Int) = 14) by decide,if_false,Bool.false_eq_true,if_true]
 have h0:cd [9 + dev * 4294967296,ev + num * 4294967296 + bits,coll + tgt * 65536 + addr / 256 * 256 + (if val = true then 1 else 0) * 9223372036854775808,0 * 65536] 0 = ⟨9,0,0,0,0,0,0,0,false⟩:=by
  rw [cd_zero,low8 (by omega) (by omega),show (9 + dev * 4294967296) % 256 = 9 by omega]
 have hd:∀ W0 W1 W2 W3:Int,cd [W0,W1,W2,W3] 0 = ⟨9,0,0,0,0,0,0,0,false⟩→cd [W0,W1,W2,W3] 8 = ⟨9,0,0,0,ext W2 0 16,ext W2 16 16,0,0,(ext W2 63 1 == 1)⟩:=by
  intro W0 W1 W2 W3 h
  rw [cd_eight,h]
  simp [stD,ph,pw,pf,ps,Cm.put]
 rw [hd _ _ _ _ h0]
 have x3:ext (coll + tgt * 65536 + addr / 256 * 256 + (if val = true then 1 else 0) * 9223372036854775808) 0 16 = coll:=by rw [ext_eq (by omega) (by omega) (by omega)]; omega
 have x4:ext (coll + tgt * 65536 + addr / 256 * 256 + (if val = true then 1 else 0) * 9223372036854775808) 16 16 = tgt:=by rw [ext_eq (by omega) (by omega) (by omega)]; omega
 have x7:ext (coll + tgt * 65536 + addr / 256 * 256 + (if val = true then 1 else 0) * 9223372036854775808) 63 1 = (if val = true then 1 else 0):=by rw [ext_eq (by omega) (by omega) (by omega)]; omega
 rw [x3,x4,x7]
 subst f0
 subst f1
 subst f2
 subst f5
 obtain rfl:addr = 0:=by omega
 cases val <;> rfl
theorem rt_10 (dev ev num coll tgt bits addr:Int) (val:Bool) (hA:addr % 256 = 0) (f:Fld ⟨10,dev,ev,num,coll,tgt,bits,addr,val⟩) :
 wd ⟨10,dev,ev,num,coll,tgt,bits,addr,val⟩ 8 = wS ⟨10,dev,ev,num,coll,tgt,bits,addr,val⟩∧cd (wS ⟨10,dev,ev,num,coll,tgt,bits,addr,val⟩) 8 = ⟨10,dev,ev,num,coll,tgt,bits,addr,val⟩:=by
 have f0:0≤dev∧dev < 2 ^ 32:=⟨(f 0 (by omega)).1,(f 0 (by omega)).2.1⟩
 have f1:0≤ev∧ev < 2 ^ 32:=⟨(f 1 (by omega)).1,(f 1 (by omega)).2.1⟩
 have f2:0≤num∧num < 2 ^ 32:=⟨(f 2 (by omega)).1,(f 2 (by omega)).2.1⟩
 have f3:0≤coll∧coll < 2 ^ 16:=⟨(f 3 (by omega)).1,(f 3 (by omega)).2.1⟩
 have f4:tgt = 0:=(f 4 (by omega)).2.2 (by simp [ph])
 have f5:bits = 0:=(f 5 (by omega)).2.2 (by simp [ph])
 have f6:(addr / 256) = 0:=(f 6 (by omega)).2.2 (by simp [ph])
 have f7:val = false:=by have h:=(f 7 (by omega)).2.2 (by simp [ph]); cases val <;> first | rfl | cases h
 subst f7
 have e:wd ⟨10,dev,ev,num,coll,tgt,bits,addr,false⟩ 8 = wS ⟨10,dev,ev,num,coll,tgt,bits,addr,false⟩:=by
  show [insB (10) dev 32,insB (insB (0) ev 0) num 32,insB (0) coll 0,0] = _
  rw [insB_eq (a:=10) (n:=dev) (f:=32) (by omega) (by omega) (by omega) (by omega),insB_eq (a:=0) (n:=ev) (f:=0) (by omega) (by omega) (by omega) (by omega),insB_eq (a:=0 + ev * 2 ^ 0) (n:=num) (f:=32) (by omega) (by omega) (by omega) (by omega),insB_eq (a:=0) (n:=coll) (f:=0) (by omega) (by omega) (by omega) (by omega)]
  unfold wS
  dsimp only
  simp only [show ¬ ((10:Int) = 14) by decide,if_false,Bool.false_eq_true,if_true]
  exact l4 (by omega) (by omega) (by omega) (by omega)
 refine ⟨e,?_⟩
 unfold wS
 dsimp only
 simp only [show ¬ ((10:Int) = 14) by decide,if_false,Bool.false_eq_true,if_true]
 have h0:cd [10 + dev * 4294967296,ev + num * 4294967296 + bits,coll + tgt * 65536 + addr / 256 * 256 + 0 * 9223372036854775808,0 * 65536] 0 = ⟨10,0,0,0,0,0,0,0,false⟩:=by
  rw [cd_zero,low8 (by omega) (by omega),show (10 + dev * 4294967296) % 256 = 10 by omega]
 have hd:∀ W0 W1 W2 W3:Int,cd [W0,W1,W2,W3] 0 = ⟨10,0,0,0,0,0,0,0,false⟩→cd [W0,W1,W2,W3] 8 = ⟨10,ext W0 32 32,ext W1 0 32,ext W1 32 32,ext W2 0 16,0,0,0,false⟩:=by
  intro W0 W1 W2 W3 h
  rw [cd_eight,h]
  simp [stD,ph,pw,pf,ps,Cm.put]
 rw [hd _ _ _ _ h0]
 have x0:ext (10 + dev * 4294967296) 32 32 = dev:=by rw [ext_eq (by omega) (by omega) (by omega)]; omega
 have x1:ext (ev + num * 4294967296 + bits) 0 32 = ev:=by rw [ext_eq (by omega) (by omega) (by omega)]; omega
 have x2:ext (ev + num * 4294967296 + bits) 32 32 = num:=by rw [ext_eq (by omega) (by omega) (by omega)]; omega
 have x3:ext (coll + tgt * 65536 + addr / 256 * 256 + 0 * 9223372036854775808) 0 16 = coll:=by rw [ext_eq (by omega) (by omega) (by omega)]; omega
 rw [x0,x1,x2,x3]
 subst f4
 subst f5
 obtain rfl:addr = 0:=by omega
 try rfl
theorem rt_11 (dev ev num coll tgt bits addr:Int) (val:Bool) (hA:addr % 256 = 0) (f:Fld ⟨11,dev,ev,num,coll,tgt,bits,addr,val⟩) :
 wd ⟨11,dev,ev,num,coll,tgt,bits,addr,val⟩ 8 = wS ⟨11,dev,ev,num,coll,tgt,bits,addr,val⟩∧cd (wS ⟨11,dev,ev,num,coll,tgt,bits,addr,val⟩) 8 = ⟨11,dev,ev,num,coll,tgt,bits,addr,val⟩:=by
 have f0:0≤dev∧dev < 2 ^ 32:=⟨(f 0 (by omega)).1,(f 0 (by omega)).2.1⟩
 have f1:0≤ev∧ev < 2 ^ 32:=⟨(f 1 (by omega)).1,(f 1 (by omega)).2.1⟩
 have f2:num = 0:=(f 2 (by omega)).2.2 (by simp [ph])
 have f3:0≤coll∧coll < 2 ^ 16:=⟨(f 3 (by omega)).1,(f 3 (by omega)).2.1⟩
 have f4:tgt = 0:=(f 4 (by omega)).2.2 (by simp [ph])
 have f5:bits = 0:=(f 5 (by omega)).2.2 (by simp [ph])
 have f6:(addr / 256) = 0:=(f 6 (by omega)).2.2 (by simp [ph])
 have f7:val = false:=by have h:=(f 7 (by omega)).2.2 (by simp [ph]); cases val <;> first | rfl | cases h
 subst f7
 have e:wd ⟨11,dev,ev,num,coll,tgt,bits,addr,false⟩ 8 = wS ⟨11,dev,ev,num,coll,tgt,bits,addr,false⟩:=by
  show [insB (11) dev 32,insB (0) ev 0,insB (0) coll 0,0] = _
  rw [insB_eq (a:=11) (n:=dev) (f:=32) (by omega) (by omega) (by omega) (by omega),insB_eq (a:=0) (n:=ev) (f:=0) (by omega) (by omega) (by omega) (by omega),insB_eq (a:=0) (n:=coll) (f:=0) (by omega) (by omega) (by omega) (by omega)]
  unfold wS
  dsimp only
  simp only [show ¬ ((11:Int) = 14) by decide,if_false,Bool.false_eq_true,if_true]
  exact l4 (by omega) (by omega) (by omega) (by omega)
 refine ⟨e,?_⟩
 unfold wS
 dsimp only
 simp only [show ¬ ((11:Int) = 14) by decide,if_false,Bool.false_eq_true,if_true]
 have h0:cd [11 + dev * 4294967296,ev + num * 4294967296 + bits,coll + tgt * 65536 + addr / 256 * 256 + 0 * 9223372036854775808,0 * 65536] 0 = ⟨11,0,0,0,0,0,0,0,false⟩:=by
  rw [cd_zero,low8 (by omega) (by omega),show (11 + dev * 4294967296) % 256 = 11 by omega]
 have hd:∀ W0 W1 W2 W3:Int,cd [W0,W1,W2,W3] 0 = ⟨11,0,0,0,0,0,0,0,false⟩→cd [W0,W1,W2,W3] 8 = ⟨11,ext W0 32 32,ext W1 0 32,0,ext W2 0 16,0,0,0,false⟩:=by
  intro W0 W1 W2 W3 h
  rw [cd_eight,h]
  simp [stD,ph,pw,pf,ps,Cm.put]
 rw [hd _ _ _ _ h0]
 have x0:ext (11 + dev * 4294967296) 32 32 = dev:=by rw [ext_eq (by omega) (by omega) (by omega)]; omega
 have x1:ext (ev + num * 4294967296 + bits) 0 32 = ev:=by rw [ext_eq (by omega) (by omega) (by omega)]; omega
 have x3:ext (coll + tgt * 65536 + addr / 256 * 256 + 0 * 9223372036854775808) 0 16 = coll:=by rw [ext_eq (by omega) (by omega) (by omega)]; omega
 rw [x0,x1,x3]
 subst f2
 subst f4
 subst f5
 obtain rfl:addr = 0:=by omega
 try rfl
theorem rt_12 (dev ev num coll tgt bits addr:Int) (val:Bool) (hA:addr % 256 = 0) (f:Fld ⟨12,dev,ev,num,coll,tgt,bits,addr,val⟩) :
 wd ⟨12,dev,ev,num,coll,tgt,bits,addr,val⟩ 8 = wS ⟨12,dev,ev,num,coll,tgt,bits,addr,val⟩∧cd (wS ⟨12,dev,ev,num,coll,tgt,bits,addr,val⟩) 8 = ⟨12,dev,ev,num,coll,tgt,bits,addr,val⟩:=by
 have f0:0≤dev∧dev < 2 ^ 32:=⟨(f 0 (by omega)).1,(f 0 (by omega)).2.1⟩
 have f1:0≤ev∧ev < 2 ^ 32:=⟨(f 1 (by omega)).1,(f 1 (by omega)).2.1⟩
 have f2:num = 0:=(f 2 (by omega)).2.2 (by simp [ph])
 have f3:coll = 0:=(f 3 (by omega)).2.2 (by simp [ph])
 have f4:tgt = 0:=(f 4 (by omega)).2.2 (by simp [ph])
 have f5:bits = 0:=(f 5 (by omega)).2.2 (by simp [ph])
 have f6:(addr / 256) = 0:=(f 6 (by omega)).2.2 (by simp [ph])
 have f7:val = false:=by have h:=(f 7 (by omega)).2.2 (by simp [ph]); cases val <;> first | rfl | cases h
 subst f7
 have e:wd ⟨12,dev,ev,num,coll,tgt,bits,addr,false⟩ 8 = wS ⟨12,dev,ev,num,coll,tgt,bits,addr,false⟩:=by
  show [insB (12) dev 32,insB (0) ev 0,0,0] = _
  rw [insB_eq (a:=12) (n:=dev) (f:=32) (by omega) (by omega) (by omega) (by omega),insB_eq (a:=0) (n:=ev) (f:=0) (by omega) (by omega) (by omega) (by omega)]
  unfold wS
  dsimp only
  simp only [show ¬ ((12:Int) = 14) by decide,if_false,Bool.false_eq_true,if_true]
  exact l4 (by omega) (by omega) (by omega) (by omega)
 refine ⟨e,?_⟩
 unfold wS
 dsimp only
 simp only [show ¬ ((12:Int) = 14) by decide,if_false,Bool.false_eq_true,if_true]
 have h0:cd [12 + dev * 4294967296,ev + num * 4294967296 + bits,coll + tgt * 65536 + addr / 256 * 256 + 0 * 9223372036854775808,0 * 65536] 0 = ⟨12,0,0,0,0,0,0,0,false⟩:=by
  rw [cd_zero,low8 (by omega) (by omega),show (12 + dev * 4294967296) % 256 = 12 by omega]
 have hd:∀ W0 W1 W2 W3:Int,cd [W0,W1,W2,W3] 0 = ⟨12,0,0,0,0,0,0,0,false⟩→cd [W0,W1,W2,W3] 8 = ⟨12,ext W0 32 32,ext W1 0 32,0,0,0,0,0,false⟩:=by
  intro W0 W1 W2 W3 h
  rw [cd_eight,h]
  simp [stD,ph,pw,pf,ps,Cm.put]
 rw [hd _ _ _ _ h0]
 have x0:ext (12 + dev * 4294967296) 32 32 = dev:=by rw [ext_eq (by omega) (by omega) (by omega)]; omega
 have x1:ext (ev + num * 4294967296 + bits) 0 32 = ev:=by rw [ext_eq (by omega) (by omega) (by omega)]; omega
 rw [x0,x1]
 subst f2
 subst f3
 subst f4
 subst f5
 obtain rfl:addr = 0:=by omega
 try rfl
theorem rt_13 (dev ev num coll tgt bits addr:Int) (val:Bool) (hA:addr % 256 = 0) (f:Fld ⟨13,dev,ev,num,coll,tgt,bits,addr,val⟩) :
 wd ⟨13,dev,ev,num,coll,tgt,bits,addr,val⟩ 8 = wS ⟨13,dev,ev,num,coll,tgt,bits,addr,val⟩∧cd (wS ⟨13,dev,ev,num,coll,tgt,bits,addr,val⟩) 8 = ⟨13,dev,ev,num,coll,tgt,bits,addr,val⟩:=by
 have f0:dev = 0:=(f 0 (by omega)).2.2 (by simp [ph])
 have f1:ev = 0:=(f 1 (by omega)).2.2 (by simp [ph])
 have f2:num = 0:=(f 2 (by omega)).2.2 (by simp [ph])
 have f3:0≤coll∧coll < 2 ^ 16:=⟨(f 3 (by omega)).1,(f 3 (by omega)).2.1⟩
 have f4:tgt = 0:=(f 4 (by omega)).2.2 (by simp [ph])
 have f5:bits = 0:=(f 5 (by omega)).2.2 (by simp [ph])
 have f6:(addr / 256) = 0:=(f 6 (by omega)).2.2 (by simp [ph])
 have f7:val = false:=by have h:=(f 7 (by omega)).2.2 (by simp [ph]); cases val <;> first | rfl | cases h
 subst f7
 have e:wd ⟨13,dev,ev,num,coll,tgt,bits,addr,false⟩ 8 = wS ⟨13,dev,ev,num,coll,tgt,bits,addr,false⟩:=by
  show [13,0,insB (0) coll 0,0] = _
  rw [insB_eq (a:=0) (n:=coll) (f:=0) (by omega) (by omega) (by omega) (by omega)]
  unfold wS
  dsimp only
  simp only [show ¬ ((13:Int) = 14) by decide,if_false,Bool.false_eq_true,if_true]
  exact l4 (by omega) (by omega) (by omega) (by omega)
 refine ⟨e,?_⟩
 unfold wS
 dsimp only
 simp only [show ¬ ((13:Int) = 14) by decide,if_false,Bool.false_eq_true,if_true]
 have h0:cd [13 + dev * 4294967296,ev + num * 4294967296 + bits,coll + tgt * 65536 + addr / 256 * 256 + 0 * 9223372036854775808,0 * 65536] 0 = ⟨13,0,0,0,0,0,0,0,false⟩:=by
  rw [cd_zero,low8 (by omega) (by omega),show (13 + dev * 4294967296) % 256 = 13 by omega]
 have hd:∀ W0 W1 W2 W3:Int,cd [W0,W1,W2,W3] 0 = ⟨13,0,0,0,0,0,0,0,false⟩→cd [W0,W1,W2,W3] 8 = ⟨13,0,0,0,ext W2 0 16,0,0,0,false⟩:=by
  intro W0 W1 W2 W3 h
  rw [cd_eight,h]
  simp [stD,ph,pw,pf,ps,Cm.put]
 rw [hd _ _ _ _ h0]
 have x3:ext (coll + tgt * 65536 + addr / 256 * 256 + 0 * 9223372036854775808) 0 16 = coll:=by rw [ext_eq (by omega) (by omega) (by omega)]; omega
 rw [x3]
 subst f0
 subst f1
 subst f2
 subst f4
 subst f5
 obtain rfl:addr = 0:=by omega
 try rfl
theorem rt_14 (dev ev num coll tgt bits addr:Int) (val:Bool) (hA:addr % 256 = 0) (f:Fld ⟨14,dev,ev,num,coll,tgt,bits,addr,val⟩) :
 wd ⟨14,dev,ev,num,coll,tgt,bits,addr,val⟩ 8 = wS ⟨14,dev,ev,num,coll,tgt,bits,addr,val⟩∧cd (wS ⟨14,dev,ev,num,coll,tgt,bits,addr,val⟩) 8 = ⟨14,dev,ev,num,coll,tgt,bits,addr,val⟩:=by
 have f0:dev = 0:=(f 0 (by omega)).2.2 (by simp [ph])
 have f1:ev = 0:=(f 1 (by omega)).2.2 (by simp [ph])
 have f2:0≤num∧num < 2 ^ 16:=⟨(f 2 (by omega)).1,(f 2 (by omega)).2.1⟩
 have f3:coll = 0:=(f 3 (by omega)).2.2 (by simp [ph])
 have f4:0≤tgt∧tgt < 2 ^ 16:=⟨(f 4 (by omega)).1,(f 4 (by omega)).2.1⟩
 have f5:bits = 0:=(f 5 (by omega)).2.2 (by simp [ph])
 have f6:(addr / 256) = 0:=(f 6 (by omega)).2.2 (by simp [ph])
 have f7:val = false:=by have h:=(f 7 (by omega)).2.2 (by simp [ph]); cases val <;> first | rfl | cases h
 subst f7
 have e:wd ⟨14,dev,ev,num,coll,tgt,bits,addr,false⟩ 8 = wS ⟨14,dev,ev,num,coll,tgt,bits,addr,false⟩:=by
  show [14,0,insB (0) tgt 16,insB (0) num 16] = _
  rw [insB_eq (a:=0) (n:=num) (f:=16) (by omega) (by omega) (by omega) (by omega),insB_eq (a:=0) (n:=tgt) (f:=16) (by omega) (by omega) (by omega) (by omega)]
  unfold wS
  dsimp only
  simp only [show ((14:Int) = 14) = True by simp,if_false,Bool.false_eq_true,if_true]
  exact l4 (by omega) (by omega) (by omega) (by omega)
 refine ⟨e,?_⟩
 unfold wS
 dsimp only
 simp only [show ((14:Int) = 14) = True by simp,if_false,Bool.false_eq_true,if_true]
 have h0:cd [14 + dev * 4294967296,ev + 0 * 4294967296 + bits,coll + tgt * 65536 + addr / 256 * 256 + 0 * 9223372036854775808,num * 65536] 0 = ⟨14,0,0,0,0,0,0,0,false⟩:=by
  rw [cd_zero,low8 (by omega) (by omega),show (14 + dev * 4294967296) % 256 = 14 by omega]
 have hd:∀ W0 W1 W2 W3:Int,cd [W0,W1,W2,W3] 0 = ⟨14,0,0,0,0,0,0,0,false⟩→cd [W0,W1,W2,W3] 8 = ⟨14,0,0,ext W3 16 16,0,ext W2 16 16,0,0,false⟩:=by
  intro W0 W1 W2 W3 h
  rw [cd_eight,h]
  simp [stD,ph,pw,pf,ps,Cm.put]
 rw [hd _ _ _ _ h0]
 have x2:ext (num * 65536) 16 16 = num:=by rw [ext_eq (by omega) (by omega) (by omega)]; omega
 have x4:ext (coll + tgt * 65536 + addr / 256 * 256 + 0 * 9223372036854775808) 16 16 = tgt:=by rw [ext_eq (by omega) (by omega) (by omega)]; omega
 rw [x2,x4]
 subst f0
 subst f1
 subst f3
 subst f5
 obtain rfl:addr = 0:=by omega
 try rfl
theorem rt_15 (dev ev num coll tgt bits addr:Int) (val:Bool) (hA:addr % 256 = 0) (f:Fld ⟨15,dev,ev,num,coll,tgt,bits,addr,val⟩) :
 wd ⟨15,dev,ev,num,coll,tgt,bits,addr,val⟩ 8 = wS ⟨15,dev,ev,num,coll,tgt,bits,addr,val⟩∧cd (wS ⟨15,dev,ev,num,coll,tgt,bits,addr,val⟩) 8 = ⟨15,dev,ev,num,coll,tgt,bits,addr,val⟩:=by
 have f0:0≤dev∧dev < 2 ^ 32:=⟨(f 0 (by omega)).1,(f 0 (by omega)).2.1⟩
 have f1:0≤ev∧ev < 2 ^ 32:=⟨(f 1 (by omega)).1,(f 1 (by omega)).2.1⟩
 have f2:num = 0:=(f 2 (by omega)).2.2 (by simp [ph])
 have f3:coll = 0:=(f 3 (by omega)).2.2 (by simp [ph])
 have f4:tgt = 0:=(f 4 (by omega)).2.2 (by simp [ph])
 have f5:bits = 0:=(f 5 (by omega)).2.2 (by simp [ph])
 have f6:(addr / 256) = 0:=(f 6 (by omega)).2.2 (by simp [ph])
 have f7:val = false:=by have h:=(f 7 (by omega)).2.2 (by simp [ph]); cases val <;> first | rfl | cases h
 subst f7
 have e:wd ⟨15,dev,ev,num,coll,tgt,bits,addr,false⟩ 8 = wS ⟨15,dev,ev,num,coll,tgt,bits,addr,false⟩:=by
  show [insB (15) dev 32,insB (0) ev 0,0,0] = _
  rw [insB_eq (a:=15) (n:=dev) (f:=32) (by omega) (by omega) (by omega) (by omega),insB_eq (a:=0) (n:=ev) (f:=0) (by omega) (by omega) (by omega) (by omega)]
  unfold wS
  dsimp only
  simp only [show ¬ ((15:Int) = 14) by decide,if_false,Bool.false_eq_true,if_true]
  exact l4 (by omega) (by omega) (by omega) (by omega)
 refine ⟨e,?_⟩
 unfold wS
 dsimp only
 simp only [show ¬ ((15:Int) = 14) by decide,if_false,Bool.false_eq_true,if_true]
 have h0:cd [15 + dev * 4294967296,ev + num * 4294967296 + bits,coll + tgt * 65536 + addr / 256 * 256 + 0 * 9223372036854775808,0 * 65536] 0 = ⟨15,0,0,0,0,0,0,0,false⟩:=by
  rw [cd_zero,low8 (by omega) (by omega),show (15 + dev * 4294967296) % 256 = 15 by omega]
 have hd:∀ W0 W1 W2 W3:Int,cd [W0,W1,W2,W3] 0 = ⟨15,0,0,0,0,0,0,0,false⟩→cd [W0,W1,W2,W3] 8 = ⟨15,ext W0 32 32,ext W1 0 32,0,0,0,0,0,false⟩:=by
  intro W0 W1 W2 W3 h
  rw [cd_eight,h]
  simp [stD,ph,pw,pf,ps,Cm.put]
 rw [hd _ _ _ _ h0]
 have x0:ext (15 + dev * 4294967296) 32 32 = dev:=by rw [ext_eq (by omega) (by omega) (by omega)]; omega
 have x1:ext (ev + num * 4294967296 + bits) 0 32 = ev:=by rw [ext_eq (by omega) (by omega) (by omega)]; omega
 rw [x0,x1]
 subst f2
 subst f3
 subst f4
 subst f5
 obtain rfl:addr = 0:=by omega
 try rfl
theorem encM_some {c:Cm} {ws:List Int} (h:encM c = some ws):knownB c.op = true∧Fld c∧c.addr % 256 = 0∧ws = wS c∧cd ws 8 = c:=by
 unfold encM at h
 split at h
 · cases h
 · rename_i hb
   split at h
   · cases h
   · rename_i hf
     cases h
     have hf:=fld_of (by simpa using hf)
     unfold badC at hb
     simp only [Bool.or_eq_true,not_or,Bool.not_eq_true',Bool.not_eq_false] at hb
     obtain ⟨hk,ha⟩:=hb
     have h6:0≤c.addr / 256∧c.addr / 256 < 2 ^ 40:=⟨(hf 6 (by omega)).1,(hf 6 (by omega)).2.1⟩
     have hA:c.addr % 256 = 0:=by
      rw [and_i64 (by omega) (by omega)] at ha
      simpa using ha
     clear ha
     refine ⟨hk,hf,hA,?_⟩
     obtain ⟨op,dev,ev,num,coll,tgt,bits,addr,val⟩:=c
     dsimp only at hA hk
     have hk:op = 1∨op = 3∨op = 4∨op = 5∨op = 8∨op = 9∨op = 10∨op = 11∨op = 12∨op = 13∨op = 14∨op = 15:=by
      have:=of_decide_eq_true hk; omega
     have fin:wd ⟨op,dev,ev,num,coll,tgt,bits,addr,val⟩ 8 = wS ⟨op,dev,ev,num,coll,tgt,bits,addr,val⟩∧cd (wS ⟨op,dev,ev,num,coll,tgt,bits,addr,val⟩) 8 = ⟨op,dev,ev,num,coll,tgt,bits,addr,val⟩:=by
      rcases hk with rfl | rfl | rfl | rfl | rfl | rfl | rfl | rfl | rfl | rfl | rfl | rfl
      · exact rt_1 _ _ _ _ _ _ _ _ hA hf
      · exact rt_3 _ _ _ _ _ _ _ _ hA hf
      · exact rt_4 _ _ _ _ _ _ _ _ hA hf
      · exact rt_5 _ _ _ _ _ _ _ _ hA hf
      · exact rt_8 _ _ _ _ _ _ _ _ hA hf
      · exact rt_9 _ _ _ _ _ _ _ _ hA hf
      · exact rt_10 _ _ _ _ _ _ _ _ hA hf
      · exact rt_11 _ _ _ _ _ _ _ _ hA hf
      · exact rt_12 _ _ _ _ _ _ _ _ hA hf
      · exact rt_13 _ _ _ _ _ _ _ _ hA hf
      · exact rt_14 _ _ _ _ _ _ _ _ hA hf
      · exact rt_15 _ _ _ _ _ _ _ _ hA hf
     exact ⟨fin.1,by rw [fin.1]; exact fin.2⟩
theorem enc_dec {c:Cm} {ws:List Int} (h:decM ws = some c):encM c = some ws:=by
 unfold decM at h
 split at h
 · cases h; assumption
 · cases h
theorem enc_range {c:Cm} {ws:List Int} (h:encM c = some ws):ws.length = 4∧∀ x∈ws,0≤x∧x < 2 ^ 64:=by
 obtain ⟨h1,hf,h3,rfl,-⟩:=encM_some h
 have hk:=of_decide_eq_true h1
 have f0:=hf 0 (by omega)
 have f1:=hf 1 (by omega)
 have f2:=hf 2 (by omega)
 have f3:=hf 3 (by omega)
 have f4:=hf 4 (by omega)
 have f5:=hf 5 (by omega)
 have f6:=hf 6 (by omega)
 have f7:=hf 7 (by omega)
 simp only [Cm.get,ps,ph] at f0 f1 f2 f3 f4 f5 f6 f7
 have h2:(if c.op = 14 then 16 else 32:Nat)≤32:=by split <;> omega
 refine ⟨rfl,fun x hx=>?_⟩
 simp only [wS,List.mem_cons,List.not_mem_nil,or_false] at hx
 have hb:c.bits = 0∨c.ev = 0∧(if c.op = 14 then 0 else c.num) = 0:=by
  by_cases e:c.op = 8
  · right
    refine ⟨f1.2.2 (by simp [e]),?_⟩
    rw [if_neg (by omega)]
    exact f2.2.2 (by simp [e])
  · exact .inl (f5.2.2 (by simp [e]))
 have hq:c.addr = 0∨c.coll = 0∧c.tgt = 0:=by
  by_cases e:c.op = 8
  · exact .inr ⟨f3.2.2 (by simp [e]),f4.2.2 (by simp [e])⟩
  · have:=f6.2.2 (by simp [e]); omega
 rcases hx with rfl | rfl | rfl | rfl
 · omega
 · by_cases e:c.op = 14
   · simp only [if_pos e] at f2 hb ⊢; omega
   · simp only [if_neg e] at f2 hb ⊢; omega
 · split <;> omega
 · by_cases e:c.op = 14
   · simp only [if_pos e] at f2 hb ⊢; omega
   · simp only [if_neg e] at f2 hb ⊢; omega
def bytesOf (v:Int) (n:Nat):List Int:=(List.range n).map (byteI v)
def lawN (n:Int):Nat:=if n < 0∨n > 4096 then 200 else n.toNat
theorem lawNewX_cv {w:World} (n:Int):CV P F.zzcs [.int .i64 n] w fun v w'=>Below w.heap.size w w'∧∃ (b d b' d':Nat),v = .tuple [.pointer (some ⟨b,0,none⟩),.pointer (some ⟨b',0,none⟩)].toArray ∧
 MemAt w' (some ⟨b,0,none⟩) b d (lawN n) (List.replicate (lawN n) 0) []∧MemAt w' (some ⟨b',0,none⟩) b' d' (lawN n) (List.replicate (lawN n) 0) []∧w.heap.size≤b∧w.heap.size≤d∧b < d'∧d < d'∧b < b'∧d < b':=by
 refine zzlp ?_
 unfold zzcs JoinT
 have go:∀ m:Int,0≤m→m≤4096→lawN n = m.toNat→zzgl (fun v w'=>Below w.heap.size w w'∧∃ (b d b' d':Nat),v = .tuple [.pointer (some ⟨b,0,none⟩),.pointer (some ⟨b',0,none⟩)].toArray ∧
  MemAt w' (some ⟨b,0,none⟩) b d (lawN n) (List.replicate (lawN n) 0) []∧MemAt w' (some ⟨b',0,none⟩) b' d' (lawN n) (List.replicate (lawN n) 0) []∧w.heap.size≤b∧w.heap.size≤d∧b < d'∧d < d'∧b < b'∧d < b') m w:=by
  intro m h0 h1 hm0
  rw [hm0]
  unfold zzgl
  refine (new_cv (w:=w) m).mono ?_
  rintro _ w1 ⟨hB1,h⟩
  rw [if_pos (by omega)] at h
  obtain ⟨b,d,rfl,hm,hb,hd⟩:=h
  refine ⟨_,0,rfl,cnd_i (fun h=>by cases h) fun _=>?_⟩
  unfold drw
  have hlt:=hm.lt
  have hs1:=hB1.size
  refine make_i appBytes zeroByte (w:=w1.drew) h0 (by omega) (by omega) fun w2 hB2 h2 hs2=>alc_i fun w3 hB3 h3 hs3=>?_
  have e1:w1.drew.heap.size = w1.heap.size:=rfl
  have hB13:Below w1.heap.size w1 w3:=((Below.refl _ w1).drew.trans (hB2 _ (Nat.le_refl _))).trans (hB3 _ (by omega))
  refine ⟨hB1.trans (hB13.mono hs1),b,d,w2.heap.size,w1.heap.size,rfl,hm.ext hB13,?_,hb,hd,hlt.1,hlt.2,by omega,by omega⟩
  have hb':∃ t,Row w3 w2.heap.size [.slice (some ⟨w1.heap.size,0,none⟩) (List.replicate m.toNat (0:Int)).length m.toNat] t:=by rw [List.length_replicate]; exact ⟨_,h3⟩
  have hd':∃ t,Row w3 w1.heap.size (u8s (List.replicate m.toNat 0) ++ []) t:=by
   have:=h2.below (hB3 w2.heap.size (Nat.le_refl _)) (by omega)
   exact ⟨_,by simpa [u8s] using this⟩
  exact ⟨rfl,hb',hd',by simp,by omega,by intro x hx; rw [(List.mem_replicate.1 hx).2]; omega,by simp; omega⟩
 unfold zzih
 refine cnd_i (fun h=>?_) fun h=>?_
 · exact cnd_i (fun _=>go 200 (by omega) (by omega) (by unfold lawN; rw [if_pos (.inl (of_decide_eq_true h))]; rfl)) fun h=>by cases h
 · have h:=of_decide_eq_false h
   refine cnd_i (fun h'=>go 200 (by omega) (by omega) (by unfold lawN; rw [if_pos (.inr (of_decide_eq_true h'))]; rfl)) fun h'=>?_
   have h':=of_decide_eq_false h'
   exact go n (by omega) (by omega) (by unfold lawN; rw [if_neg (by omega)])
theorem lawNewX_t (n:Int):Tri P F.zzcs [.int .i64 n] [] fun v L'=>∃ b b',v = .tuple [ptr b,ptr b'].toArray∧L' = [memI b (List.replicate (lawN n) 0),memI b' (List.replicate (lawN n) 0)]:=by
 intro w S hS
 refine (lawNewX_cv n).mono fun v w' ⟨hB,b,d,b',d',e,hm,hm',g1,g2,g3,g4,g5,g6⟩=>⟨_,⟨b,b',e,rfl⟩,?_⟩
 have hs:=hm.lt
 have hs':=hm'.lt
 have H0:=(Own.start hS).grow hB
 obtain ⟨T,e1,e2,e3⟩:=H0
 have hT:=Sep.lt hS
 refine ⟨fun k=>(k = b∨k = d)∨(k = b'∨k = d'),⟨fun k=>k = b∨k = d,fun k=>k = b'∨k = d',⟨d,_,[],hm,fun _=>Iff.rfl⟩,sep_one.2 ⟨d',_,[],hm',fun _=>Iff.rfl⟩,?_,fun _=>Iff.rfl⟩,e2,?_⟩
 · have:=hm.hne
   have:=hm'.hne
   rintro k (rfl | rfl) (h | h) <;> omega
 · rintro k ((rfl | rfl) | (rfl | rfl)) <;> exact .inr (by omega)
variable {w w0:World} {S0:Nat→Prop}
theorem zzlR {L F:List It} {b:Nat} {bs:List Int} (H:X.Own w0 S0 L w) (hp:Pick L (memI b bs) F):(∀ x∈bs,0≤x∧x < 256)∧bs.length≤131072:=by
 obtain ⟨d,c,rest,tb,td,_,_,h1,h2⟩:=zzj4 H hp
 exact ⟨h1,h2⟩
def offK (off:Int) (k:Nat):Int:=IntKind.i64.wrap (off + IntKind.i64.wrap (8 * (k:Int)))
def rd8 (bs:List Int) (a off:Int) (k:Nat):Int:=le (cut bs (a + offK off k).toNat 8)
def rds (bs:List Int) (a off:Int) (k:Nat):List Int:=[if 0 < k then rd8 bs a off 0 else 0,if 1 < k then rd8 bs a off 1 else 0,if 2 < k then rd8 bs a off 2 else 0,if 3 < k then rd8 bs a off 3 else 0]
theorem rds_next (bs:List Int) (a off:Int) {k:Nat} (h:k < 4):(rds bs a off k).set k (rd8 bs a off k) = rds bs a off (k + 1):=by
 have:k = 0∨k = 1∨k = 2∨k = 3:=by omega
 rcases this with rfl | rfl | rfl | rfl <;> rfl
def ldOk (len:Nat) (a s off:Int):Bool:=(List.range 4).all fun k=>decide (errE len a s (offK off k) 8 = 0)
def loadM (bs:List Int) (a s off:Int):Cm×Int:=if ldOk bs.length a s off then (match decM (rds bs a off 4) with | some c=>(c,0) | none=>(cm0,160)) else (cm0,42)
def loadV (bs:List Int) (a s off:Int):Value:=.tuple [cmV (loadM bs a s off).1,.int .i64 (loadM bs a s off).2].toArray
theorem Load_t (b:Nat) (bs:List Int) (a s off:Int):Tri P F.zzhx [ptr b,winV a s,.int .i64 off] [memI b bs] fun v L'=>v = loadV bs a s off∧L' = [memI b bs]:=by
 intro w S hS
 refine zzmj ?_
 unfold zzhx
 have H:=Own.start hS
 refine alc_o H fun b5 wx H=>alc_o H fun b7 wx H=>alc_o H fun b9 wx H=>?_
 refine loop_o (fun (st:Int) L=>∃ k:Nat,k≤4∧(∀ j,j < k→errE bs.length a s (offK off j) 8 = 0)∧st = k∧L = [row b9 (wI (rds bs a off k)) tW4,row b7 [.int .i64 0,.int .i64 0,.int .i64 0,.int .i64 0,.int .i64 0,.int .i64 0,.int .i64 0,.int .i64 0,.bool false] tCmd,row b5 [.int .i64 a,.int .i64 s] tWin,memI b bs])
  (fun (st:Int)=>(4 - st).toNat) H ⟨0,by omega,fun _ h=>absurd h (by omega),rfl,rfl⟩ ?_
 rintro _ _ wx ⟨k,hk,hg,rfl,rfl⟩ H
 unfold zzlA
 refine cnd_i (fun hc=>?_) fun hc=>?_
 · have hc:=of_decide_eq_true hc
   have hk4:k < 4:=by omega
   repeat (first | refine lIa H ?_ | refine lLa H ?_ | refine lBa H ?_ | refine lPa H ?_ | refine lSa H ?_)
   refine call_pa H (read_t b bs a s (offK off k) 8) fun wx H=>?_
   unfold readV
   have e1:IntKind.i64.wrap ((k:Int) + 1) = ((k + 1:Nat):Int):=by rw [W_id (by omega) (by omega)]; push_cast; rfl
   by_cases he:errE bs.length a s (offK off k) 8 = 0
   · rw [if_pos he]
     refine ⟨_,_,rfl,cnd_i (fun h=>by cases h) fun _=>?_⟩
     refine ix_i hk4 ?_
     rw [add_lit,Nat.mul_one,Nat.zero_add,e1]
     refine st1_o H (by repeat (first | exact Rep.here | apply Rep.there)) (by rw [wI_length]; exact hk4) fun wx H=>⟨⟨_,⟨k + 1,by omega,?_,rfl,rfl⟩,?_⟩,by omega⟩
     · intro j hj
       by_cases e:j = k
       · rw [e]; exact he
       · exact hg j (by omega)
     · rw [wI_set] at H
       rw [← rds_next bs a off hk4]
       exact H
   · rw [if_neg he]
     refine ⟨_,_,rfl,cnd_i (fun _=>?_) (fun h=>absurd (by simpa using h) he)⟩
     iterate 9 refine sta H fun wx H=>?_
     repeat (first | refine lIa H ?_ | refine lLa H ?_ | refine lBa H ?_ | refine lPa H ?_ | refine lSa H ?_)
     have hl:ldOk bs.length a s off = false:=by
      unfold ldOk
      refine Bool.eq_false_iff.2 fun h=>he ?_
      exact of_decide_eq_true (List.all_eq_true.1 h k (List.mem_range.2 hk4))
     have e:loadM bs a s off = (cm0,42):=by unfold loadM; rw [hl]; rfl
     exact ⟨_,⟨by unfold loadV; rw [e]; rfl,rfl⟩,H.dp⟩
 · have hc:=of_decide_eq_false hc
   have:k = 4:=by omega
   subst this
   have hl:ldOk bs.length a s off = true:=by
    unfold ldOk
    exact List.all_eq_true.2 fun k hk=>decide_eq_true (hg k (List.mem_range.1 hk))
   repeat (first | refine lIa H ?_ | refine lLa H ?_ | refine lBa H ?_ | refine lPa H ?_ | refine lSa H ?_)
   refine call_p H (Decode_t (rd8 bs a off 0) (rd8 bs a off 1) (rd8 bs a off 2) (rd8 bs a off 3)) (by repeat (first | exact Cut.nil | (apply Cut.cons; (repeat (first | exact Pick.here | apply Pick.there))))) fun wx H=>?_
   have hd:decV [rd8 bs a off 0,rd8 bs a off 1,rd8 bs a off 2,rd8 bs a off 3] = loadV bs a s off:=by
    unfold decV loadV loadM
    rw [hl,if_pos rfl]
    show (match decM (rds bs a off 4) with | some c=>_ | none=>_) = _
    cases decM (rds bs a off 4) <;> rfl
   rw [hd]
   unfold loadV
   generalize loadM bs a s off = r
   refine ⟨_,_,_,_,_,_,_,_,_,_,rfl,?_⟩
   iterate 9 refine sta H fun wx H=>?_
   repeat (first | refine lIa H ?_ | refine lLa H ?_ | refine lBa H ?_ | refine lPa H ?_ | refine lSa H ?_)
   exact ⟨_,⟨rfl,rfl⟩,H.dp⟩
def storeE (len:Nat) (a s off:Int) (c:Cm):Int:=match encM c with
 | none=>160
 | some _=>if mayE s off 8≠0∨off > IntKind.i64.wrap (s - 32)∨holdsB len a s = false then 42 else 0
def stW (bs:List Int) (a s off:Int) (ws:List Int):Nat→List Int
 | 0=>bs
 | k + 1=>writeM (stW bs a s off ws k) a s (offK off k) 8 (ws.getD k 0)
def storeM (bs:List Int) (a s off:Int) (c:Cm):List Int:=match encM c with
 | none=>bs
 | some ws=>if mayE s off 8≠0∨off > IntKind.i64.wrap (s - 32)∨holdsB bs.length a s = false then bs else stW bs a s off ws 4
def W (n:Int):Int:=IntKind.i64.wrap n
def rightB (s t:Int):Bool:=!(decide (t < 1) || (decide (s < t) || (Int.tmod s t != 0 || decide (W (Int.tdiv s t) > 1024))))
def ringV (s t:Int):Value:=.agg [.int .i64 s,.int .i64 t].toArray
def i64V (n:Int):Value:=.int .i64 n
theorem right_plain (s t:Int):Plain F.zzcR [ringV s t] (i64V (if rightB s t then 0 else 1)):=by
 intro w
 refine zzk6 ?_
 refine alc_i fun w1 hB h1 _=>?_
 have hb:=hB _ (Nat.le_refl _)
 unfold JoinT
 refine ldI_i h1 rfl ?_
 refine cnd_i (fun h=>?_) fun h=>?_
 · refine cnd_i (fun _=>⟨?_,hb⟩) fun h=>by cases h
   simp_all [rightB,i64V]
 refine ldI_i h1 rfl (ldI_i h1 rfl ?_)
 refine cnd_i (fun h'=>?_) fun h'=>?_
 · refine cnd_i (fun _=>⟨?_,hb⟩) fun h=>by cases h
   simp_all [rightB,i64V]
 refine ldI_i h1 rfl (ldI_i h1 rfl ⟨by simp at h; omega,?_⟩)
 refine cnd_i (fun h''=>?_) fun h''=>?_
 · refine cnd_i (fun _=>⟨?_,hb⟩) fun h=>by cases h
   simp_all [rightB,i64V]
 refine ldI_i h1 rfl (ldI_i h1 rfl ⟨by simp at h; omega,?_⟩)
 refine cnd_i (fun h3=>⟨?_,hb⟩) fun h3=>⟨?_,hb⟩
 · simp_all [rightB,i64V,W]
 · simp_all [rightB,i64V,W]
def mayB (s t a:Int):Bool:=rightB s t && (decide (a≥0) && (decide (a < s) && Int.tmod a t == 0))
theorem right_pos {s t:Int} (h:rightB s t = true):1≤t∧t≤s∧Int.tmod s t = 0∧W (Int.tdiv s t)≤1024:=by
 simp only [rightB,Bool.not_eq_true',Bool.or_eq_false_iff,decide_eq_false_iff_not,bne_eq_false_iff_eq] at h
 omega
theorem may_right {s t a:Int} (h:mayB s t a = true):rightB s t = true:=by
 simp only [mayB,Bool.and_eq_true] at h; exact h.1
theorem rmay_plain (s t a:Int):Plain F.zzcg [ringV s t,i64V a] (.bool (mayB s t a)):=by
 intro w
 refine zzlE ?_
 refine alc_i fun w1 hB h1 _=>?_
 have hb:=hB _ (Nat.le_refl _)
 unfold JoinT
 refine ldI_i h1 rfl (ldI_i h1 rfl ?_)
 refine (right_plain s t w1).mono ?_
 rintro _ w2 ⟨rfl,hB2⟩
 have h2:=h1.ext hB2
 have hb2:=hb.trans (hB2.mono (by have:=hB w.heap.size (Nat.le_refl _); exact this.size))
 refine ⟨_,rfl,?_⟩
 cases hr:rightB s t
 · exact ⟨by simp [mayB,hr],hb2⟩
 refine cnd_i (fun _=>?_) fun h=>by simp at h
 refine cnd_i (fun h=>?_) fun h=>⟨by have h:=of_decide_eq_false h; simp [mayB,hr,show ¬ (0≤a) by omega],hb2⟩
 refine ldI_i h2 rfl (cnd_i (fun h'=>?_) fun h'=>⟨by have h':=of_decide_eq_false h'; simp [mayB,hr,show ¬ (a < s) by omega],hb2⟩)
 have:=right_pos hr
 exact ldI_i h2 rfl ⟨by omega,⟨by simp_all [mayB],hb2⟩⟩
def tupV (a b:Int):Value:=.tuple [.int .i64 a,.int .i64 b].toArray
theorem next_plain (s t a:Int):Plain F.zzdx [ringV s t,i64V a] (if mayB s t a then tupV (Int.tmod (W (a + t)) s) 0 else tupV 0 1):=by
 intro w
 refine zzls ?_
 refine alc_i fun w1 hB h1 _=>?_
 have hb:=hB _ (Nat.le_refl _)
 refine ldI_i h1 rfl (ldI_i h1 rfl ?_)
 refine (rmay_plain s t a w1).mono ?_
 rintro _ w2 ⟨rfl,hB2⟩
 have h2:=h1.ext hB2
 have hb2:=hb.trans (hB2.mono hb.size)
 refine ⟨_,rfl,?_⟩
 cases hr:mayB s t a
 · exact ⟨rfl,hb2⟩
 have:=right_pos (may_right hr)
 exact ldI_i h2 rfl (ldI_i h2 rfl ⟨by omega,rfl,hb2⟩)
def leftV (s t a b:Int):Int:=W (Int.tdiv (Int.tmod (W (W (b - a) + s)) s) t)
theorem left_plain (s t a b:Int):Plain F.zzen [ringV s t,i64V a,i64V b] (if mayB s t a && mayB s t b then tupV (leftV s t a b) 0 else tupV 0 1):=by
 intro w
 refine zzlr ?_
 refine alc_i fun w1 hB h1 _=>?_
 have hb:=hB _ (Nat.le_refl _)
 unfold JoinT
 refine ldI_i h1 rfl (ldI_i h1 rfl ?_)
 refine (rmay_plain s t a w1).mono ?_
 rintro _ w2 ⟨rfl,hB2⟩
 have h2:=h1.ext hB2
 have hb2:=hb.trans (hB2.mono hb.size)
 refine ⟨_,rfl,?_⟩
 cases hr:mayB s t a
 · exact ⟨rfl,hb2⟩
 refine ldI_i h2 rfl (ldI_i h2 rfl ?_)
 refine (rmay_plain s t b w2).mono ?_
 rintro _ w3 ⟨rfl,hB3⟩
 have h3:=h2.ext hB3
 have hb3:=hb2.trans (hB3.mono hb2.size)
 refine ⟨_,rfl,?_⟩
 cases hr':mayB s t b
 · exact ⟨rfl,hb3⟩
 have:=right_pos (may_right hr)
 exact ldI_i h3.drew rfl (ldI_i h3.drew rfl ⟨by omega,ldI_i h3.drew rfl ⟨by omega,rfl,hb3.drew⟩⟩)
def roomV (s t a b:Int):Int:=W (W (W (Int.tdiv s t) - 1) - leftV s t a b)
structure Qu where
 a:Int
 s:Int
 r:Int
 w:Int
 deriving DecidableEq
def Qu.cells (q:Qu):List Value:=[.int .i64 q.a,.int .i64 q.s,.int .i64 q.r,.int .i64 q.w]
def quV (q:Qu):Value:=.agg [.int .i64 q.a,.int .i64 q.s,.int .i64 q.r,.int .i64 q.w].toArray
def Qu.both (q:Qu):Bool:=mayB q.s 32 q.r && mayB q.s 32 q.w
def Qu.left (q:Qu):Int:=if q.both then leftV q.s 32 q.r q.w else 0
def Qu.room (q:Qu):Int:=if q.both then roomV q.s 32 q.r q.w else 0
def nextQ (s a:Int):Int:=if mayB s 32 a then Int.tmod (W (a + 32)) s else 0
theorem pl_t {f:FuncId} {args:List Value} {v:Value} (h:Plain f args v):Tri P f args [] fun v' L'=>v' = v∧L' = []:=Tri.of_pure fun w S _=>h w
theorem zzlS (q:Qu):Tri P F.zzaW [quV q] [] fun v L'=>v = ringV q.s 32∧L' = []:=by
 intro w S hS
 refine zzku ?_
 unfold zzaW
 have H:=Own.start hS
 refine alc_o H fun b5 wx H=>alc_o H fun b7 wx H=>?_
 repeat (first | refine lIa H ?_ | refine lLa H ?_ | refine lBa H ?_ | refine lPa H ?_ | refine lSa H ?_)
 iterate 2 refine sta H fun wx H=>?_
 repeat (first | refine lIa H ?_ | refine lLa H ?_ | refine lBa H ?_ | refine lPa H ?_ | refine lSa H ?_)
 exact ⟨_,⟨rfl,rfl⟩,H.dp⟩
theorem Left_t (q:Qu):Tri P F.zzbk [quV q] [] fun v L'=>v = .int .i64 q.left∧L' = []:=by
 intro w S hS
 refine zzkl ?_
 unfold zzbk
 have H:=Own.start hS
 refine alc_o H fun b5 wx H=>?_
 refine drw_o H fun wx H=>?_
 repeat (first | refine lIa H ?_ | refine lLa H ?_ | refine lBa H ?_ | refine lPa H ?_ | refine lSa H ?_)
 refine call_pa H (zzlS q) fun wx H=>?_
 refine ⟨_,_,rfl,by
                       repeat (first | refine lIa H ?_ | refine lLa H ?_ | refine lBa H ?_ | refine lPa H ?_ | refine lSa H ?_)
                       rfl,by
                               repeat (first | refine lIa H ?_ | refine lLa H ?_ | refine lBa H ?_ | refine lPa H ?_ | refine lSa H ?_)
                               rfl,?_⟩
 refine call_pa H (pl_t (left_plain q.s 32 q.r q.w)) fun wx H=>?_
 unfold Qu.left Qu.both
 cases mayB q.s 32 q.r && mayB q.s 32 q.w <;> exact ⟨_,_,rfl,_,⟨rfl,rfl⟩,H.dp⟩
def newQ (a s:Int):Qu×Int:=if rightB s 32 && decide (0≤a) then (⟨a,s,0,0⟩,0) else (⟨0,0,0,0⟩,1)
theorem NewQ_t (a s:Int):Tri P F.zzgU [winV a s] [] fun v L'=>v = .tuple [quV (newQ a s).1,.int .i64 (newQ a s).2].toArray∧L' = []:=by
 intro w S hS
 refine zzmd ?_
 unfold zzgU
 have H:=Own.start hS
 refine alc_o H fun b3 wx H=>alc_o H fun b5 wx H=>?_
 repeat (first | refine lIa H ?_ | refine lLa H ?_ | refine lBa H ?_ | refine lPa H ?_ | refine lSa H ?_)
 refine alc_o H fun b9 wx H=>?_
 iterate 4 refine sta H fun wx H=>?_
 repeat (first | refine lIa H ?_ | refine lLa H ?_ | refine lBa H ?_ | refine lPa H ?_ | refine lSa H ?_)
 refine call_pa H (zzlS ⟨a,s,0,0⟩) fun wx H=>?_
 refine ⟨_,_,rfl,?_⟩
 refine call_pa H (pl_t (right_plain s 32)) fun wx H=>?_
 refine ⟨_,rfl,join_o ?_⟩
 have fin:∀ b:Bool,b = !(rightB s 32 && decide (0≤a))→∀ wx,X.Own w S [row b9 [.int .i64 a,.int .i64 s,.int .i64 0,.int .i64 0] tQ,row b5 [.int .i64 0,.int .i64 0,.int .i64 0,.int .i64 0] tQ,row b3 [.int .i64 a,.int .i64 s] tWin] wx →
  zziW (fun v w'=>∃ L',(v = .tuple [quV (newQ a s).1,.int .i64 (newQ a s).2].toArray∧L' = [])∧X.Own w S L' w') b5 b9 b wx:=by
  intro b hb wx H
  unfold zziW
  refine cnd_i (fun h=>?_) fun h=>?_
  · have e:newQ a s = (⟨0,0,0,0⟩,1):=by unfold newQ; rw [hb,Bool.not_eq_true'] at h; rw [h]; rfl
    rw [e]
    iterate 4 refine sta H fun wx H=>?_
    repeat (first | refine lIa H ?_ | refine lLa H ?_ | refine lBa H ?_ | refine lPa H ?_ | refine lSa H ?_)
    exact ⟨_,⟨rfl,rfl⟩,H.dp⟩
  · have e:newQ a s = (⟨a,s,0,0⟩,0):=by unfold newQ; rw [hb,Bool.not_eq_false'] at h; rw [h]; rfl
    rw [e]
    repeat (first | refine lIa H ?_ | refine lLa H ?_ | refine lBa H ?_ | refine lPa H ?_ | refine lSa H ?_)
    iterate 4 refine sta H fun wx H=>?_
    repeat (first | refine lIa H ?_ | refine lLa H ?_ | refine lBa H ?_ | refine lPa H ?_ | refine lSa H ?_)
    exact ⟨_,⟨rfl,rfl⟩,H.dp⟩
 cases hr:rightB s 32
 · exact cnd_i (fun _=>fin _ (by rw [hr]; rfl) _ H) (fun h=>by cases h)
 · refine cnd_i (fun h=>by cases h) fun _=>?_
   repeat (first | refine lIa H ?_ | refine lLa H ?_ | refine lBa H ?_ | refine lPa H ?_ | refine lSa H ?_)
   refine fin _ ?_ _ H
   rw [hr,Bool.true_and,Bool.eq_iff_iff]
   simp
def putQ (q:Qu) (bs:List Int) (c:Cm):Qu×List Int×Int:=if q.room < 1 then (q,bs,2) else if storeE bs.length q.a q.s q.w c≠0 then (q,storeM bs q.a q.s q.w c,storeE bs.length q.a q.s q.w c) else ({ q with w:=nextQ q.s q.w },storeM bs q.a q.s q.w c,0)
theorem Next_t (s a:Int):Tri P F.zzdx [ringV s 32,i64V a] [] fun v L'=>(∃ e,v = .tuple [.int .i64 (nextQ s a),.int .i64 e].toArray)∧L' = []:=by
 intro w S hS
 refine (next_plain s 32 a w).mono ?_
 rintro _ w' ⟨rfl,hB⟩
 refine ⟨[],⟨?_,rfl⟩,(Own.start hS).grow hB⟩
 unfold nextQ
 cases mayB s 32 a <;> exact ⟨_,rfl⟩
def headQ (q:Qu) (bs:List Int):Cm×Int:=if q.left < 1 then (cm0,170) else loadM bs q.a q.s q.r
theorem Head_t (m:Nat) (q:Qu) (bs:List Int):Tri P F.zzcp [quV q,ptr m] [memI m bs] fun v L'=>v = .tuple [cmV (headQ q bs).1,.int .i64 (headQ q bs).2].toArray∧L' = [memI m bs]:=by
 intro w S hS
 refine zzkm ?_
 unfold zzcp
 have H:=Own.start hS
 refine alc_o H fun b6 wx H=>alc_o H fun b8 wx H=>?_
 repeat (first | refine lIa H ?_ | refine lLa H ?_ | refine lBa H ?_ | refine lPa H ?_ | refine lSa H ?_)
 refine call_pa H (Left_t q) fun wx H=>?_
 refine ⟨_,rfl,cnd_i (fun h=>?_) fun h=>?_⟩
 · have e:headQ q bs = (cm0,170):=by unfold headQ; rw [if_pos (of_decide_eq_true h)]
   rw [e]
   iterate 9 refine sta H fun wx H=>?_
   repeat (first | refine lIa H ?_ | refine lLa H ?_ | refine lBa H ?_ | refine lPa H ?_ | refine lSa H ?_)
   exact ⟨_,⟨rfl,rfl⟩,H.dp⟩
 have h:=of_decide_eq_false h
 have e:headQ q bs = loadM bs q.a q.s q.r:=by unfold headQ; rw [if_neg h]
 rw [e]
 repeat (first | refine lIa H ?_ | refine lLa H ?_ | refine lBa H ?_ | refine lPa H ?_ | refine lSa H ?_)
 refine call_pa H (Load_t m bs q.a q.s q.r) fun wx H=>?_
 unfold loadV
 generalize loadM bs q.a q.s q.r = z
 refine ⟨_,_,_,_,_,_,_,_,_,_,rfl,?_⟩
 iterate 9 refine sta H fun wx H=>?_
 repeat (first | refine lIa H ?_ | refine lLa H ?_ | refine lBa H ?_ | refine lPa H ?_ | refine lSa H ?_)
 exact ⟨_,⟨rfl,rfl⟩,H.dp⟩
def passQ (q:Qu):Qu×Int:=if q.left < 1 then (q,170) else ({ q with r:=nextQ q.s q.r },0)
def setQ (q:Qu) (at':Int):Qu×Int:=if mayB q.s 32 at' then ({ q with w:=at' },0) else (q,1)
open Go X
abbrev tVits:TypeId:=T.t84
abbrev tRules:TypeId:=T.t35
abbrev tChange:TypeId:=T.t55
abbrev tChanges:TypeId:=T.t48
theorem appChs:appB P tChanges tChange 6 48 = true:=by kernel_rfl
theorem zeroCh:zeroC P tChange = some [.int .i64 0,.int .i64 0,.int .i64 0,.int .i64 0,.int .i64 0,.int .i64 0]:=by kernel_rfl
end Go.Proofs.YtidcijbnbdemeaaGreat
