/-
  The walks and the laws beneath the statement: part 10.
-/
import Derived.Test.YtidcijbnbdemeaaGreatDoi
set_option maxRecDepth 100000
set_option linter.unusedVariables false
set_option linter.unusedSimpArgs false
set_option maxHeartbeats 4000000
namespace Go.Proofs.YtidcijbnbdemeaaGreat
open Go Go.RowKit X
theorem shr_n (n k:Nat) (hk:k≤64):Int.fdiv (n:Int) (2 ^ min (Int.toNat (k:Int)) (IntKind.u64.bits)) = ((n / 2 ^ k:Nat):Int):=by
 have e:min (Int.toNat (k:Int)) (IntKind.u64.bits) = k:=by show min _ 64 = k; rw [Int.toNat_natCast]; omega
 rw [e,Int.fdiv_eq_ediv_of_nonneg _ (Int.le_of_lt (Int.pow_pos (by omega)))]
 push_cast; rfl
theorem and1 {v:Int} (h0:0≤v) (h1:v < 18446744073709551616):bitX .and .u64 v 1 = v % 2:=by
 have:=and_low h0 (by omega) 1 (by omega)
 simpa using this
theorem tmod2 {v:Int} (h0:0≤v):Int.tmod v 2 = v % 2:=Int.tmod_eq_emod_of_nonneg h0
theorem rwAt_eq {v:Int} (h0:0≤v) (h1:v < 18446744073709551616):rwAt v = wi (bitX .and .u64 v 1048544):=by
 rw [and_w h0 h1]
 unfold rwAt
 rw [Int.tmod_eq_emod_of_nonneg h0,Int.tdiv_eq_ediv_of_nonneg (by omega)]
 have e1:IntKind.u64.wrap (v % 1048576 / 32) = v % 1048576 / 32:=by
  have h:0≤v % 1048576 / 32∧v % 1048576 / 32 < 32768:=by omega
  generalize v % 1048576 / 32 = y at *
  simp [IntKind.wrap,IntKind.signed,IntKind.bits]; omega
 rw [e1]
 have e2:IntKind.u64.wrap (v % 1048576 / 32 * 32) = v % 1048576 / 32 * 32:=by
  have h:0≤v % 1048576 / 32 * 32∧v % 1048576 / 32 * 32 < 1048576:=by omega
  generalize v % 1048576 / 32 * 32 = y at *
  simp [IntKind.wrap,IntKind.signed,IntKind.bits]; omega
 rw [e2]
 show IntKind.i64.wrap _ = IntKind.i64.wrap _
 congr 1
 omega
theorem baseX_eq {v:Int} (h0:0≤v) (h1:v < 18446744073709551616):baseX v = v % 281474976710656 / 256 * 256∧rbaseX v = v % 281474976710656 / 256 * 256:=by
 constructor
 · unfold baseX
   obtain ⟨n,rfl⟩:=Int.eq_ofNat_of_zero_le h0
   have e0:=shr_n n 8 (by omega)
   rw [show ((8:Nat):Int) = 8 from rfl] at e0
   rw [e0]
   have e1:=and_low (v:=((n / 2 ^ 8:Nat):Int)) (by omega) (by omega) 40 (by omega)
   rw [show ((2 ^ 40 - 1:Nat):Int) = 1099511627775 from rfl] at e1
   rw [e1]
   have e2:(2:Int) ^ min (Int.toNat 8) (IntKind.u64.bits) = 256:=by decide
   rw [e2]
   have h:0≤((n / 2 ^ 8:Nat):Int) % 2 ^ 40 * 256∧((n / 2 ^ 8:Nat):Int) % 2 ^ 40 * 256 < 281474976710656:=by omega
   have e3:IntKind.u64.wrap (((n / 2 ^ 8:Nat):Int) % 2 ^ 40 * 256) = ((n / 2 ^ 8:Nat):Int) % 2 ^ 40 * 256:=by
    generalize ((n / 2 ^ 8:Nat):Int) % 2 ^ 40 * 256 = y at *
    simp [IntKind.wrap,IntKind.signed,IntKind.bits]; omega
   rw [e3]
   have e4:wi (((n / 2 ^ 8:Nat):Int) % 2 ^ 40 * 256) = ((n / 2 ^ 8:Nat):Int) % 2 ^ 40 * 256:=W_id (by omega) (by omega)
   rw [e4]
   omega
 · unfold rbaseX
   rw [Int.tmod_eq_emod_of_nonneg h0,Int.tdiv_eq_ediv_of_nonneg (by omega)]
   have e1:IntKind.u64.wrap (v % 281474976710656 / 256) = v % 281474976710656 / 256:=by
    have h:0≤v % 281474976710656 / 256∧v % 281474976710656 / 256 < 1099511627776:=by omega
    generalize v % 281474976710656 / 256 = y at *
    simp [IntKind.wrap,IntKind.signed,IntKind.bits]; omega
   rw [e1]
   have h:0≤v % 281474976710656 / 256 * 256∧v % 281474976710656 / 256 * 256 < 281474976710656:=by omega
   have e2:IntKind.u64.wrap (v % 281474976710656 / 256 * 256) = v % 281474976710656 / 256 * 256:=by
    generalize v % 281474976710656 / 256 * 256 = y at *
    simp [IntKind.wrap,IntKind.signed,IntKind.bits]; omega
   rw [e2]
   exact W_id (by omega) (by omega)
theorem baseN_eq {v:Int} (h0:0≤v) (h1:v < 18446744073709551616):baseN v = (v % 256 + 1) * 256∧rbaseN v = (v % 256 + 1) * 256:=by
 have h:0≤v % 256∧v % 256 < 256:=by omega
 have w1:IntKind.i64.wrap (v % 256) = v % 256:=W_id (by omega) (by omega)
 have w2:IntKind.i64.wrap (v % 256 + 1) = v % 256 + 1:=W_id (by omega) (by omega)
 have w3:IntKind.i64.wrap ((v % 256 + 1) * 256) = (v % 256 + 1) * 256:=W_id (by omega) (by omega)
 constructor
 · unfold baseN wi
   have e1:=and_low h0 (by omega) 8 (by omega)
   rw [show ((2 ^ 8 - 1:Nat):Int) = 255 from rfl,show (2:Int) ^ 8 = 256 from rfl] at e1
   rw [e1,w1,w2,w3]
 · unfold rbaseN
   rw [Int.tmod_eq_emod_of_nonneg h0,w1,w2,w3]
theorem land_base (n:Nat) (h:n < 2 ^ 64):n &&& 9223653511831486463 = n / 2 ^ 63 * 2 ^ 63 + n % 2 ^ 48:=by
 have e:(9223653511831486463:Nat) = 2 ^ 63 ||| (2 ^ 48 - 1):=by decide
 have h1:n &&& 2 ^ 63 = ((n >>> 63) &&& 1) <<< 63:=by
  rw [show (2 ^ 63:Nat) = 1 <<< 63 from rfl]
  refine Nat.eq_of_testBit_eq fun i=>?_
  rw [Nat.testBit_and,Nat.testBit_shiftLeft,Nat.testBit_shiftLeft,Nat.testBit_and,Nat.testBit_shiftRight]
  by_cases hi:63≤i
  · rw [show 63 + (i - 63) = i by omega]
    simp [hi]
  · simp [hi]
 rw [e,Nat.and_or_distrib_left,Nat.and_two_pow_sub_one_eq_mod,h1,Nat.and_one_is_mod,Nat.shiftRight_eq_div_pow,Nat.shiftLeft_eq]
 have h3:n / 2 ^ 63 % 2 = n / 2 ^ 63:=by omega
 rw [h3]
 have h2:n % 2 ^ 48 < 2 ^ 63:=by omega
 have:=Nat.two_pow_add_eq_or_of_lt h2 (n / 2 ^ 63)
 rw [Nat.mul_comm (n / 2 ^ 63)]
 exact this.symm
theorem baseB_eq {v:Int} (h0:0≤v) (h1:v < 18446744073709551616):baseB v = rbaseB v:=by
 obtain ⟨n,rfl⟩:=Int.eq_ofNat_of_zero_le h0
 unfold baseB rbaseB
 have e0:=shr_n n 63 (by omega)
 rw [show ((63:Nat):Int) = 63 from rfl] at e0
 have e1:=and_u64 (a:=n) (b:=9223653511831486463) (by omega) (by omega)
 rw [show ((9223653511831486463:Nat):Int) = 9223653511831486463 from rfl] at e1
 rw [e1,land_base n (by omega),e0,Int.tmod_eq_emod_of_nonneg h0]
 have e2:(2:Int) ^ min (Int.toNat 63) (IntKind.u64.bits) = 9223372036854775808:=by decide
 rw [e2]
 have e3:IntKind.u64.wrap (((n / 2 ^ 63:Nat):Int) * 9223372036854775808) = ((n / 2 ^ 63:Nat):Int) * 9223372036854775808:=by
  have h:0≤((n / 2 ^ 63:Nat):Int) * 9223372036854775808∧((n / 2 ^ 63:Nat):Int) * 9223372036854775808 < 18446744073709551616:=by omega
  generalize ((n / 2 ^ 63:Nat):Int) * 9223372036854775808 = y at *
  simp [IntKind.wrap,IntKind.signed,IntKind.bits]; omega
 rw [e3]
 have h:0≤(n:Int) % 281474976710656 + ((n / 2 ^ 63:Nat):Int) * 9223372036854775808∧(n:Int) % 281474976710656 + ((n / 2 ^ 63:Nat):Int) * 9223372036854775808 < 18446744073709551616:=by omega
 have e4:IntKind.u64.wrap ((n:Int) % 281474976710656 + ((n / 2 ^ 63:Nat):Int) * 9223372036854775808) = (n:Int) % 281474976710656 + ((n / 2 ^ 63:Nat):Int) * 9223372036854775808:=by
  generalize (n:Int) % 281474976710656 + ((n / 2 ^ 63:Nat):Int) * 9223372036854775808 = y at *
  simp [IntKind.wrap,IntKind.signed,IntKind.bits]; omega
 rw [e4]
 omega
theorem part_eq {a s x n:Int} (ha:0≤a∧a≤1099511627776) (hs:0≤s∧s≤1099511627776) (hx:0≤x∧x < 281474976710656) (hn:0≤n∧n≤65536) :
 partR a s x n = partM a s x n∧(partM a s x n = ((a + x,n),0)∧n≤s∨partM a s x n = ((0,0),42)):=by
 have hf:fairB a s = true:=fairB_iff.2 (by omega)
 have e1:wi (s - x) = s - x:=W_id (by omega) (by omega)
 have e2:wi (a + x) = a + x:=W_id (by omega) (by omega)
 unfold partR partM
 rw [hf,e1,e2]
 by_cases h:x≤s∧n≤s - x
 · rw [if_pos ⟨rfl,hx.1,hn.1,h.1,h.2⟩,if_pos (by
    simp only [Bool.true_and,Bool.and_eq_true,decide_eq_true_eq]; omega)]
   exact ⟨rfl,.inl ⟨rfl,by omega⟩⟩
 · rw [if_neg fun hh=>h ⟨hh.2.2.2.1,hh.2.2.2.2⟩,if_neg (by
    simp only [Bool.true_and,Bool.and_eq_true,decide_eq_true_eq]; omega)]
   exact ⟨rfl,.inr rfl⟩
theorem reb_hd {s:Vi} {d:Rv} {v:Int} {r:Ru} (h0:0≤v) (h1:v < 18446744073709551616) (ha:0≤r.a∧r.a≤1099511627776) (hs:0≤r.s∧r.s≤32768) (hd:d.head = (s.on,s.st,s.fit,s.base,s.q)) :
 (rbaseR d v r).head = ((rebM s v r).on,(rebM s v r).st,(rebM s v r).fit,(rebM s v r).base,(rebM s v r).q):=by
 obtain ⟨x1,x2⟩:=baseX_eq h0 h1
 obtain ⟨n1,n2⟩:=baseN_eq h0 h1
 have hon:d.on = s.on:=congrArg Prod.fst hd
 unfold rbaseR rebM rbaseOk
 rw [x1,x2,n1,n2,← baseB_eq h0 h1]
 have hX:0≤v % 281474976710656 / 256 * 256∧v % 281474976710656 / 256 * 256 < 281474976710656:=by omega
 have hN:256≤(v % 256 + 1) * 256∧(v % 256 + 1) * 256≤65536:=by omega
 have hdiv:(v % 256 + 1) * 256 = 32 * (8 * (v % 256 + 1)):=by omega
 generalize hxx:v % 281474976710656 / 256 * 256 = x at *
 generalize hk:v % 256 + 1 = k at *
 obtain ⟨pe,pc⟩:=part_eq (a:=r.a) (s:=r.s) (x:=x) (n:=k * 256) ha ⟨hs.1,by omega⟩ hX ⟨by omega,hN.2⟩
 rw [pe]
 have hbv:rbaseV v = baseV v:=rfl
 rw [hbv]
 rcases pc with ⟨pc,hle⟩ | pc
 · rw [pc]
   have e1:IntKind.i64.wrap (Int.tdiv (k * 256) 32) = 8 * k:=by
    rw [Int.tdiv_eq_ediv_of_nonneg (by omega),show k * 256 / 32 = 8 * k by omega]
    exact W_id (by omega) (by omega)
   have e2:decide (IntKind.i64.wrap (Int.tdiv (k * 256) 32)≤1024) = true:=by rw [e1]; exact decide_eq_true (by omega)
   have e3:rightB (k * 256) 32 = true:=by
    have:=right_n (N:=(8 * k).toNat) (by omega) (by omega)
    rw [show (32:Int) * (((8 * k).toNat:Nat):Int) = k * 256 by omega] at this
    exact this
   have e4:newQ (r.a + x) (k * 256) = (⟨r.a + x,k * 256,0,0⟩,0):=by
    unfold newQ
    rw [e3,decide_eq_true (by omega:0≤r.a + x)]; rfl
   dsimp only
   rw [e2,e4]
   cases hb:baseV v <;> simp [Rv.head,hon]
 · rw [pc]
   cases hb:baseV v <;> simp [Rv.head,hon]
def VR (s:Vi):Prop:=∃ i:Nat,i < 32768∧s.q.r = 32 * (i:Int)
theorem vr0:VR vi0:=⟨0,by omega,rfl⟩
theorem VR.q {s t:Vi} (h:VR s) (e:t.q = s.q):VR t:=by unfold VR; rw [e]; exact h
theorem pass_r {q:Qu} (hs:SmallS q) (h:∃ i:Nat,i < 32768∧q.r = 32 * (i:Int)):∃ i:Nat,i < 32768∧(passQ q).1.r = 32 * (i:Int):=by
 unfold passQ
 refine ite_p (fun A:Qu×Int=>∃ i:Nat,i < 32768∧A.1.r = 32 * (i:Int)) (fun _=>h) fun _=>?_
 show ∃ i:Nat,i < 32768∧nextQ q.s q.r = 32 * (i:Int)
 by_cases hm:mayB q.s 32 q.r = true
 · obtain ⟨N,i,e1,e2,hi,hN⟩:=may_form hs hm
   rw [e1,e2,nextQ_n hN hi]
   have:(i + 1) % N < N:=Nat.mod_lt _ (by omega)
   exact ⟨(i + 1) % N,by omega,rfl⟩
 · unfold nextQ
   rw [if_neg hm]
   exact ⟨0,by omega,rfl⟩
theorem VR.step {s:Vi} {bs:List Int} {r:Ru} {owned:List Int} {p:Nat} (g:VR s) (gq:VQ s):VR (vstepM s bs r owned p).2.2.1:=by
 have hs:=stp s bs r owned p
 generalize vstepM s bs r owned p = M at *
 cases hs with
 | off=>exact g
 | st=>exact g
 | fit=>exact g.q rfl
 | empty=>exact g
 | head=>exact g.q rfl
 | err=>exact g.q rfl
 | ok=>exact pass_r gq.1 g
theorem set_r (q:Qu) (a:Int):(setQ q a).1.r = q.r:=by unfold setQ; split <;> rfl
theorem VR.write {s:Vi} {off width v:Int} {r:Ru} (g:VR s):VR (vwriteM s off width v r).1:=by
 unfold vwriteM
 generalize itsM off width = I
 refine ite_p (fun A:Vi×Int=>VR A.1) (fun _=>g) fun _=>?_
 refine ite_p (fun A:Vi×Int=>VR A.1) (fun _=>g.q rfl) fun _=>?_
 refine ite_p (fun A:Vi×Int=>VR A.1) (fun _=>?_) fun _=>?_
 · show VR (if s.on then s else rebM s v r)
   cases s.on
   · show VR (rebM s v r)
     unfold rebM
     refine ite_p VR (fun _=>?_) fun _=>⟨0,by omega,rfl⟩
     refine ⟨0,by omega,?_⟩
     show (newQ _ _).1.r = _
     unfold newQ
     exact ite_p (fun A:Qu×Int=>A.1.r = 32 * ((0:Nat):Int)) (fun _=>rfl) fun _=>rfl
   · exact g
 refine ite_p (fun A:Vi×Int=>VR A.1) (fun _=>?_) fun _=>g
 show VR (stop1 v (if s.fit then { s with q:=(setQ s.q (wi (bitX .and .u64 v 1048544))).1 } else s))
 have:VR (if s.fit then { s with q:=(setQ s.q (wi (bitX .and .u64 v 1048544))).1 } else s):=by
  cases s.fit
  · exact g
  · obtain ⟨i,h1,h2⟩:=g
    exact ⟨i,h1,by show (setQ s.q _).1.r = _; rw [set_r]; exact h2⟩
 exact this.q rfl
theorem Rel.like {s t:Vi} {d e:Rv} (r:Rel s d) (h1:t.devs = s.devs) (h2:t.colls = s.colls) (h3:e.devs = d.devs) (h4:e.bits = d.bits) (h5:e.routes = d.routes) (h6:e.colls = d.colls) (hh:e.head = (t.on,t.st,t.fit,t.base,t.q)):Rel t e:=by
 refine ⟨hh,fun dev=>?_,fun dev ev=>?_,fun c=>?_,by rw [h6]; exact r.c8⟩
 · rw [h1,r.dev dev]; unfold dOf atR; rw [h3,h4]
 · have:evOf t dev ev = evOf s dev ev:=by unfold evOf; rw [h1]
   rw [this,r.ev dev ev]; unfold xOf findR; rw [h5]
 · rw [h2,r.coll c]; unfold cOf; rw [h6]
section
variable {s:Vi} {d:Rv}
theorem Rel.on (r:Rel s d):d.on = s.on:=congrArg Prod.fst r.hd
theorem Rel.st (r:Rel s d):d.st = s.st:=congrArg (fun x=>x.2.1) r.hd
theorem Rel.fit (r:Rel s d):d.fit = s.fit:=congrArg (fun x=>x.2.2.1) r.hd
theorem Rel.base (r:Rel s d):d.base = s.base:=congrArg (fun x=>x.2.2.2.1) r.hd
theorem Rel.q (r:Rel s d):d.q = s.q:=congrArg (fun x=>x.2.2.2.2) r.hd
theorem rct_no {k v:Int} (h:k≠1) (e:Rv):rctR k v e = e:=by unfold rctR; rw [if_neg h]
theorem rcb_no {k v:Int} {ru:Ru} (h:k≠19) (e:Rv):rcbR k v ru e = e:=by unfold rcbR; rw [if_neg fun hh=>h hh.1]
theorem rcw_no {k v:Int} (h:k≠20) (e:Rv):rcwR k v e = e:=by unfold rcwR; rw [if_neg h]
theorem write_rel (r:Rel s d) {off width v:Int} {ru:Ru} (h0:0≤v) (h1:v < 18446744073709551616) (ha:0≤ru.a∧ru.a≤1099511627776) (hs:0≤ru.s∧ru.s≤32768) :
 (vwriteM s off width v ru).2 = (rwriteM d off width v ru).2∧Rel (vwriteM s off width v ru).1 (rwriteM d off width v ru).1:=by
 unfold vwriteM rwriteM
 generalize itsM off width = I
 by_cases he:I.2≠0
 · rw [if_pos he,if_pos he]; exact ⟨rfl,r⟩
 rw [if_neg he,if_neg he]
 generalize I.1.1 = k
 have e1:=and1 h0 h1
 have e2:=tmod2 h0
 by_cases k1:k = 1
 · subst k1
   rw [if_pos rfl]
   refine ⟨rfl,?_⟩
   show Rel { s with on:=(bitX .and .u64 v 1) == 1 } (rcwR 1 v (rcbR 1 v ru (rctR 1 v d)))
   have:rcwR 1 v (rcbR 1 v ru (rctR 1 v d)) = { d with on:=(Int.tmod v 2) == 1 }:=by
    rw [rcw_no (by omega),rcb_no (by omega)]
    unfold rctR
    rw [if_pos rfl]
   rw [this,e1,e2]
   refine r.like rfl rfl rfl rfl rfl rfl ?_
   show ((v % 2 == 1),d.st,d.fit,d.base,d.q) = _
   rw [r.st,r.fit,r.base,r.q]
 rw [if_neg k1]
 by_cases k19:k = 19
 · subst k19
   rw [if_pos rfl]
   refine ⟨rfl,?_⟩
   show Rel (if s.on then s else rebM s v ru) (rcwR 19 v (rcbR 19 v ru (rctR 19 v d)))
   have:rcwR 19 v (rcbR 19 v ru (rctR 19 v d)) = if d.on = false then rbaseR d v ru else d:=by
    rw [rcw_no (by omega),rct_no (by omega)]
    unfold rcbR
    by_cases ho:d.on = false
    · rw [if_pos ⟨rfl,ho⟩,if_pos ho]
    · rw [if_neg fun h=>ho h.2,if_neg ho]
   rw [this,r.on]
   cases hon:s.on with
   | true=>rw [if_pos rfl,if_neg (by simp)]; exact r
   | false =>
    rw [if_neg (by simp),if_pos rfl]
    exact r.like (reb_same s v ru).1 (reb_same s v ru).2 rfl rfl rfl rfl (reb_hd h0 h1 ha hs r.hd)
 rw [if_neg k19]
 by_cases k20:k = 20
 · subst k20
   rw [if_pos rfl]
   refine ⟨rfl,?_⟩
   show Rel (stop1 v (if s.fit then { s with q:=(setQ s.q (wi (bitX .and .u64 v 1048544))).1 } else s)) (rcwR 20 v (rcbR 20 v ru (rctR 20 v d)))
   have:rcwR 20 v (rcbR 20 v ru (rctR 20 v d)) = rstopR v (if d.fit then { d with q:=(setQ d.q (rwAt v)).1 } else d):=by
    rw [rct_no (by omega),rcb_no (by omega)]
    unfold rcwR
    rw [if_pos rfl]
   rw [this,rwAt_eq h0 h1]
   have r2:Rel (if s.fit then { s with q:=(setQ s.q (wi (bitX .and .u64 v 1048544))).1 } else s) (if d.fit = true then { d with q:=(setQ d.q (wi (bitX .and .u64 v 1048544))).1 } else d):=by
    by_cases hf:s.fit = true
    · rw [if_pos hf,if_pos (r.fit.trans hf)]
      refine r.like rfl rfl rfl rfl rfl rfl ?_
      show (d.on,d.st,d.fit,d.base,(setQ d.q _).1) = _
      rw [r.on,r.st,r.fit,r.base,r.q]
    · rw [if_neg hf,if_neg (by rw [r.fit]; exact hf)]; exact r
   generalize (if s.fit then { s with q:=(setQ s.q (wi (bitX .and .u64 v 1048544))).1 } else s:Vi) = s2 at *
   generalize (if d.fit = true then { d with q:=(setQ d.q (wi (bitX .and .u64 v 1048544))).1 } else d:Rv) = d2 at *
   refine (show Rel (stop1 v s2) (rstopR v d2) from ?_)
   have hst:(stop1 v s2) = { s2 with st:=if v % 2 = 1 then false else s2.st }:=by
    unfold stop1
    rw [e1]
    have:v % 2 = 0∨v % 2 = 1:=by omega
    rcases this with h | h <;> cases hs2:s2.st <;> simp [h]
   have hsd:rstopR v d2 = { d2 with st:=if v % 2 = 1 then false else d2.st }:=by
    unfold rstopR
    rw [e2]
    have:v % 2 = 0∨v % 2 = 1:=by omega
    rcases this with h | h
    · rw [if_neg (by simp [h]),if_neg (by omega)]
    · rw [if_pos (by simp [h]),if_pos h]
   rw [hst,hsd]
   refine r2.like rfl rfl rfl rfl rfl rfl ?_
   show (d2.on,_,d2.fit,d2.base,d2.q) = _
   rw [r2.on,r2.fit,r2.base,r2.q,r2.st]
 rw [if_neg k20]
 refine ⟨rfl,?_⟩
 have:rcwR k v (rcbR k v ru (rctR k v d)) = d:=by
  rw [rct_no k1,rcb_no k19,rcw_no k20]
 rw [this]; exact r
theorem read_rel (r:Rel s d) (g:VR s) (off width:Int):vreadM s off width = rreadM d off width:=by
 unfold vreadM rreadM
 generalize itsM off width = I
 by_cases he:I.2≠0
 · rw [if_pos he,if_pos he]
 rw [if_neg he,if_neg he]
 by_cases k1:I.1.1 = 1
 · rw [if_pos k1,if_pos k1,r.on]
   cases s.on <;> rfl
 rw [if_neg k1,if_neg k1]
 by_cases k2:I.1.1 = 2
 · rw [if_pos k2,if_pos k2]
 rw [if_neg k2,if_neg k2,r.base,r.q]
 by_cases k3:I.1.1 = 19
 · rw [if_pos k3,if_pos k3]
 rw [if_neg k3,if_neg k3]
 by_cases k4:I.1.1 = 20
 · rw [if_pos k4,if_pos k4]
 rw [if_neg k4,if_neg k4]
 by_cases k5:I.1.1 = 21
 · rw [if_pos k5,if_pos k5,r.st]
   obtain ⟨i,hi,hr⟩:=g
   have e0:IntKind.u64.wrap s.q.r = ((32 * i:Nat):Int):=by
    rw [hr,show 32 * (i:Int) = ((32 * i:Nat):Int) by omega]
    exact u64_id (by omega)
   rw [e0]
   cases s.st
   · have:=or_u64 (a:=32 * i) (b:=0) (by omega) (by omega)
     show (bitX .or .u64 ((32 * i:Nat):Int) ((0:Nat):Int),(0:Int)) = (IntKind.u64.wrap (((32 * i:Nat):Int) + 0),0)
     rw [this,Nat.or_zero,Int.add_zero,u64_id (by omega)]
   · have:=or_u64 (a:=32 * i) (b:=1) (by omega) (by omega)
     show (bitX .or .u64 ((32 * i:Nat):Int) ((1:Nat):Int),(0:Int)) = (IntKind.u64.wrap (((32 * i:Nat):Int) + 1),0)
     have h2:=Nat.two_pow_add_eq_or_of_lt (i:=5) (b:=1) (by omega) i
     rw [show 2 ^ 5 = 32 from rfl] at h2
     rw [this,← h2,show ((32 * i:Nat):Int) + 1 = ((32 * i + 1:Nat):Int) by omega,u64_id (by omega)]
 rw [if_neg k5,if_neg k5]
theorem left_rel (r:Rel s d) (h:SmallS s.q):vleft s = rleft d:=by
 unfold vleft rleft
 rw [r.fit,r.q]
 cases s.fit
 · rfl
 · rw [if_pos rfl,if_pos rfl]; exact left_cnt h
theorem step_rel (r:Rel s d) (v:VGood s) (g:RGood d) {bs:List Int} {ru:Ru} {owned:List Int} (p:Nat) (hs:0≤ru.s∧ru.s≤1099511627776) :
 (vstepM s bs ru owned p).1 = (rstepM d bs ru owned).1∧(vstepM s bs ru owned p).2.1 = (rstepM d bs ru owned).2.1∧(vstepM s bs ru owned p).2.2.2 = (rstepM d bs ru owned).2.2.2∧Rel (vstepM s bs ru owned p).2.2.1 (rstepM d bs ru owned).2.2.1:=by
 have ha:=head_addr s.q bs
 have hv:=vdo_rel r v g (c:=(headQ s.q bs).1) (ru:=ru) (owned:=owned) p (by omega) hs
 unfold vstepM rstepM
 rw [show headQ d.q bs = headQ s.q bs by rw [r.q]]
 generalize headQ s.q bs = hd at *
 by_cases h1:s.on = false
 · rw [if_pos h1,if_pos (r.on.trans h1)]; exact ⟨rfl,rfl,rfl,r⟩
 rw [if_neg h1,if_neg (show ¬ d.on = false by rw [r.on]; exact h1)]
 by_cases h2:s.st = true
 · rw [if_pos h2,if_pos (r.st.trans h2)]; exact ⟨rfl,rfl,rfl,r⟩
 rw [if_neg h2,if_neg (show ¬ d.st = true by rw [r.st]; exact h2)]
 have stl:Rel { s with st:=true } { d with st:=true }:=by
  refine r.like rfl rfl rfl rfl rfl rfl ?_
  show (d.on,true,d.fit,d.base,d.q) = _
  rw [r.on,r.fit,r.base,r.q]
 by_cases h3:s.fit = false
 · rw [if_pos h3,if_pos (r.fit.trans h3)]; exact ⟨rfl,rfl,rfl,stl⟩
 rw [if_neg h3,if_neg (show ¬ d.fit = false by rw [r.fit]; exact h3)]
 by_cases h4:hd.2 = 170
 · rw [if_pos h4,if_pos h4]; exact ⟨rfl,rfl,rfl,r⟩
 rw [if_neg h4,if_neg h4]
 by_cases h5:hd.2≠0
 · rw [if_pos h5,if_pos h5]; exact ⟨rfl,rfl,rfl,stl⟩
 rw [if_neg h5,if_neg h5]
 obtain ⟨e1,e2,r2⟩:=hv
 generalize vdoM s hd.1 ru owned p = V at *
 generalize vdoR d hd.1 ru owned = D at *
 rw [← e2]
 by_cases h6:V.2.2≠0
 · rw [if_pos h6,if_pos h6]
   refine ⟨rfl,rfl,rfl,r2.like rfl rfl rfl rfl rfl rfl ?_⟩
   show (D.2.1.on,true,D.2.1.fit,D.2.1.base,D.2.1.q) = _
   rw [r2.on,r2.fit,r2.base,r2.q]
 · rw [if_neg h6,if_neg h6]
   refine ⟨rfl,e1,rfl,r2.like rfl rfl rfl rfl rfl rfl ?_⟩
   show (D.2.1.on,D.2.1.st,D.2.1.fit,D.2.1.base,(passQ D.2.1.q).1) = _
   rw [r2.on,r2.st,r2.fit,r2.base,r2.q]
end
theorem good_of {len:Nat} {a s off:Int} (hl:len≤131072) (h:¬ (mayE s off 8≠0∨off > IntKind.i64.wrap (s - 32)∨holdsB len a s = false)):GoodP len a s off:=by
 have h1:mayE s off 8 = 0:=Classical.byContradiction fun h1=>h (.inl h1)
 have h2:¬ off > IntKind.i64.wrap (s - 32):=fun h2=>h (.inr (.inl h2))
 have h3:holdsB len a s = true:=by
  cases e:holdsB len a s
  · exact absurd (.inr (.inr e)) h
  · rfl
 obtain ⟨g1,g2,g3,g4⟩:=holdsB_iff.1 h3
 rw [W_id (by omega) (by omega)] at h2
 unfold mayE at h1
 rw [if_neg (by omega),W_id (by omega) (by omega)] at h1
 split at h1
 · cases h1
 · rename_i h5
   split at h1
   · cases h1
   · rename_i h6
     rw [Classical.not_not,Int.tmod_eq_emod_of_nonneg (by omega)] at h5
     exact ⟨g1,by omega,hl,by omega,h5,by omega⟩
theorem store_keeps {bs:List Int} {a s off t:Int} {c:Cm} (hl:bs.length≤131072) (ht:holdsB bs.length t 1 = true) (h:¬ (storeE bs.length a s off c = 0∧a + off≤t∧t < a + off + 32)) :
 cut (storeM bs a s off c) t.toNat 1 = cut bs t.toNat 1:=by
 cases he:encM c with
 | none=>rw [storeM_none he]
 | some ws =>
  by_cases hc:mayE s off 8≠0∨off > IntKind.i64.wrap (s - 32)∨holdsB bs.length a s = false
  · unfold storeM
    rw [he]
    dsimp only
    rw [if_pos hc]
  · have hg:=good_of hl hc
    have e0:storeE bs.length a s off c = 0:=by rw [storeE_good hg,he]; rfl
    rw [storeM_some he hg]
    obtain ⟨g1,g2,g3,g4⟩:=holdsB_iff.1 ht
    have key:∀ k,k≤4→cut (stW bs a s off ws k) t.toNat 1 = cut bs t.toNat 1:=by
     intro k
     induction k with
     | zero=>intro _; rfl
     | succ k ih =>
      intro hk
      rw [stW_next hg ws (by omega),cut_wr_ne _ ?_,ih (by omega)]
      obtain ⟨k1,k2,k3,k4,k5,k6⟩:=hg
      omega
    exact key 4 (by omega)
theorem store_in {len:Nat} {a s off:Int} {c:Cm} (hl:len≤131072) (h:storeE len a s off c = 0):GoodP len a s off:=by
 unfold storeE at h
 split at h
 · cases h
 · split at h
   · cases h
   · rename_i hc; exact good_of hl hc
theorem store_err {bs:List Int} {a s off:Int} {c:Cm} (h:storeE bs.length a s off c≠0):storeM bs a s off c = bs:=by
 unfold storeE at h
 unfold storeM
 cases he:encM c with
 | none=>rfl
 | some ws =>
  rw [he] at h
  dsimp only at h ⊢
  by_cases hc:mayE s off 8≠0∨off > IntKind.i64.wrap (s - 32)∨holdsB bs.length a s = false
  · rw [if_pos hc]
  · rw [if_neg hc] at h; exact absurd rfl h
theorem cut_one (bs:List Int) (t:Nat):(cut bs t 1)[0]? = bs[t]?:=by simp [cut]
theorem store_over {bs:List Int} {a s off:Int} {c:Cm} (hl:bs.length≤131072) (h:storeE bs.length a s off c = 0):over bs (a + off).toNat (cut (storeM bs a s off c) (a + off).toNat 32) = storeM bs a s off c:=by
 obtain ⟨g1,g2,g3,g4,g5,g6⟩:=store_in hl h
 have hlen:=storeM_length bs a s off c
 have hget:∀ j:Nat,¬ ((a + off).toNat≤j∧j < (a + off).toNat + 32)→(storeM bs a s off c)[j]? = bs[j]?:=by
  intro j hj
  by_cases hjl:j < bs.length
  · have hk:=store_keeps (t:=(j:Int)) (bs:=bs) (a:=a) (s:=s) (off:=off) (c:=c) hl (holdsB_iff.2 (by omega)) (fun hh=>hj (by omega))
    rw [Int.toNat_natCast] at hk
    rw [← cut_one,hk,cut_one]
  · rw [List.getElem?_eq_none (by omega),List.getElem?_eq_none (by omega)]
 generalize storeM bs a s off c = n at *
 generalize hk:(a + off).toNat = k at *
 have hkl:k + 32≤bs.length:=by omega
 have hxl:(cut n k 32).length = 32:=by unfold cut; rw [List.length_take,List.length_drop]; omega
 unfold over
 refine List.ext_getElem? fun j=>?_
 by_cases h1:j < k
 · rw [List.append_assoc,List.getElem?_append_left (by rw [List.length_take]; omega),List.getElem?_take,if_pos h1]
   exact (hget j (by omega)).symm
 by_cases h2:j < k + 32
 · rw [List.append_assoc,List.getElem?_append_right (by rw [List.length_take]; omega),List.getElem?_append_left (by rw [hxl,List.length_take]; omega),List.length_take,show min k bs.length = k by omega]
   unfold cut
   rw [List.getElem?_take,if_pos (by omega),List.getElem?_drop,show k + (j - k) = j by omega]
 · rw [List.getElem?_append_right (by rw [List.length_append,hxl,List.length_take]; omega),List.length_append,hxl,List.length_take,show min k bs.length = k by omega,List.getElem?_drop,show k + 32 + (j - (k + 32)) = j by omega]
   exact (hget j (by omega)).symm
theorem rt_fields (c d:RtE) (w:World):(Op.eqFields 9999 [.int .i64 c.num,.int .i64 c.coll,.bool c.val].toArray [.int .i64 d.num,.int .i64 d.coll,.bool d.val].toArray (P.fieldsOf tRoute).toList).run P w = .ok (decide (c = d)) w:=by
 obtain ⟨c0,c1,c2⟩:=c
 obtain ⟨d0,d1,d2⟩:=d
 simp only [Program.fieldsOf,Tryz.underlying44,tRoute]
 have u3:=Tryz.underlying3
 have a3:=Tryz.isAgg3
 have z3:=Tryz.sizeOf3
 have u4:=Tryz.underlying4
 have a4:=Tryz.isAgg4
 have z4:=Tryz.sizeOf4
 go_simp
 repeat' split
 all_goals simp_all
theorem rt_eq {c d:RtE} {w:World} {K:Bool→Prop} (h:K (decide (c = d))):eqA P .eql tRoute (rtV c) (rtV d) w K :=
 eqA_eql (by kernel_rfl) (by kernel_rfl) (by kernel_rfl) (rt_fields c d w) h
def asksM (x:Ac) (t:Sd):Bool :=
 if t.s.on != t.d.on || (t.s.st != t.d.st || vleft t.s != rleft t.d) then false
 else decide ((routeM t.s x.c.dev x.c.ev).1 = (routeR t.d x.c.dev x.c.ev).1) && ((routeM t.s x.c.dev x.c.ev).2.1 == (routeR t.d x.c.dev x.c.ev).2.1 && ((routeM t.s x.c.dev x.c.ev).2.2 == (routeR t.d x.c.dev x.c.ev).2.2 &&
  ((vreadM t.s x.at' (wideM x)).1 == (rreadM t.d x.at' (wideM x)).1 && (vreadM t.s x.at' (wideM x)).2 == (rreadM t.d x.at' (wideM x)).2)))
theorem asks_t (bs bm bd bn:Nat) (t:Sd) (r:Ru) {q p:Option Addr} {n cq c:Nat} (x:Ac) (gd:RGood t.d) :
 Tri P F.zzb3 [.agg (sideV bs bm bd bn r q p n cq c).toArray,acV x] (sdL bs bm bd bn t) fun v L'=>v = .bool (asksM x t)∧L' = sdL bs bm bd bn t:=by
 intro w S hS
 refine zzk3 ?_
 unfold zzb3
 have H:=Own.start hS
 simp only [sdL] at H ⊢
 have hs:=gd.fits.small
 refine alc_o H fun b32 wx H=>alc_o H fun b34 wx H=>join_o ?_
 have k1:∀ (b:Bool) (wx:World),b = (t.s.on != t.d.on || (t.s.st != t.d.st || vleft t.s != rleft t.d))→X.Own w S [row b34 x.cells T.t68,row b32 (sideV bs bm bd bn r q p n cq c) T.t40,vitsI bs t.s,memI bm t.m,refI bd t.d,memI bn t.n] wx →
  zzfv (fun v w'=>∃ L',(v = .bool (asksM x t)∧L' = [vitsI bs t.s,memI bm t.m,refI bd t.d,memI bn t.n])∧X.Own w S L' w') b32 b34 b wx:=by
  intro b wx hb H
  unfold zzfv
  refine cnd_i (fun h=>?_) fun h=>?_
  · refine ⟨_,⟨?_,rfl⟩,H.dp⟩
    unfold asksM
    rw [← hb,if_pos h]
  · have e:asksM x t = (decide ((routeM t.s x.c.dev x.c.ev).1 = (routeR t.d x.c.dev x.c.ev).1) && ((routeM t.s x.c.dev x.c.ev).2.1 == (routeR t.d x.c.dev x.c.ev).2.1 && ((routeM t.s x.c.dev x.c.ev).2.2 == (routeR t.d x.c.dev x.c.ev).2.2 && ((vreadM t.s x.at' (wideM x)).1 == (rreadM t.d x.at' (wideM x)).1 && (vreadM t.s x.at' (wideM x)).2 == (rreadM t.d x.at' (wideM x)).2)))):=by
     unfold asksM
     rw [← hb,if_neg (by rw [h]; simp)]
    repeat (first | refine lIa H ?_ | refine lLa H ?_ | refine lBa H ?_ | refine lPa H ?_ | refine lSa H ?_)
    refine call_pa H (Route_t bs t.s x.c.dev x.c.ev) fun wx H=>?_
    refine ⟨_,_,_,_,_,rfl,alc_o H fun b49 wx H=>?_⟩
    iterate 3 refine sta H fun wx H=>?_
    repeat (first | refine lIa H ?_ | refine lLa H ?_ | refine lBa H ?_ | refine lPa H ?_ | refine lSa H ?_)
    refine call_pa H (rRoute_t bd t.d x.c.dev x.c.ev hs) fun wx H=>?_
    refine ⟨_,_,_,_,_,rfl,alc_o H fun b64 wx H=>?_⟩
    iterate 3 refine sta H fun wx H=>?_
    refine drw_o H fun wx H=>?_
    repeat (first | refine lIa H ?_ | refine lLa H ?_ | refine lBa H ?_ | refine lPa H ?_ | refine lSa H ?_)
    refine call_pa H (wide_t x) fun wx H=>?_
    refine ⟨_,rfl,?_⟩
    refine ⟨by (repeat (first | refine lIa H ?_ | refine lLa H ?_ | refine lBa H ?_ | refine lPa H ?_ | refine lSa H ?_)); rfl,?_⟩
    refine ⟨by (repeat (first | refine lIa H ?_ | refine lLa H ?_ | refine lBa H ?_ | refine lPa H ?_ | refine lSa H ?_)); rfl,?_⟩
    refine call_pa H (VRead_t bs t.s x.at' (wideM x)) fun wx H=>?_
    refine ⟨_,_,rfl,?_⟩
    refine drw_o H fun wx H=>?_
    repeat (first | refine lIa H ?_ | refine lLa H ?_ | refine lBa H ?_ | refine lPa H ?_ | refine lSa H ?_)
    refine call_pa H (wide_t x) fun wx H=>?_
    refine ⟨_,rfl,?_⟩
    refine ⟨by (repeat (first | refine lIa H ?_ | refine lLa H ?_ | refine lBa H ?_ | refine lPa H ?_ | refine lSa H ?_)); rfl,?_⟩
    refine ⟨by (repeat (first | refine lIa H ?_ | refine lLa H ?_ | refine lBa H ?_ | refine lPa H ?_ | refine lSa H ?_)); rfl,?_⟩
    refine call_pa H (RRead_t bd t.d x.at' (wideM x)) fun wx H=>?_
    refine ⟨_,_,rfl,join_o ?_⟩
    repeat (first | refine lIa H ?_ | refine lLa H ?_ | refine lBa H ?_ | refine lPa H ?_ | refine lSa H ?_)
    refine rt_eq (c:=(routeM t.s x.c.dev x.c.ev).1) (d:=(routeR t.d x.c.dev x.c.ev).1) ?_
    unfold zzhS
    have H:=H.drop (L1:=[vitsI bs t.s,memI bm t.m,refI bd t.d,memI bn t.n]) (by repeat (first | exact Cut.nil | (apply Cut.cons; (repeat (first | exact Pick.here | apply Pick.there)))))
    refine cnd_i (fun h1=>cnd_i (fun h2=>cnd_i (fun h3=>cnd_i (fun h4=>?_) fun h4=>?_) fun h3=>?_) fun h2=>?_) fun h1=>?_
    · exact ⟨_,⟨by rw [e,h1,h2,h3,h4]; rfl,rfl⟩,H⟩
    · exact ⟨_,⟨by rw [e,h1,h2,h3,h4]; rfl,rfl⟩,H⟩
    · exact ⟨_,⟨by rw [e,h1,h2,h3]; rfl,rfl⟩,H⟩
    · exact ⟨_,⟨by rw [e,h1,h2]; rfl,rfl⟩,H⟩
    · exact ⟨_,⟨by rw [e,h1]; rfl,rfl⟩,H⟩
 refine drw_o H fun wx H=>?_
 repeat (first | refine lIa H ?_ | refine lLa H ?_ | refine lBa H ?_ | refine lPa H ?_ | refine lSa H ?_)
 obtain ⟨a,hc8,H⟩:=ref_open H (b:=bd) (d:=t.d) (by repeat (first | exact Pick.here | apply Pick.there))
 have back:∀ {wx:World} {L F:List It},X.Own w S L wx→Cut L [row bd (t.d.cells a) tRv,nums a.p1 a.c1 t.d.devs,nums a.p2 a.c2 t.d.bits,els EQ a.p3 a.c3 t.d.routes,row b34 x.cells T.t68,row b32 (sideV bs bm bd bn r q p n cq c) T.t40,vitsI bs t.s,memI bm t.m,memI bn t.n] F →
  X.Own w S [row b34 x.cells T.t68,row b32 (sideV bs bm bd bn r q p n cq c) T.t40,vitsI bs t.s,memI bm t.m,refI bd t.d,memI bn t.n] wx:=fun H hc =>
  (ref_shut (F:=[row b34 x.cells T.t68,row b32 (sideV bs bm bd bn r q p n cq c) T.t40,vitsI bs t.s,memI bm t.m,memI bn t.n]) hc8 (H.drop hc)).dp
 dsimp only [nn]
 repeat (first | refine lIa H ?_ | refine lLa H ?_ | refine lBa H ?_ | refine lPa H ?_ | refine lSa H ?_)
 refine call_pa H (On_t bs t.s) fun wx H=>?_
 refine ⟨_,rfl,?_⟩
 refine ⟨by (repeat (first | refine lIa H ?_ | refine lLa H ?_ | refine lBa H ?_ | refine lPa H ?_ | refine lSa H ?_)); rfl,?_⟩
 refine ⟨by (repeat (first | refine lIa H ?_ | refine lLa H ?_ | refine lBa H ?_ | refine lPa H ?_ | refine lSa H ?_)); rfl,?_⟩
 refine cnd_i (fun h=>k1 _ _ ?_ (back H (by repeat (first | exact Cut.nil | (apply Cut.cons; (repeat (first | exact Pick.here | apply Pick.there))))))) fun h=>?_
 · rw [show (t.s.on != t.d.on) = true from h,Bool.true_or]
 have e1:(t.s.on != t.d.on) = false:=h
 repeat (first | refine lIa H ?_ | refine lLa H ?_ | refine lBa H ?_ | refine lPa H ?_ | refine lSa H ?_)
 simp only [add_lit,Nat.zero_add]
 repeat (first | refine lIa H ?_ | refine lLa H ?_ | refine lBa H ?_ | refine lPa H ?_ | refine lSa H ?_)
 refine call_pa H (Stalled_t bs t.s) fun wx H=>?_
 refine ⟨_,rfl,?_⟩
 refine ⟨by (repeat (first | refine lIa H ?_ | refine lLa H ?_ | refine lBa H ?_ | refine lPa H ?_ | refine lSa H ?_)); rfl,?_⟩
 refine ⟨by (repeat (first | refine lIa H ?_ | refine lLa H ?_ | refine lBa H ?_ | refine lPa H ?_ | refine lSa H ?_)); rfl,?_⟩
 refine cnd_i (fun h=>k1 _ _ ?_ (back H (by repeat (first | exact Cut.nil | (apply Cut.cons; (repeat (first | exact Pick.here | apply Pick.there))))))) fun h=>?_
 · rw [show (t.s.st != t.d.st) = true from h,e1,Bool.true_or,Bool.false_or]
 have e2:(t.s.st != t.d.st) = false:=h
 have H:=back H (by repeat (first | exact Cut.nil | (apply Cut.cons; (repeat (first | exact Pick.here | apply Pick.there)))))
 repeat (first | refine lIa H ?_ | refine lLa H ?_ | refine lBa H ?_ | refine lPa H ?_ | refine lSa H ?_)
 refine call_pa H (VLeft_t bs t.s) fun wx H=>?_
 refine ⟨_,rfl,?_⟩
 refine ⟨by (repeat (first | refine lIa H ?_ | refine lLa H ?_ | refine lBa H ?_ | refine lPa H ?_ | refine lSa H ?_)); rfl,?_⟩
 refine call_pa H (RLeft_t bd t.d gd.sq) fun wx H=>?_
 refine ⟨_,rfl,k1 _ _ ?_ (H.dp)⟩
 rw [e1,e2,Bool.false_or,Bool.false_or]
def evw (d:List (Int×DvI)):List (Int×Int×List (Int×RtE)):=d.map fun u=>(u.1,u.2.bits,u.2.evs)
theorem evw_ks {a b:List (Int×DvI)} (h:evw a = evw b):ks a = ks b:=by
 have:=congrArg (List.map Prod.fst) h
 unfold evw at this
 rw [List.map_map,List.map_map] at this
 exact this
theorem putK_last {α:Type} {kv:List (Int×α)} {k:Int} {v:α} (h:∀ x∈ks kv,x < k):putK kv k v = kv ++ [(k,v)]∧at' kv k = kv.length:=by
 have hl:∀ l:List Int,(∀ x∈l,x < k)→lb l k = l.length:=by
  intro l
  induction l with
  | nil=>intro _; rfl
  | cons y r ih =>
   intro h
   rw [lb_cons,if_pos (h y (by simp)),ih fun x hx=>h x (by simp [hx])]; rfl
 have ha:at' kv k = kv.length:=by unfold at'; rw [hl _ h,ks_len]
 have hh:hasK kv k = false:=by
  unfold hasK
  rw [ha,decide_eq_false]
  rw [List.getElem?_eq_none (by rw [ks_len]; omega)]; simp
 refine ⟨?_,ha⟩
 unfold putK
 rw [hh,ha]; simp
theorem VCopy_t (b:Nat) (s:Vi):Tri P F.zzdw [ptr b] [vitsI b s] fun v L'=>∃ b' dn,v = ptr b'∧evw dn = evw s.devs∧L' = [vitsI b' { s with devs:=dn },vitsI b s]:=by
 intro w S hS
 refine zzlA ?_
 unfold zzdw
 have H:=Own.start hS
 obtain ⟨bd,bc,H⟩:=zzag H (by repeat (first | exact Pick.here | apply Pick.there))
 dsimp only [nn]
 simp only [add_lit,Nat.zero_add]
 repeat (first | refine lIa H ?_ | refine lLa H ?_ | refine lBa H ?_ | refine lPa H ?_ | refine lSa H ?_)
 refine alc_o H fun b13 wx H=>?_
 iterate 10 refine sta H fun wx H=>?_
 simp only [List.set_cons_zero,List.set_cons_succ] at H
 repeat (first | refine lIa H ?_ | refine lLa H ?_ | refine lBa H ?_ | refine lPa H ?_ | refine lSa H ?_)
 refine call_oa H (bcopy_i bc s.colls) fun vx L' wx hq H=>?_
 obtain ⟨bc2,rfl,rfl⟩:=hq
 simp only [List.cons_append,List.nil_append] at H
 refine ⟨_,rfl,?_⟩
 refine sta H fun wx H=>?_
 refine call_oa H (new_d) fun vx L' wx hq H=>?_
 obtain ⟨bd2,rfl,rfl⟩:=hq
 simp only [List.cons_append,List.nil_append] at H
 refine ⟨_,rfl,?_⟩
 refine sta H fun wx H=>?_
 simp only [List.set_cons_zero,List.set_cons_succ] at H
 repeat (first | refine lIa H ?_ | refine lLa H ?_ | refine lBa H ?_ | refine lPa H ?_ | refine lSa H ?_)
 have hup:=zzjS H (E:=ED) (tb:=tBookD) (b:=bd) (kv:=mapv DvI.e s.devs) (by repeat (first | exact Pick.here | apply Pick.there))
 have hlen:=hup.2
 have hup:Up s.devs:=by have:=hup.1; rw [mapv_ks] at this; exact this
 refine call_o H (all_d bd (mapv DvI.e s.devs)) (by repeat (first | exact Cut.nil | (apply Cut.cons; (repeat (first | exact Pick.here | apply Pick.there))))) fun vx L' wx hq H=>?_
 obtain ⟨g,hh,p,cc,q,c2,rfl,rfl⟩:=hq
 unfold thrEd at H
 simp only [List.cons_append,List.nil_append] at H
 refine ⟨_,rfl,?_⟩
 have H:=star_nil H
 have H:=H.drop (L1:=[row b13 (s.cells bd2 bc2) tVits,bookG ED tBookD bd2 (mapv DvI.e []),bookG EI tBookI bc2 s.colls,starI [],row b (s.cells bd bc) tVits,bookG ED tBookD bd (mapv DvI.e s.devs),bookG EI tBookI bc s.colls,starI (s.devs.map evI),row g [.slice p (ks (mapv DvI.e s.devs)).length cc] tInts,row hh [.slice q (vs (mapv DvI.e s.devs)).length c2] ED.ta,nums p cc (ks (mapv DvI.e s.devs)),els ED q c2 (vs (mapv DvI.e s.devs))]) (by repeat (first | exact Cut.nil | (apply Cut.cons; (repeat (first | exact Pick.here | apply Pick.there)))))
 refine rf_o (L0:=[row b13 (s.cells bd2 bc2) tVits,bookG ED tBookD bd2 (mapv DvI.e []),bookG EI tBookI bc2 s.colls,starI [],row b (s.cells bd bc) tVits,bookG ED tBookD bd (mapv DvI.e s.devs),bookG EI tBookI bc s.colls,starI (s.devs.map evI)]) (E:=thrEd g hh p cc q c2 (mapv DvI.e s.devs))
  (fun k L=>∃ dn:List (Int×DvI),evw dn = evw (s.devs.take k)∧L = [row b13 (s.cells bd2 bc2) tVits,bookG ED tBookD bd2 (mapv DvI.e dn),bookG EI tBookI bc2 s.colls,starI (dn.map evI),row b (s.cells bd bc) tVits,bookG ED tBookD bd (mapv DvI.e s.devs),bookG EI tBookI bc s.colls,starI (s.devs.map evI)]) (fun c L=>False)
  thrd_enters (thrd_it g hh p cc q c2 (mapv DvI.e s.devs) hlen) (pairsd_len _) (by unfold thrEd; exact H) ⟨[],rfl,rfl⟩ ?_ ?_ ?_
 · rintro k x _ F l r2 d wx Q2 hx ⟨dn,hdn,rfl⟩ H hgo hdone
   obtain ⟨u,hu,rfl⟩:=pairsd_at hx
   have hk:=(List.getElem?_eq_some_iff.1 hu).1
   have hdl:dn.length = k:=by
    have:=congrArg List.length hdn
    unfold evw at this
    rw [List.length_map,List.length_map,List.length_take] at this
    omega
   have hlt:∀ x∈ks dn,x < u.1:=by
    rw [evw_ks hdn]
    intro x hx
    have e1:ks (s.devs.take k) = (ks s.devs).take k:=by unfold ks; rw [List.map_take]
    rw [e1] at hx
    obtain ⟨j,hj⟩:=List.mem_iff_getElem?.1 hx
    rw [List.getElem?_take] at hj
    split at hj
    · rename_i hjk
      obtain ⟨h1,h2⟩:=List.getElem?_eq_some_iff.1 hj
      have h3:(ks s.devs)[k]? = some u.1:=by unfold ks; rw [List.getElem?_map,hu]; rfl
      obtain ⟨h4,h5⟩:=List.getElem?_eq_some_iff.1 h3
      have:=List.pairwise_iff_getElem.1 hup j k h1 h4 hjk
      rw [h2,h5] at this
      exact this
    · cases hj
   unfold zzim
   dsimp only [X.b2]
   simp only [List.cons_append,List.nil_append] at H
   refine ⟨_,rfl,_,_,rfl,alc_o H fun b50 wx H=>?_⟩
   iterate 2 refine sta H fun wx H=>?_
   refine rec_o H (by repeat (first | exact Rep.here | apply Rep.there)) fun wx H=>?_
   refine drw_o H fun wx H=>?_
   repeat (first | refine lIa H ?_ | refine lLa H ?_ | refine lBa H ?_ | refine lPa H ?_ | refine lSa H ?_)
   have H:=H.perm (L1:=[starI (s.devs.map evI)]) (by repeat (first | exact Cut.nil | (apply Cut.cons; (repeat (first | exact Pick.here | apply Pick.there)))))
   simp only [List.cons_append,List.nil_append] at H
   have H:=star_open (g:=evI) hu H
   have H:X.Own w S (bookG ER tBookR u.2.ptr u.2.evs :: _) wx:=H
   refine call_o H (bcopy_r u.2.ptr u.2.evs) (by repeat (first | exact Cut.nil | (apply Cut.cons; (repeat (first | exact Pick.here | apply Pick.there))))) fun vx L' wx hq H=>?_
   obtain ⟨p2,rfl,rfl⟩:=hq
   simp only [List.cons_append,List.nil_append] at H
   have H:=H.perm (L1:=[evI u,starI ((s.devs.eraseIdx k).map evI)]) (by repeat (first | exact Cut.nil | (apply Cut.cons; (repeat (first | exact Pick.here | apply Pick.there)))))
   simp only [List.cons_append,List.nil_append] at H
   have H:=(star_pick (pick_at (g:=evI) hu)).2 H
   refine ⟨_,rfl,?_⟩
   refine ⟨by (repeat (first | refine lIa H ?_ | refine lLa H ?_ | refine lBa H ?_ | refine lPa H ?_ | refine lSa H ?_)); rfl,?_⟩
   refine ⟨by (repeat (first | refine lIa H ?_ | refine lLa H ?_ | refine lBa H ?_ | refine lPa H ?_ | refine lSa H ?_)); rfl,?_⟩
   have hlen2:(mapv DvI.e dn).length + 1 < NB:=by
    rw [mapv_len] at hlen ⊢
    omega
   refine call_o H (put_d bd2 (mapv DvI.e dn) u.1 ⟨u.2.bits,some ⟨p2,0,none⟩⟩ hlen2) (by repeat (first | exact Cut.nil | (apply Cut.cons; (repeat (first | exact Pick.here | apply Pick.there))))) fun vx L' wx hq H=>?_
   obtain ⟨rfl,rfl⟩:=hq
   simp only [List.cons_append,List.nil_append] at H
   have e2:putK (mapv DvI.e dn) u.1 ⟨u.2.bits,some ⟨p2,0,none⟩⟩ = mapv DvI.e (dn ++ [(u.1,⟨u.2.bits,p2,u.2.evs⟩)]):=by
    rw [← (putK_last (v:=(⟨u.2.bits,p2,u.2.evs⟩:DvI)) hlt).1,mapv_put]; rfl
   rw [e2] at H
   have H:=H.perm (L1:=[bookG ER tBookR p2 u.2.evs,starI (dn.map evI)]) (by repeat (first | exact Cut.nil | (apply Cut.cons; (repeat (first | exact Pick.here | apply Pick.there)))))
   simp only [List.cons_append,List.nil_append] at H
   have H:X.Own w S (evI (u.1,⟨u.2.bits,p2,u.2.evs⟩) :: starI (dn.map evI) :: _) wx:=H
   have H:=star_ins (g:=evI) (y:=(u.1,(⟨u.2.bits,p2,u.2.evs⟩:DvI))) (xs:=dn) (i:=dn.length) (Nat.le_refl _) H
   have e3:X.ins dn dn.length (u.1,(⟨u.2.bits,p2,u.2.evs⟩:DvI)) = dn ++ [(u.1,⟨u.2.bits,p2,u.2.evs⟩)]:=by unfold X.ins; simp
   rw [e3] at H
   refine ⟨_,rfl,?_⟩
   have hnx:evw (dn ++ [(u.1,(⟨u.2.bits,p2,u.2.evs⟩:DvI))]) = evw (s.devs.take (k + 1)):=by
    have e4:s.devs.take (k + 1) = s.devs.take k ++ [u]:=by rw [List.take_add_one,hu]; rfl
    rw [e4]
    unfold evw at hdn ⊢
    rw [List.map_append,List.map_append,hdn]; rfl
   refine rec_o H (by repeat (first | exact Rep.here | apply Rep.there)) fun wx H=>hgo [row b13 (s.cells bd2 bc2) tVits,bookG ED tBookD bd2 (mapv DvI.e (dn ++ [(u.1,⟨u.2.bits,p2,u.2.evs⟩)])),bookG EI tBookI bc2 s.colls,starI ((dn ++ [(u.1,(⟨u.2.bits,p2,u.2.evs⟩:DvI))]).map evI),row b (s.cells bd bc) tVits,bookG ED tBookD bd (mapv DvI.e s.devs),bookG EI tBookI bc s.colls,starI (s.devs.map evI)] wx ⟨_,hnx,rfl⟩ ?_
   have H:=H.rest (L1:=[row b50 [.int .i64 u.2.bits,.pointer (some ⟨u.2.ptr,0,none⟩)] tDevice]) (by repeat (first | exact Cut.nil | (apply Cut.cons; (repeat (first | exact Pick.here | apply Pick.there)))))
   simp only [List.cons_append,List.nil_append]
   exact H.perm (L1:=[recI l r2 .ready none,defI d,row b13 (s.cells bd2 bc2) tVits,bookG ED tBookD bd2 (mapv DvI.e (dn ++ [(u.1,⟨u.2.bits,p2,u.2.evs⟩)])),bookG EI tBookI bc2 s.colls,starI ((dn ++ [(u.1,(⟨u.2.bits,p2,u.2.evs⟩:DvI))]).map evI),row b (s.cells bd bc) tVits,bookG ED tBookD bd (mapv DvI.e s.devs),bookG EI tBookI bc s.colls,starI (s.devs.map evI)]) (by repeat (first | exact Cut.nil | (apply Cut.cons; (repeat (first | exact Pick.here | apply Pick.there)))))
 · rintro d _ wx ⟨dn,hdn,rfl⟩ H
   have hn:s.devs.take (pairsd (mapv DvI.e s.devs)).length = s.devs:=List.take_of_length_le (by simp [pairsd,mapv])
   rw [hn] at hdn
   dsimp only [jmpX]
   simp only [List.cons_append,List.nil_append] at H
   refine take_o H .here fun wx H=>?_
   have H:=H.perm (L1:=[row b13 (s.cells bd2 bc2) tVits,bookG ED tBookD bd2 (mapv DvI.e dn),bookG EI tBookI bc2 s.colls,starI (dn.map evI)]) (by repeat (first | exact Cut.nil | (apply Cut.cons; (repeat (first | exact Pick.here | apply Pick.there)))))
   simp only [List.cons_append,List.nil_append] at H
   have H:=zzab (s:={ s with devs:=dn }) H
   have H:=H.perm (L1:=[row b (s.cells bd bc) tVits,bookG ED tBookD bd (mapv DvI.e s.devs),bookG EI tBookI bc s.colls,starI (s.devs.map evI)]) (by repeat (first | exact Cut.nil | (apply Cut.cons; (repeat (first | exact Pick.here | apply Pick.there)))))
   simp only [List.cons_append,List.nil_append] at H
   have H:=zzab (s:=s) H
   exact ⟨_,⟨b13,dn,rfl,hdn,rfl⟩,H.dp⟩
 · intro d c L w h; exact h.elim
structure SdRel (t:Sd):Prop where
 rel:Rel t.s t.d
 mem:t.n = t.m
 len:t.m.length = 4096
 vr:VR t.s
theorem sdrel0:SdRel sd0:=by
 refine ⟨⟨rfl,fun dev=>rfl,fun dev ev=>rfl,fun c=>?_,rfl⟩,rfl,by unfold sd0; rw [List.length_replicate],vr0⟩
 show lk ([]:List (Int×Int)) c = cOf rv0 c
 unfold cOf
 rw [if_neg]
 · rfl
 · rintro ⟨h1,h2,h3⟩
   have:rv0.colls.getD c.toNat 0 = -1:=by
    show (List.replicate 8 (-1:Int)).getD c.toNat 0 = -1
    rw [List.getD_eq_getElem?_getD,List.getElem?_replicate,if_pos (by omega)]; rfl
   omega
theorem does_true {r:Ru} {t:Sd} {owned:List Int} {x:Ac} {p:Nat} (ok:SdOk r t) (h:SdRel t) (hx:x.Fit) (ha:0≤r.a∧r.a≤1099511627776) (hs:0≤r.s∧r.s≤32768):(doesM p r owned x t).1 = true∧SdRel (doesM p r owned x t).2:=by
 obtain ⟨g1,g2,g3,g4⟩:=ok
 obtain ⟨r1,hm,hlen,hvr⟩:=h
 obtain ⟨-,-,⟨-,-,-,-,-,-,-,hI⟩,v0,v1⟩:=hx
 obtain ⟨s,m,d,n⟩:=t
 dsimp only at *
 subst hm
 unfold doesM
 refine ite_p (fun A:Bool×Sd=>A.1 = true∧SdRel A.2) (fun _=>?_) fun _=>?_
 · obtain ⟨e1,e2,e3⟩:=vdo_rel r1 g1 g2 (c:=x.c) (ru:=r) (owned:=owned) p hI ⟨hs.1,by omega⟩
   refine ⟨?_,e3,rfl,hlen,hvr.q (vdo_q _ _ _ _ _)⟩
   show (decide ((vdoM s x.c r owned p).1 = (vdoR d x.c r owned).1) && ((vdoM s x.c r owned p).2.2 == (vdoR d x.c r owned).2.2)) = true
   rw [decide_eq_true e1,e2]; simp
 refine ite_p (fun A:Bool×Sd=>A.1 = true∧SdRel A.2) (fun _=>?_) fun _=>?_
 · have hU:(putQ ⟨512,2048,0,x.at'⟩ n x.c).2.2≠0→(putQ ⟨512,2048,0,x.at'⟩ n x.c).2.1 = n:=by
    unfold putQ
    refine ite_p (fun A:Qu×List Int×Int=>A.2.2≠0→A.2.1 = n) (fun _ _=>rfl) fun _=>?_
    refine ite_p (fun A:Qu×List Int×Int=>A.2.2≠0→A.2.1 = n) (fun hh _=>store_err hh) fun _ hh=>absurd rfl hh
   have hV:¬ (putQ ⟨512,2048,0,x.at'⟩ n x.c).2.2≠0→storeE n.length 512 2048 x.at' x.c = 0∧(putQ ⟨512,2048,0,x.at'⟩ n x.c).2.1 = storeM n 512 2048 x.at' x.c:=by
    unfold putQ
    refine ite_p (fun A:Qu×List Int×Int=>¬ A.2.2≠0→storeE n.length 512 2048 x.at' x.c = 0∧A.2.1 = storeM n 512 2048 x.at' x.c) (fun _ hh=>absurd (by show (2:Int)≠0; omega) hh) fun _=>?_
    refine ite_p (fun A:Qu×List Int×Int=>¬ A.2.2≠0→storeE n.length 512 2048 x.at' x.c = 0∧A.2.1 = storeM n 512 2048 x.at' x.c) (fun hh hn=>absurd hh hn) fun hh _=>⟨Classical.not_not.1 hh,rfl⟩
   generalize putQ ⟨512,2048,0,x.at'⟩ n x.c = U at *
   refine ite_p (fun A:Bool×Sd=>A.1 = true∧SdRel A.2) (fun hu=>?_) fun hu=>?_
   · exact ⟨rfl,r1,hU hu,hlen,hvr⟩
   · obtain ⟨hE,hu2⟩:=hV hu
     have hl:n.length≤131072:=by omega
     obtain ⟨k1,k2,k3,k4,k5,k6⟩:=store_in hl hE
     have hw:wi (512 + x.at') = 512 + x.at':=W_id (by omega) (by omega)
     have hov:=store_over (c:=x.c) hl hE
     have hsl:=storeM_length n 512 2048 x.at' x.c
     rw [hu2]
     generalize storeM n 512 2048 x.at' x.c = n' at *
     have hX:putX x.at' n' = cut n' (512 + x.at').toNat 32:=by
      unfold putX
      rw [hw,if_pos (holdsB_iff.2 (by omega))]
     have hXl:(cut n' (512 + x.at').toNat 32).length = 32:=by unfold cut; rw [List.length_take,List.length_drop]; omega
     have hB:putB x.at' n (putX x.at' n') = true:=by
      unfold putB
      rw [hw,hX,hXl,holdsB_iff.2 (by omega)]; rfl
     rw [hB,if_pos rfl,hX,hw,hov]
     exact ⟨rfl,r1,rfl,by show n'.length = 4096; omega,hvr⟩
 refine ite_p (fun A:Bool×Sd=>A.1 = true∧SdRel A.2) (fun _=>?_) fun _=>?_
 · obtain ⟨e1,e2,e3,e4⟩:=step_rel r1 g1 g2 (bs:=n) (ru:=r) (owned:=owned) p ⟨hs.1,by omega⟩
   refine ⟨?_,e4,rfl,hlen,hvr.step g3⟩
   show (decide ((vstepM s n r owned p).1 = (rstepM d n r owned).1) && (decide ((vstepM s n r owned p).2.1 = (rstepM d n r owned).2.1) && ((vstepM s n r owned p).2.2.2 == (rstepM d n r owned).2.2.2))) = true
   rw [decide_eq_true e1,decide_eq_true e2,e3]; simp
 refine ite_p (fun A:Bool×Sd=>A.1 = true∧SdRel A.2) (fun _=>?_) fun _=>⟨rfl,r1,rfl,hlen,hvr⟩
 obtain ⟨e1,e2⟩:=write_rel r1 (off:=x.at') (width:=wideM x) v0 v1 ha hs
 refine ⟨?_,e2,rfl,hlen,hvr.write⟩
 show ((vwriteM s x.at' (wideM x) x.v r).2 == (rwriteM d x.at' (wideM x) x.v r).2) = true
 rw [e1]; simp
theorem asks_true {r:Ru} {t:Sd} {x:Ac} (ok:SdOk r t) (h:SdRel t):asksM x t = true:=by
 obtain ⟨g1,g2,g3,g4⟩:=ok
 obtain ⟨r1,hm,hlen,hvr⟩:=h
 unfold asksM
 rw [r1.on,r1.st,left_rel r1 g3.1,r1.route g2,read_rel r1 hvr]
 simp
theorem evw_map {a b:List (Int×DvI)} (h:evw a = evw b) (k:Int):(lk a k).map (fun d=>(d.bits,d.evs)) = (lk b k).map (fun d=>(d.bits,d.evs)):=by
 have e1:∀ a:List (Int×DvI),(lk a k).map (fun d=>(d.bits,d.evs)) = lk (mapv (fun d:DvI=>(d.bits,d.evs)) a) k:=by
  intro a
  unfold lk
  rw [mapv_has,mapv_at]
  have:vs (mapv (fun d:DvI=>(d.bits,d.evs)) a) = (vs a).map fun d=>(d.bits,d.evs):=by unfold vs mapv; rw [List.map_map,List.map_map]; rfl
  rw [this,List.getElem?_map]
  split <;> rfl
 rw [e1,e1]
 have e2:mapv (fun d:DvI=>(d.bits,d.evs)) a = evw a:=rfl
 have e3:mapv (fun d:DvI=>(d.bits,d.evs)) b = evw b:=rfl
 rw [e2,e3,h]
theorem evw_of {s:Vi} {dn:List (Int×DvI)} (h:evw dn = evw s.devs) (dev ev:Int):evOf { s with devs:=dn } dev ev = evOf s dev ev:=by
 have:=evw_map h dev
 unfold evOf
 show (lk dn dev).bind _ = _
 cases h1:lk dn dev with
 | none =>
  cases h2:lk s.devs dev with
  | none=>rfl
  | some y=>rw [h1,h2] at this; cases this
 | some x =>
  cases h2:lk s.devs dev with
  | none=>rw [h1,h2] at this; cases this
  | some y =>
   rw [h1,h2] at this
   simp only [Option.map_some,Option.some.injEq,Prod.mk.injEq] at this
   show lk x.evs ev = lk y.evs ev
   rw [this.2]
theorem evw_mem {a b:List (Int×DvI)} (h:evw a = evw b) {u:Int×DvI} (hu:u∈a):∃ w∈b,w.1 = u.1∧w.2.bits = u.2.bits∧w.2.evs = u.2.evs:=by
 have:(u.1,u.2.bits,u.2.evs)∈evw b:=by rw [← h]; exact List.mem_map.2 ⟨u,hu,rfl⟩
 obtain ⟨w,hw,e⟩:=List.mem_map.1 this
 simp only [Prod.mk.injEq] at e
 exact ⟨w,hw,e.1,e.2.1,e.2.2⟩
theorem copy_ok {r:Ru} {t:Sd} {dn:List (Int×DvI)} (h:evw dn = evw t.s.devs) (ok:SdOk r t) (hr:SdRel t):SdOk r { t with s:={ t.s with devs:=dn } }∧SdRel { t with s:={ t.s with devs:=dn } }:=by
 obtain ⟨⟨v1,v2,v3,v4,v5,v6,v7⟩,g2,g3,g4⟩:=ok
 obtain ⟨r1,hm,hlen,hvr⟩:=hr
 refine ⟨⟨⟨?_,?_,?_,?_,?_,v6,v7⟩,g2,g3.q rfl,⟨fun dev ev x hx=>?_,g4.coll⟩⟩,⟨⟨r1.hd,fun dev=>?_,fun dev ev=>?_,r1.coll,r1.c8⟩,hm,hlen,hvr.q rfl⟩⟩
 · show Up dn; unfold Up; rw [evw_ks h]; exact v1
 · intro u hu
   obtain ⟨w,hw,e1,e2,e3⟩:=evw_mem h hu
   rw [← e1]; exact v2 w hw
 · intro u hu
   obtain ⟨w,hw,e1,e2,e3⟩:=evw_mem h hu
   rw [← e2]; exact v3 w hw
 · intro u hu
   obtain ⟨w,hw,e1,e2,e3⟩:=evw_mem h hu
   rw [← e3]; exact v4 w hw
 · intro u hu
   obtain ⟨w,hw,e1,e2,e3⟩:=evw_mem h hu
   rw [← e2,← e3]; exact v5 w hw
 · rw [evw_of h] at hx; exact g4.ev dev ev x hx
 · have:=evw_map h dev
   have h2:=r1.dev dev
   rw [← h2]
   show (lk dn dev).map DvI.bits = (lk t.s.devs dev).map DvI.bits
   have e:∀ o:Option DvI,o.map DvI.bits = (o.map fun d=>(d.bits,d.evs)).map Prod.fst:=by intro o; cases o <;> rfl
   rw [e,e,this]
 · rw [evw_of h]; exact r1.ev dev ev
theorem act_at {w:World} {q:Option Addr} {xs:List Ac} (h:Slots w q 13 (xs.map Ac.cells)) {k:Nat} {x:Ac} (hk:xs[k]? = some x) :
 ∃ a,q = some a∧w.cell? (a.add (k * 13)) = some (.int .i64 x.d)∧w.cell? ((a.add (k * 13)).add 1) = some (.int .i64 x.at') ∧
  w.cell? ((a.add (k * 13)).add 2) = some (.int .i64 x.c.op)∧w.cell? ((a.add (k * 13)).add 3) = some (.int .i64 x.c.dev)∧w.cell? ((a.add (k * 13)).add 4) = some (.int .i64 x.c.ev)∧w.cell? ((a.add (k * 13)).add 5) = some (.int .i64 x.c.num) ∧
  w.cell? ((a.add (k * 13)).add 6) = some (.int .i64 x.c.coll)∧w.cell? ((a.add (k * 13)).add 7) = some (.int .i64 x.c.tgt)∧w.cell? ((a.add (k * 13)).add 8) = some (.int .i64 x.c.bits)∧w.cell? ((a.add (k * 13)).add 9) = some (.int .i64 x.c.addr) ∧
  w.cell? ((a.add (k * 13)).add 10) = some (.bool x.c.val)∧w.cell? ((a.add (k * 13)).add 11) = some (.bool x.is)∧w.cell? ((a.add (k * 13)).add 12) = some (.int .u64 x.v):=by
 obtain ⟨a,ha,e0,e⟩:=slot_cells h hk
 exact ⟨a,ha,e0 _ rfl,e 1 _ rfl,e 2 _ rfl,e 3 _ rfl,e 4 _ rfl,e 5 _ rfl,e 6 _ rfl,e 7 _ rfl,e 8 _ rfl,e 9 _ rfl,e 10 _ rfl,e 11 _ rfl,e 12 _ rfl⟩
def awR:Ru:=⟨1024,1024,2,8⟩
def awC1:Cm:=⟨9,0,0,0,1,1,0,0,true⟩
def awC2:Cm:=⟨8,3,0,0,0,0,1,256,true⟩
def awC3:Cm:=⟨10,3,2,8195,1,0,0,0,false⟩
def awC4:Cm:=⟨3,3,2,0,0,0,0,0,false⟩
def awC5:Cm:=⟨15,3,2,0,0,0,0,0,false⟩
def awC6:Cm:=⟨8,4,0,0,0,0,0,0,true⟩
def awC7:Cm:=⟨8,3,0,0,0,0,0,1024,true⟩
def awS1:Vi:=⟨false,false,0,false,⟨0,0,0,0⟩,[],[(1,1)]⟩
def awS2 (p:Nat):Vi:=⟨false,false,0,false,⟨0,0,0,0⟩,[(3,⟨1,p,[]⟩)],[(1,1)]⟩
def awS3 (p:Nat):Vi:=⟨false,false,0,false,⟨0,0,0,0⟩,[(3,⟨1,p,[(2,⟨8195,1,true⟩)]⟩)],[(1,1)]⟩
def awL3:List Ch:=[⟨1,3,2,8195,0,1⟩,⟨7,0,0,8195,0,0⟩]
def awL4:List Ch:=[⟨3,0,0,8195,0,1⟩]
def awL5:List Ch:=[⟨4,0,0,8195,1,0⟩,⟨2,3,2,0,0,0⟩]
theorem aw1 (p:Nat):vdoM vi0 awC1 awR [3] p = ([],awS1,0):=by kernel_rfl
theorem aw2 (p:Nat):vdoM awS1 awC2 awR [3] p = ([],awS2 p,0):=by kernel_rfl
theorem aw3 (p q:Nat):vdoM (awS2 p) awC3 awR [3] q = (awL3,awS3 p,0):=by kernel_rfl
theorem aw4 (p q:Nat):vdoM (awS3 p) awC4 awR [3] q = (awL4,awS3 p,0):=by kernel_rfl
theorem aw5 (p q:Nat):vdoM (awS3 p) awC5 awR [3] q = (awL5,awS2 p,0):=by kernel_rfl
theorem aw6 (p q:Nat):vdoM (awS2 p) awC6 awR [3] q = ([],awS2 p,240):=by kernel_rfl
theorem aw7 (p q:Nat):vdoM (awS2 p) awC7 awR [3] q = ([],awS2 p,241):=by kernel_rfl
theorem vdo_at {b:Nat} {s:Vi} {c:Cm} {r:Ru} {i:It} {po:Option Addr} {co:Nat} {owned:List Int} {l:List Ch} {e:Int} {s':Nat→Vi} (h:∀ p,vdoM s c r owned p = (l,s' p,e)) (g:VGood s) (hi:∀ w S,i.h w S→Sl w po (i64s owned)) (hl:owned.length < 9223372036854775807) :
 Tri P F.zzaz [ptr b,cmV c,ruV r po owned.length co] [vitsI b s,i] fun v L'=>∃ p q cc,v = .tuple [.slice q l.length cc,.int .i64 e].toArray∧L' = [chs q cc l,vitsI b (s' p),i]:=by
 intro w S hS
 refine (VDo_t b s c r i hi hl g.fits (by omega) w S hS).mono ?_
 rintro v w' ⟨L',⟨p,q,cc,rfl,rfl⟩,H⟩
 rw [h] at H
 exact ⟨_,⟨p,q,cc,by rw [h],rfl⟩,H⟩
theorem aw_good1:VGood awS1:=by have:=vgood0.vdo (c:=awC1) (r:=awR) (owned:=[3]) (p:=0); rw [aw1] at this; exact this
theorem aw_good2 (p:Nat):VGood (awS2 p):=by have:=aw_good1.vdo (c:=awC2) (r:=awR) (owned:=[3]) (p:=p); rw [aw2] at this; exact this
theorem aw_good3 (p:Nat):VGood (awS3 p):=by have:=(aw_good2 p).vdo (c:=awC3) (r:=awR) (owned:=[3]) (p:=0); rw [aw3] at this; exact this
theorem same_aw (l:List Ch):decide (l = l) = true:=by simp
theorem aw_all:∃ (s0 s1:Vi) (s2 s3:Nat→Vi),s0 = vi0∧VGood s0∧VGood s1∧(∀ p,VGood (s2 p))∧(∀ p,VGood (s3 p))∧(∀ p,vdoM s0 awC1 awR [3] p = ([],s1,0))∧(∀ p,vdoM s1 awC2 awR [3] p = ([],s2 p,0))∧(∀ p q,vdoM (s2 p) awC3 awR [3] q = (awL3,s3 p,0)) ∧
 (∀ p q,vdoM (s3 p) awC4 awR [3] q = (awL4,s3 p,0))∧(∀ p q,vdoM (s3 p) awC5 awR [3] q = (awL5,s2 p,0))∧(∀ p q,vdoM (s2 p) awC6 awR [3] q = ([],s2 p,240))∧∀ p q,vdoM (s2 p) awC7 awR [3] q = ([],s2 p,241) :=
 ⟨vi0,awS1,awS2,awS3,rfl,vgood0,aw_good1,aw_good2,aw_good3,aw1,aw2,aw3,aw4,aw5,aw6,aw7⟩
theorem awake_t:Tri P F.zzcq [] [] fun v L'=>v = .bool true∧L' = []:=by
 intro w S hS
 refine zzkq ?_
 unfold zzcq
 have H:=Own.start hS
 obtain ⟨s0,s1,s2,s3,e0,g0,g1,g2,g3,a1,a2,a3,a4,a5,a6,a7⟩:=aw_all
 refine call_oa H (VNew_t) fun vx L' wx hq H=>?_
 obtain ⟨b,rfl,rfl⟩:=hq
 simp only [List.cons_append,List.nil_append] at H
 rw [← e0] at H
 refine ⟨_,rfl,cnd_i (fun h=>by cases h) fun _=>alc_o H fun b4 wx H=>alc_o H fun b6 wx H=>?_⟩
 iterate 5 refine sta H fun wx H=>?_
 simp only [List.set_cons_zero,List.set_cons_succ] at H
 have hi:∀ w S,(row b4 [.int .i64 3] T.t3).h w S→Sl w (some ⟨b4,0,none⟩) (i64s [3]):=fun w S h=>row_sl (xs:=[3]) w S h
 repeat (first | refine lIa H ?_ | refine lLa H ?_ | refine lBa H ?_ | refine lPa H ?_ | refine lSa H ?_)
 refine call_oa H (vdo_at (b:=b) (c:=awC1) (r:=awR) (i:=row b4 [.int .i64 3] T.t3) (po:=some ⟨b4,0,none⟩) (co:=1) (owned:=[3]) a1 g0 hi (by show 1 < _; omega)) fun vx L' wx hq H=>?_
 obtain ⟨p1,q1,k1,rfl,rfl⟩:=hq
 simp only [List.cons_append,List.nil_append] at H
 refine ⟨_,_,_,_,rfl,?_⟩
 repeat (first | refine lIa H ?_ | refine lLa H ?_ | refine lBa H ?_ | refine lPa H ?_ | refine lSa H ?_)
 refine call_oa H (vdo_at (b:=b) (c:=awC2) (r:=awR) (i:=row b4 [.int .i64 3] T.t3) (po:=some ⟨b4,0,none⟩) (co:=1) (owned:=[3]) a2 g1 hi (by show 1 < _; omega)) fun vx L' wx hq H=>?_
 obtain ⟨p2,q2,k2,rfl,rfl⟩:=hq
 simp only [List.cons_append,List.nil_append] at H
 refine ⟨_,_,_,_,rfl,?_⟩
 repeat (first | refine lIa H ?_ | refine lLa H ?_ | refine lBa H ?_ | refine lPa H ?_ | refine lSa H ?_)
 refine call_oa H (vdo_at (b:=b) (c:=awC3) (r:=awR) (i:=row b4 [.int .i64 3] T.t3) (po:=some ⟨b4,0,none⟩) (co:=1) (owned:=[3]) (a3 p2) (g2 p2) hi (by show 1 < _; omega)) fun vx L' wx hq H=>?_
 obtain ⟨p3,q3,k3,rfl,rfl⟩:=hq
 simp only [List.cons_append,List.nil_append] at H
 refine ⟨_,_,_,_,rfl,?_⟩
 repeat (first | refine lIa H ?_ | refine lLa H ?_ | refine lBa H ?_ | refine lPa H ?_ | refine lSa H ?_)
 refine call_oa H (vdo_at (b:=b) (c:=awC4) (r:=awR) (i:=row b4 [.int .i64 3] T.t3) (po:=some ⟨b4,0,none⟩) (co:=1) (owned:=[3]) (a4 p2) (g3 p2) hi (by show 1 < _; omega)) fun vx L' wx hq H=>?_
 obtain ⟨p4,q4,k4,rfl,rfl⟩:=hq
 simp only [List.cons_append,List.nil_append] at H
 refine ⟨_,_,_,_,rfl,?_⟩
 repeat (first | refine lIa H ?_ | refine lLa H ?_ | refine lBa H ?_ | refine lPa H ?_ | refine lSa H ?_)
 refine call_oa H (vdo_at (b:=b) (c:=awC5) (r:=awR) (i:=row b4 [.int .i64 3] T.t3) (po:=some ⟨b4,0,none⟩) (co:=1) (owned:=[3]) (a5 p2) (g3 p2) hi (by show 1 < _; omega)) fun vx L' wx hq H=>?_
 obtain ⟨p5,q5,k5,rfl,rfl⟩:=hq
 simp only [List.cons_append,List.nil_append] at H
 refine ⟨_,_,_,_,rfl,?_⟩
 repeat (first | refine lIa H ?_ | refine lLa H ?_ | refine lBa H ?_ | refine lPa H ?_ | refine lSa H ?_)
 refine call_oa H (vdo_at (b:=b) (c:=awC6) (r:=awR) (i:=row b4 [.int .i64 3] T.t3) (po:=some ⟨b4,0,none⟩) (co:=1) (owned:=[3]) (a6 p2) (g2 p2) hi (by show 1 < _; omega)) fun vx L' wx hq H=>?_
 obtain ⟨p6,q6,k6,rfl,rfl⟩:=hq
 simp only [List.cons_append,List.nil_append] at H
 refine ⟨_,_,_,_,rfl,?_⟩
 repeat (first | refine lIa H ?_ | refine lLa H ?_ | refine lBa H ?_ | refine lPa H ?_ | refine lSa H ?_)
 refine call_oa H (vdo_at (b:=b) (c:=awC7) (r:=awR) (i:=row b4 [.int .i64 3] T.t3) (po:=some ⟨b4,0,none⟩) (co:=1) (owned:=[3]) (a7 p2) (g2 p2) hi (by show 1 < _; omega)) fun vx L' wx hq H=>?_
 obtain ⟨p7,q7,k7,rfl,rfl⟩:=hq
 simp only [List.cons_append,List.nil_append] at H
 refine ⟨_,_,_,_,rfl,alc_o H fun b104 wx H=>?_⟩
 have H:X.Own w S [rcs (some ⟨b104,0,none⟩) 2 awL3,chs q3 k3 awL3,chs q4 k4 awL4,chs q5 k5 awL5] wx:=els_shut (E:=ED2) (c:=2) (xs:=awL3) (F:=[chs q3 k3 awL3,chs q4 k4 awL4,chs q5 k5 awL5]) (H.dp) rfl rfl (by decide) (by unfold maxLen; omega) rfl
 refine call_oa H (same_t (p:=q3) (q:=some ⟨b104,0,none⟩) (c:=k3) (e:=2) (xs:=awL3) (ys:=awL3) (by show 2 < _; omega)) fun vx L' wx hq H=>?_
 obtain ⟨rfl,rfl⟩:=hq
 simp only [List.cons_append,List.nil_append] at H
 refine ⟨_,rfl,join_o (alc_o H fun b119 wx H=>?_)⟩
 have H:X.Own w S [rcs (some ⟨b119,0,none⟩) 1 awL4,chs q4 k4 awL4,chs q5 k5 awL5] wx:=els_shut (E:=ED2) (c:=1) (xs:=awL4) (F:=[chs q4 k4 awL4,chs q5 k5 awL5]) (H.dp) rfl rfl (by decide) (by unfold maxLen; omega) rfl
 refine call_oa H (same_t (p:=q4) (q:=some ⟨b119,0,none⟩) (c:=k4) (e:=1) (xs:=awL4) (ys:=awL4) (by show 1 < _; omega)) fun vx L' wx hq H=>?_
 obtain ⟨rfl,rfl⟩:=hq
 simp only [List.cons_append,List.nil_append] at H
 refine ⟨_,rfl,cnd_i (fun _=>alc_o H fun b124 wx H=>?_) (by simp)⟩
 have H:X.Own w S [rcs (some ⟨b124,0,none⟩) 2 awL5,chs q5 k5 awL5] wx:=els_shut (E:=ED2) (c:=2) (xs:=awL5) (F:=[chs q5 k5 awL5]) (H.dp) rfl rfl (by decide) (by unfold maxLen; omega) rfl
 refine call_oa H (same_t (p:=q5) (q:=some ⟨b124,0,none⟩) (c:=k5) (e:=2) (xs:=awL5) (ys:=awL5) (by show 2 < _; omega)) fun vx L' wx hq H=>?_
 obtain ⟨rfl,rfl⟩:=hq
 simp only [List.cons_append,List.nil_append] at H
 refine ⟨_,rfl,?_⟩
 unfold zzhv zzhu
 rw [same_aw,same_aw]
 exact ⟨_,⟨rfl,rfl⟩,H.dp⟩
theorem vitsDoes_cv {W:World} {a b:Int} (ha:0≤a∧a≤255) (hb:0≤b∧b≤255) {p:Option Addr} {c:Nat} {owned:List Int} (ho:Sl W p (i64s owned)) (hl:owned.length * 8≤140737488355328)
 {q2:Option Addr} {c2:Nat} {ys:List Ac} (hq2:Slots W q2 13 (ys.map Ac.cells)) (hy:∀ y∈ys,y.Fit) (hl2:ys.length≤9223372036854775807) :
 CV P F.zzco [.int .u8 a,.int .u8 b,.slice p owned.length c,.slice q2 ys.length c2] W fun r w'=>r = .bool true∧Below W.heap.size W w':=by
 refine zzjD ?_
 unfold zzco
 have H:=keep_start W
 have hr:=ruA_vcpus ha hb
 have hvp:0 < (ruA a b).vcpus:=by omega
 have hra:0≤(ruA a b).a∧(ruA a b).a≤1099511627776:=by show (0:Int)≤512∧(512:Int)≤_; omega
 have hrs:0≤(ruA a b).s∧(ruA a b).s≤32768:=by show (0:Int)≤2048∧(2048:Int)≤_; omega
 have hlo:owned.length < 9223372036854775807:=by omega
 refine call_oa H (awake_t) fun vx L' wx hq H=>?_
 obtain ⟨rfl,rfl⟩:=hq
 simp only [List.cons_append,List.nil_append] at H
 refine ⟨_,rfl,cnd_i (fun h=>by cases h) fun _=>?_⟩
 refine call_oa H (begun_t a b (keep W) (p:=p) (c:=c) (keep_sl ho) hl) fun vx L' wx hq H=>?_
 obtain ⟨bs,bm,bd,bn,q,cq,rfl,rfl⟩:=hq
 simp only [List.cons_append,List.nil_append] at H
 refine ⟨_,_,_,_,_,_,_,_,_,_,_,_,_,_,_,_,_,_,_,rfl,alc_o H fun b33 wx H=>?_⟩
 iterate 14 refine sta H fun wx H=>?_
 simp only [List.set_cons_zero,List.set_cons_succ] at H
 refine join_o (cnd_i (fun h=>by cases h) fun _=>?_)
 unfold zzgB
 refine cnd_i (fun h=>by cases h) fun _=>?_
 generalize ruA a b = r at *
 refine loop_o (fun (st:Int) L=>∃ (i:Nat) (bs:Nat) (t:Sd),i≤ys.length∧st = i∧SdOk r t∧SdRel t∧L = row b33 (sideV bs bm bd bn r q p owned.length cq c) T.t40 :: (sdL bs bm bd bn t ++ [nums q cq owned,keep W])) (fun (st:Int)=>((ys.length:Int) - st).toNat) (H.dp)
  ⟨0,bs,sd0,by omega,rfl,sdok0 _,sdrel0,rfl⟩ ?_
 clear H
 rintro _ _ wx ⟨i,bs,t,hi,rfl,hok,hrel,rfl⟩ H
 simp only [sdL,List.cons_append,List.nil_append] at H
 unfold zzgA
 refine cnd_i (fun hcc=>?_) fun hcc=>⟨rfl,keep_done H (by repeat (first | exact Pick.here | apply Pick.there))⟩
 have hcc:=of_decide_eq_true hcc
 have hil:i < ys.length:=by omega
 have hk:ys[i]? = some ys[i]:=List.getElem?_eq_getElem hil
 have hfit:=hy _ (List.getElem_mem hil)
 generalize ys[i] = x at *
 refine ix_i hil ?_
 obtain ⟨a1,rfl,e0,e1,e2,e3,e4,e5,e6,e7,e8,e9,e10,e11,e12⟩:=act_at (Own.rdS H (i:=keep W) (by repeat (first | exact Pick.here | apply Pick.there)) (keep_slots hq2)) hk
 refine ⟨_,e0,_,e1,_,e2,_,e3,_,e4,_,e5,_,e6,_,e7,_,e8,_,e9,_,e10,_,e11,_,e12,alc_o H fun b71 wx H=>?_⟩
 iterate 13 refine sta H fun wx H=>?_
 simp only [List.set_cons_zero,List.set_cons_succ] at H
 have next:∀ (bs:Nat) (t:Sd) (wx:World),SdOk r t→SdRel t→X.Own W (fun k=>k < W.heap.size) (row b71 x.cells T.t68 :: row b33 (sideV bs bm bd bn r q p owned.length cq c) T.t40 :: (sdL bs bm bd bn t ++ [nums q cq owned,keep W])) wx →
  zzef (fun r w'=>r = .bool true∧Below W.heap.size W w') b33 (i:Int) (fun (s':Int) w'=>(∃ L',(∃ (i:Nat) (bs:Nat) (t:Sd),i≤ys.length∧s' = i∧SdOk r t∧SdRel t∧L' = row b33 (sideV bs bm bd bn r q p owned.length cq c) T.t40 :: (sdL bs bm bd bn t ++ [nums q cq owned,keep W]))∧X.Own W (fun k=>k < W.heap.size) L' w')∧((ys.length:Int) - s').toNat < ((ys.length:Int) - (i:Int)).toNat) b71 wx:=by
  intro bs t wx hok hrel H
  simp only [sdL,List.cons_append,List.nil_append] at H
  unfold zzef
  refine join_o ?_
  repeat (first | refine lIa H ?_ | refine lLa H ?_ | refine lBa H ?_ | refine lPa H ?_ | refine lSa H ?_)
  refine call_oa H (does_t bs bm bd bn t r (keep W) (q:=q) (p:=p) (cq:=cq) (c:=c) (owned:=owned) x (keep_sl ho) hlo hok.vg hok.rg hfit.2.2.1.2.2.2.2.2.2.2) fun vx L' wx hq H=>?_
  obtain ⟨pp,rfl,rfl⟩:=hq
  simp only [sdL,List.cons_append,List.nil_append] at H
  obtain ⟨d1,hrel2⟩:=does_true (p:=pp) (owned:=owned) hok hrel hfit hra hrs
  have hok2:=hok.does (p:=pp) (owned:=owned) hvp hfit
  rw [d1]
  generalize (doesM pp r owned x t).2 = t2 at *
  refine ⟨_,rfl,cnd_i (fun h=>by cases h) fun _=>?_⟩
  repeat (first | refine lIa H ?_ | refine lLa H ?_ | refine lBa H ?_ | refine lPa H ?_ | refine lSa H ?_)
  refine call_pa H (asks_t bs bm bd bn t2 r (q:=q) (p:=p) (n:=owned.length) (cq:=cq) (c:=c) x hok2.rg) fun wx H=>?_
  rw [asks_true hok2 hrel2]
  refine ⟨_,rfl,?_⟩
  unfold zzgz
  refine cnd_i (fun h=>by cases h) fun _=>alc_o H fun b90 wx H=>?_
  refine loop_o (fun (st:Int) L=>∃ k:Nat,k≤3∧st = k∧L = row b90 (i64s [128,136,144]) T.t3 :: row b71 x.cells T.t68 :: row b33 (sideV bs bm bd bn r q p owned.length cq c) T.t40 :: (sdL bs bm bd bn t2 ++ [nums q cq owned,keep W])) (fun (st:Int)=>((3:Int) - st).toNat) (H.dp) ⟨0,by omega,rfl,rfl⟩ ?_
  clear H
  rintro _ _ wx ⟨k,hk3,rfl,rfl⟩ H
  simp only [sdL,List.cons_append,List.nil_append] at H
  unfold zzgy
  refine cnd_i (fun hkc=>?_) fun hkc=>?_
  · have hkc:=of_decide_eq_true hkc
    have hkl:k < 3:=by omega
    refine ix_i hkl ?_
    have hget:(i64s [128,136,144])[k]? = some (.int .i64 (([128,136,144]:List Int).getD k 0)):=by
     have:k = 0∨k = 1∨k = 2:=by omega
     rcases this with rfl | rfl | rfl <;> rfl
    rw [add_lit,Nat.mul_one,Nat.zero_add]
    refine ldI_o H (b:=b90) (i:=k) (by repeat (first | exact Pick.here | apply Pick.there)) hget ?_
    generalize ([128,136,144]:List Int).getD k 0 = off
    repeat (first | refine lIa H ?_ | refine lLa H ?_ | refine lBa H ?_ | refine lPa H ?_ | refine lSa H ?_)
    refine call_pa H (asks_t bs bm bd bn t2 r (q:=q) (p:=p) (n:=owned.length) (cq:=cq) (c:=c) ⟨0,off,x.c,true,0⟩ hok2.rg) fun wx H=>?_
    rw [asks_true hok2 hrel2]
    refine ⟨_,rfl,cnd_i (fun h=>by cases h) fun _=>?_⟩
    rw [W_id (by omega) (by omega)]
    exact ⟨⟨_,⟨k + 1,by omega,by push_cast; rfl,rfl⟩,H.dp⟩,by omega⟩
  · rw [W_id (by omega) (by omega)]
    exact ⟨⟨_,⟨i + 1,bs,t2,by omega,by push_cast; rfl,hok2,hrel2,rfl⟩,H.dp⟩,by omega⟩
 refine join_o ?_
 refine ldI_o H (b:=b71) (i:=0) (by repeat (first | exact Pick.here | apply Pick.there)) (by rfl) ?_
 refine cnd_i (fun h5=>?_) fun h5=>next bs t wx hok hrel (H.dp)
 refine ldP_o H (b:=b33) (i:=0) (by repeat (first | exact Pick.here | apply Pick.there)) (by rfl) ?_
 refine call_oa H (VCopy_t bs t.s) fun vx L' wx hq H=>?_
 obtain ⟨bs2,dn,rfl,hdn,rfl⟩:=hq
 simp only [List.cons_append,List.nil_append] at H
 obtain ⟨hok2,hrel2⟩:=copy_ok hdn hok hrel
 refine ⟨_,rfl,cnd_i (fun h=>by cases h) fun _=>?_⟩
 repeat (first | refine lIa H ?_ | refine lLa H ?_ | refine lBa H ?_ | refine lPa H ?_ | refine lSa H ?_)
 refine call_oa H (VDo_t bs t.s x.c r (nums q cq owned) nums_sl hlo hok.vg.fits (by omega)) fun vx L' wx hq H=>?_
 obtain ⟨p1,q1,k1,rfl,rfl⟩:=hq
 simp only [List.cons_append,List.nil_append] at H
 have g1:VGood (vdoM t.s x.c r owned p1).2.1:=hok.vg.vdo
 generalize vdoM t.s x.c r owned p1 = M1 at *
 refine ⟨_,_,_,_,rfl,?_⟩
 repeat (first | refine lIa H ?_ | refine lLa H ?_ | refine lBa H ?_ | refine lPa H ?_ | refine lSa H ?_)
 refine call_oa H (VDo_t bs M1.2.1 ⟨9,0,0,0,1,0,0,0,x.is⟩ r (nums q cq owned) nums_sl hlo g1.fits (by omega)) fun vx L' wx hq H=>?_
 obtain ⟨p2,q2',k2,rfl,rfl⟩:=hq
 simp only [List.cons_append,List.nil_append] at H
 have g2:VGood (vdoM M1.2.1 ⟨9,0,0,0,1,0,0,0,x.is⟩ r owned p2).2.1:=g1.vdo
 generalize vdoM M1.2.1 ⟨9,0,0,0,1,0,0,0,x.is⟩ r owned p2 = M2 at *
 refine ⟨_,_,_,_,rfl,?_⟩
 repeat (first | refine lIa H ?_ | refine lLa H ?_ | refine lBa H ?_ | refine lPa H ?_ | refine lSa H ?_)
 refine call_oa H (VWrite_t bs M2.2.1 0 4 1 r (po:=q) (no:=owned.length) (co:=cq)) fun vx L' wx hq H=>?_
 obtain ⟨rfl,rfl⟩:=hq
 simp only [List.cons_append,List.nil_append] at H
 have g3:VGood (vwriteM M2.2.1 0 4 1 r).1:=g2.write
 generalize vwriteM M2.2.1 0 4 1 r = M3 at *
 refine ⟨_,rfl,?_⟩
 repeat (first | refine lIa H ?_ | refine lLa H ?_ | refine lBa H ?_ | refine lPa H ?_ | refine lSa H ?_)
 refine call_oa H (VStep_t bs bm M3.1 t.m r (nums q cq owned) nums_sl hlo g3.fits (by omega)) fun vx L' wx hq H=>?_
 obtain ⟨p4,q4,k4,rfl,rfl⟩:=hq
 simp only [List.cons_append,List.nil_append] at H
 generalize vstepM M3.1 t.m r owned p4 = M4 at *
 obtain ⟨c4,l4,s4,e4'⟩:=M4
 refine ⟨_,_,_,_,_,_,_,_,_,_,_,_,_,rfl,?_⟩
 unfold sideV at H
 refine sta H fun wx H=>?_
 simp only [List.set_cons_zero,List.set_cons_succ] at H
 exact next bs2 { t with s:={ t.s with devs:=dn } } _ hok2 hrel2 (H.dp)
end Go.Proofs.YtidcijbnbdemeaaGreat
