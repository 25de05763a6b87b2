/-
  The walks and the laws beneath the statement: part 2.
-/
import Derived.Test.YtidcijbnbdemeaaGreatDoa
import Derived.Below
import Derived.Laws.AppendOwn
import Derived.Laws.MakeOwn
import Derived.Laws.CopyRow
import Derived.Laws.IdiomCopy
import Derived.ProofKit
import Derived.SizedLaws
import Derived.DataElems
import Derived.Lib.AppendZerosOnto
import Derived.Lib.Overlaps
import Derived.Laws.BytesString
import Derived.Test.YtidcijbnbdemeaaGreatChecked
set_option maxRecDepth 100000
set_option linter.unusedVariables false
set_option linter.unusedSimpArgs false
set_option maxHeartbeats 4000000
namespace Go.Proofs.YtidcijbnbdemeaaGreat.X
open Go
variable {P:Program} {ann:Nat→Option LSp}
theorem recAt_get {w:World} {l:Nat} {r:Loop} {st:LoopState} {j:Option Code} (h:recAt w l r st j):(Instr.getLoop l).run P w = .ok { r with state:=st,pending:=j } w:=by
 have hg:(getObj l).run P w = .ok (.loop { r with state:=st,pending:=j }) w:=by
  unfold recAt at h; simp [getObj,Sem.run,h]
 simp only [Instr.getLoop,Sem.run_bind,hg,Result.andThen_ok,Sem.run_pure]
theorem recAt_set {w:World} {l:Nat} {r r':Loop} {st:LoopState} {j:Option Code} (h:recAt w l r st j):(setObj l (.loop r')).run P w = .ok () (w.putObj l (.loop r')):=by
 unfold recAt at h; simp [setObj,Sem.run,h,World.putObj]
theorem begin_run {w:World} {l:Nat} {r:Loop} (h:recAt w l r .ready none):(Instr.beginRound l).run P w = .ok () (w.putObj l (.loop { r with state:=.busy,pending:=none })):=by
 simp only [Instr.beginRound,Sem.run_bind,recAt_get h,Result.andThen_ok,recAt_set h,Sem.run_pure]
theorem endRound_run {w:World} {l:Nat} {r:Loop} {j:Option Code} (h:recAt w l r .busy none) :
 (Instr.endRound l j).run P w = .ok (.bool j.isNone) (w.putObj l (.loop { r with state:=if j.isNone then .ready else .done,pending:=j })):=by
 simp only [Instr.endRound,Sem.run_bind,recAt_get h,Result.andThen_ok,recAt_set h,Sem.run_pure]
theorem endLoop_run {w:World} {l:Nat} {r:Loop} {st:LoopState} {j:Option Code} (h:recAt w l r st j) (hs:st≠.busy) :
 (Instr.endLoop l).run P w = .ok j (w.putObj l (.loop { r with state:=.exhausted,pending:=j })):=by
 have:(st == LoopState.busy) = false:=by cases st <;> first | rfl | exact absurd rfl hs
 simp only [Instr.endLoop,Sem.run_bind,recAt_get h,Result.andThen_ok,this,Bool.false_eq_true,if_false,recAt_set h,Sem.run_pure]
theorem parX_le:∀ (ps:List Tmp) (vs:List Value) (n:Nat) (t:List En) (tm:Array Value),ps.length = vs.length →
 (n = tm.size∧∀ (i:Nat) (v:Value),getL t i = some v→tm[i]? = some v) →
 n = ((ps.zip vs).foldl (fun (tmps:Array Value) (x:Tmp×Value)=>tmps.setIfInBounds x.1 x.2) tm).size ∧
 ∀ (i:Nat) (v:Value),getL (parX n ps vs t) i = some v→((ps.zip vs).foldl (fun (tmps:Array Value) (x:Tmp×Value)=>tmps.setIfInBounds x.1 x.2) tm)[i]? = some v:=by
 intro ps
 induction ps with
 | nil=>intro vs n t tm h h2; cases vs <;> simpa [parX] using h2
 | cons p r ih =>
  intro vs n t tm h h2
  cases vs with
  | nil=>simp at h
  | cons v vr =>
   simp only [parX,List.zip_cons_cons,List.foldl_cons]
   exact ih vr n _ _ (by simpa using h) (le_set h2.1 h2.2 p v)
theorem least {α:Type} (μ:α→Nat) (p:α→Prop) (h:∃ x,p x):∃ x,p x∧∀ y,p y→μ x≤μ y:=by
 obtain ⟨x,hx⟩:=h
 generalize hn:μ x = n
 induction n using Nat.strongRecOn generalizing x with
 | _ n ih =>
  by_cases hy:∃ y,p y∧μ y < n
  · obtain ⟨y,h1,h2⟩:=hy; exact ih _ h2 y h1 rfl
  · exact ⟨x,hx,fun y h1=>by rw [hn]; exact Nat.le_of_not_lt fun h2=>hy ⟨y,h1,h2⟩⟩
noncomputable def leastM {α:Type} (μ:α→Nat) (p:α→Prop):Nat:=open Classical in if h:∃ x,p x then μ (least μ p h).choose else 0
theorem leastM_eq {α:Type} (μ:α→Nat) (p:α→Prop) (h:∃ x,p x):∃ x,p x∧leastM μ p = μ x:=by
 refine ⟨(least μ p h).choose,(least μ p h).choose_spec.1,?_⟩
 unfold leastM; rw [dif_pos h]
theorem leastM_le {α:Type} (μ:α→Nat) (p:α→Prop) {y:α} (hy:p y):leastM μ p≤μ y:=by
 unfold leastM; rw [dif_pos ⟨y,hy⟩]
 exact (least μ p ⟨y,hy⟩).choose_spec.2 y hy
theorem loop_wp {ro:Option Nat} {b:Code} {S:Type} (fr:S→PF) (I:S→World→Prop) (μ:S→World→Nat) {Q:Exit→Act→World→Prop} {s0:S} {a:Act} {w:World}
 (h0:I s0 w) (hle0:(fr s0).le a)
 (hb:∀ s a w,I s w→(fr s).le a→b.wpIn (fen ro) 0 P (fun e a' w'=>match e with | .normal=>∃ s',(fr s').le a'∧I s' w'∧μ s' w' < μ s w | e=>Q e a' w') a w) :
 (Code.loop b).wpIn (fen ro) 0 P Q a w:=by
 refine wpIn_loop (fun (a:Act) (w:World)=>∃ s,(fr s).le a∧I s w) (fun (a:Act) (w:World)=>@leastM S (fun s=>μ s w) (fun s=>(fr s).le a∧I s w)) ⟨s0,hle0,h0⟩ ?_
 intro a w hI
 obtain ⟨s,⟨h1,h2⟩,h3⟩:=@leastM_eq S (fun s=>μ s w) (fun s=>(fr s).le a∧I s w) hI
 refine wpIn_mono (hb s a w h2 h1) ?_
 intro e a' w' he
 cases e with
 | normal =>
  obtain ⟨s',h4,h5,h6⟩:=he
  refine ⟨⟨s',h4,h5⟩,?_⟩
  rw [h3]
  exact Nat.lt_of_le_of_lt (@leastM_le S (fun s=>μ s w') (fun s=>(fr s).le a'∧I s w') s' ⟨h4,h5⟩) h6
 | _=>exact he
theorem heap_alloc1 (w:World) (o:Obj):(w.alloc o).heap[w.heap.size]? = some o:=Array.getElem?_push_size
theorem heap_alloc2 (w:World) (o1 o2:Obj):((w.alloc o1).alloc o2).heap[w.heap.size + 1]? = some o2:=by
 have:=heap_alloc1 (w.alloc o1) o2
 rwa [World.size_alloc] at this
theorem parsX_out {n:Nat} {ps:List Tmp} {assign:Code} {vs:List Value} {t:List En} {K:List En→Prop} (h:parsX P n ps assign vs t K):K (parX n ps vs t):=by
 have ty:∀ {o:Option TypeId} {v:Value} {K:Value→Prop},typed P o v K→K v:=by
  intro o v K h; cases o with
  | none=>exact h
  | some t=>exact isT_out h
 unfold parsX at h
 split at h
 · unfold b0 at h; split at h
   · exact h
   · exact h.elim
 · unfold b1 at h; split at h
   · exact ty h
   · exact h.elim
 · unfold b2 at h; split at h
   · exact ty (ty h)
   · exact h.elim
 · exact h.elim
theorem xsX_out {ids:List Nat} {id:Nat} {K:Nat→Prop} (h:xsX ids id K):K id:=by
 induction ids with
 | nil=>exact h.elim
 | cons i r ih =>
  by_cases e:id = i
  · rw [e]; exact h.1 e
  · exact ih (h.2 e)
theorem callFn_out {g:Value} {vs:List Value} {w:World} {Q:Value→World→Prop} (h:callFn P g vs w Q) :
 ∃ f first cap fn, g = .func (.func f) first cap ∧ P.funcs[f]? = some fn ∧ fn.body.isSome = true ∧ (fn.name == "runtime.NumGoroutine") = false ∧ CV P f (first.toList ++ vs ++ cap.toList) w Q := by
 unfold callFn at h
 split at h
 · split at h
   · split at h
     · rename_i hen
       obtain ⟨fn,h1,h2,h3⟩:=enters_out hen
       exact ⟨_,_,_,fn,rfl,h1,h2,h3,h⟩
     · exact h.elim
   · exact h.elim
 · exact h.elim
theorem join_out {L:LSp} {rf0:Bool} {asg0 asg:List Nat} {rf:Bool} {pa0 pa:PF} {X:(PF→World→Prop)→Prop} {Y:PF→World→Prop}
 (hk:Keep asg rf pa0 pa) (ha:∀ i∈asg0,i∈asg) (hr:rf0 = true→rf = true) (h:joinX L rf0 asg0 pa X Y) :
 ∃ J:PF→World→Prop,X J∧∀ pa' a' w',pa'.le a'→Keep asg0 rf0 pa pa'→J pa' w'→∃ ph,ph.le a'∧Keep asg rf pa0 ph∧Y ph w':=by
 unfold joinX at h
 split at h
 · exact h.elim
 rename_i hs
 have hs:L.slots.all asg0.contains = true:=by simpa using hs
 split at h
 · refine ⟨_,h,fun pa' a' w' hle' hk' hJ=>?_⟩
   split at hJ
   · rename_i s he
     refine ⟨_,head_le he hle' hk'.2.2 hk'.1 _ (hk'.2.1 rfl).symm,⟨fun i hi=>?_,hk.2.1,hk.2.2⟩,hJ⟩
     show getL (overL (L.emb s) (clearL asg0 pa.t)) i = _
     rw [head_keep hs pa s i (fun hx=>hi (ha i hx))]; exact hk.1 i hi
   · exact hJ.elim
 · refine ⟨_,h,fun pa' a' w' hle' hk' hJ=>?_⟩
   split at hJ
   · rename_i s he
     refine ⟨_,head_le he hle' hk'.2.2 hk'.1 pa'.ds rfl,⟨fun i hi=>?_,fun e=>(by rw [hr rfl] at e; cases e),hk.2.2⟩,hJ⟩
     show getL (overL (L.emb s) (clearL asg0 pa.t)) i = _
     rw [head_keep hs pa s i (fun hx=>hi (ha i hx))]; exact hk.1 i hi
   · exact hJ.elim
theorem keep_trans {asg0 asg:List Nat} {rf0 rf:Bool} {pa0 pa pa':PF} (hk:Keep asg rf pa0 pa) (ha:∀ i∈asg0,i∈asg) (hr:rf0 = true→rf = true) (h:Keep asg0 rf0 pa pa'):Keep asg rf pa0 pa' :=
 ⟨fun i hi=>by rw [h.1 i (fun hx=>hi (ha i hx))]; exact hk.1 i hi,fun e=>by
  have:rf0 = false:=by cases hx:rf0 with
   | false=>rfl
   | true=>rw [hr hx] at e; cases e
  rw [h.2.1 this]; exact hk.2.1 e,by rw [h.2.2]; exact hk.2.2⟩
theorem join_wp {c:Code} {ro:Option Nat} {L:LSp} {rf0:Bool} {asg0 asg:List Nat} {rf:Bool} {pa0 pa:PF} {a:Act} {w:World} {X:(PF→World→Prop)→Kt} {B:Kt→Prop} {Y:PF→World→Prop} {next:Act→World→Prop} {Q:Exit→Act→World→Prop}
 (hk:Keep asg rf pa0 pa) (_hle:pa.le a) (ha:∀ i∈asg0,i∈asg) (hr:rf0 = true→rf = true) (h:joinX L rf0 asg0 pa (fun J=>B (X J)) Y)
 (hc:∀ K,B K→∀ R:Exit→Act→World→Prop,(∀ e pa' a' w',pa'.le a'→Keep asg0 rf0 pa pa'→K e pa' w'→R e a' w')→c.wpIn (fen ro) 0 P R a w)
 (hY:∀ pa' a' w',pa'.le a'→Keep asg rf pa0 pa'→Y pa' w'→next a' w')
 (hX:∀ J e pa' a' w',pa'.le a'→Keep asg rf pa0 pa'→X J e pa' w'→(e = .normal∧J pa' w')∨(e≠.normal∧Q e a' w')):c.wpIn (fen ro) 0 P (Exit.then next Q) a w:=by
 obtain ⟨J,h1,h2⟩:=join_out hk ha hr h
 refine hc _ h1 _ ?_
 intro e pa' a' w' hle' hk' hK
 rcases hX J e pa' a' w' hle' (keep_trans hk ha hr hk') hK with ⟨rfl,hJ⟩ | ⟨hne,hq⟩
 · obtain ⟨ph,h3,h4,h5⟩:=h2 pa' a' w' hle' hk' hJ
   exact hY ph a' w' h3 h4 h5
 · cases e with
   | normal=>exact absurd rfl hne
   | _=>exact hq
theorem joinB_wp {c:Code} {id:Nat} {ro:Option Nat} {L:LSp} {rf0:Bool} {asg0 asg:List Nat} {rf:Bool} {pa0 pa:PF} {a:Act} {w:World} {X:(PF→World→Prop)→Kt} {B:Kt→Prop} {Y:PF→World→Prop} {Q:Exit→Act→World→Prop}
 (hk:Keep asg rf pa0 pa) (_hle:pa.le a) (ha:∀ i∈asg0,i∈asg) (hr:rf0 = true→rf = true) (h:joinX L rf0 asg0 pa (fun J=>B (X J)) Y)
 (hc:∀ K,B K→∀ R:Exit→Act→World→Prop,(∀ e pa' a' w',pa'.le a'→Keep asg0 rf0 pa pa'→K e pa' w'→R e a' w')→c.wpIn (fen ro) 0 P R a w)
 (hY:∀ pa' a' w',pa'.le a'→Keep asg rf pa0 pa'→Y pa' w'→Q .normal a' w')
 (hX:∀ J e pa' a' w',pa'.le a'→Keep asg rf pa0 pa'→X J e pa' w'→((e = .normal∨e = .exit id)∧J pa' w')∨((e≠.normal∧e≠.exit id)∧Exit.inBlock id Q e a' w')):c.wpIn (fen ro) 0 P (Exit.inBlock id Q) a w:=by
 obtain ⟨J,h1,h2⟩:=join_out hk ha hr h
 refine hc _ h1 _ ?_
 intro e pa' a' w' hle' hk' hK
 rcases hX J e pa' a' w' hle' (keep_trans hk ha hr hk') hK with ⟨he,hJ⟩ | ⟨_,hq⟩
 · obtain ⟨ph,h3,h4,h5⟩:=h2 pa' a' w' hle' hk' hJ
   rcases he with rfl | rfl
   · exact hY ph a' w' h3 h4 h5
   · simp only [Exit.inBlock,if_true]; exact hY ph a' w' h3 h4 h5
 · exact hq
theorem ex_sound (hP:P.follows .mixedOrders = true):∀ (c:Code) (ro:Option Nat) (cur:Nat) (asg:List Nat) (rf:Bool) (pa0 pa:PF) (a:Act) (w:World) (K:Kt) (Q:Exit→Act→World→Prop),
 (∀ i∈assigned c,i∈asg)→(hasRF c = true→rf = true)→Keep asg rf pa0 pa→pa.le a →
 (∀ e pa' a' w',pa'.le a'→Keep asg rf pa0 pa'→K e pa' w'→Q e a' w') →
 ex P ann c ro cur pa w K→c.wpIn (fen ro) 0 P Q a w:=by
 intro c
 induction c with
 | skip=>intro ro cur asg rf pa0 pa a w K Q _ _ hk hle hQ h; exact wpIn_skip (hQ _ _ _ _ hle hk h)
 | label l=>intro ro cur asg rf pa0 pa a w K Q _ _ hk hle hQ h; exact wpIn_label (hQ _ _ _ _ hle hk h)
 | exit id=>intro ro cur asg rf pa0 pa a w K Q _ _ hk hle hQ h; exact wpIn_exit (hQ _ _ _ _ hle hk h)
 | ret=>intro ro cur asg rf pa0 pa a w K Q _ _ hk hle hQ h; exact wpIn_ret (hQ _ _ _ _ hle hk h)
 | goto l=>intro ro cur asg rf pa0 pa a w K Q _ _ _ _ _ h; exact False.elim h
 | scope b ih=>intro ro cur asg rf pa0 pa a w K Q _ _ _ _ _ h; exact False.elim h
 | refuse why=>intro ro cur asg rf pa0 pa a w K Q _ _ _ _ _ h; exact False.elim h
 | seq x y ihx ihy =>
  intro ro cur asg rf pa0 pa a w K Q ha hr hk hle hQ h
  simp only [ex] at h
  have hax:∀ i∈assigned x,i∈asg:=fun i hi=>ha i (by simp [assigned,hi])
  have hay:∀ i∈assigned y,i∈asg:=fun i hi=>ha i (by simp [assigned,hi])
  have hrx:hasRF x = true→rf = true:=fun e=>hr (by simp [hasRF,e])
  have hry:hasRF y = true→rf = true:=fun e=>hr (by simp [hasRF,e])
  split at h
  · refine wpIn_seq (ihx ro _ asg rf pa0 pa a w _ _ hax hrx hk hle ?_ h)
    intro e pa' a' w' hle' hk' hK
    cases e with
    | normal=>exact ihy ro _ asg rf pa0 pa' a' w' K Q hay hry hk' hle' hQ hK
    | _=>exact hQ _ _ _ _ hle' hk' hK
  · refine wpIn_seq (join_wp hk hle hax hrx h (fun X hX R hR=>ihx ro _ (assigned x) (hasRF x) pa pa a w _ R (fun _ h=>h) (fun h=>h) (Keep.refl _ _ _) hle hR hX) ?_ ?_)
    · intro pa' a' w' hle' hk' hY
      exact ihy ro _ asg rf pa0 pa' a' w' K Q hay hry hk' hle' hQ hY
    · intro J e pa' a' w' hle' hk' hK
      cases e with
      | normal=>exact .inl ⟨rfl,hK⟩
      | _=>exact .inr ⟨by simp,hQ _ _ _ _ hle' hk' hK⟩
 | cond c x y ihx ihy =>
  intro ro cur asg rf pa0 pa a w K Q ha hr hk hle hQ h
  simp only [ex] at h
  split at h
  · rename_i b hb
    have e:=ev_sound hle hb
    cases b
    · exact wpIn_cond_false e (ihy ro _ asg rf pa0 pa a w K Q (fun i hi=>ha i (by simp [assigned,hi])) (fun e=>hr (by simp [hasRF,e])) hk hle hQ h)
    · exact wpIn_cond_true e (ihx ro _ asg rf pa0 pa a w K Q (fun i hi=>ha i (by simp [assigned,hi])) (fun e=>hr (by simp [hasRF,e])) hk hle hQ h)
  · exact h.elim
 | block id b ih =>
  intro ro cur asg rf pa0 pa a w K Q ha hr hk hle hQ h
  simp only [ex] at h
  split at h
  · refine wpIn_block (ih ro _ asg rf pa0 pa a w _ _ ha hr hk hle ?_ h)
    intro e pa' a' w' hle' hk' hK
    cases e with
    | exit id' =>
     simp only [inBlk] at hK
     simp only [Exit.inBlock]
     split
     · rename_i e; rw [if_pos e] at hK; exact hQ _ _ _ _ hle' hk' hK
     · rename_i e; rw [if_neg e] at hK; exact hQ _ _ _ _ hle' hk' hK
    | _=>exact hQ _ _ _ _ hle' hk' hK
  · refine wpIn_block (joinB_wp hk hle ha hr h (fun X hX R hR=>ih ro _ (assigned b) (hasRF b) pa pa a w _ R (fun _ h=>h) (fun h=>h) (Keep.refl _ _ _) hle hR hX) ?_ ?_)
    · intro pa' a' w' hle' hk' hY
      exact hQ _ _ _ _ hle' hk' hY
    · intro J e pa' a' w' hle' hk' hK
      cases e with
      | normal=>exact .inl ⟨.inl rfl,hK⟩
      | exit id' =>
       simp only [inBlkJ] at hK
       by_cases e:id' = id
       · rw [if_pos e] at hK; exact .inl ⟨.inr (by rw [e]),hK⟩
       · rw [if_neg e] at hK
         refine .inr ⟨by simp [e],?_⟩
         simp only [Exit.inBlock,if_neg e]
         exact hQ _ _ _ _ hle' hk' hK
      | _=>exact .inr ⟨by simp,hQ _ _ _ _ hle' hk' hK⟩
 | region id ops draw =>
  intro ro cur asg rf pa0 pa a w K Q ha hr hk hle hQ h
  cases draw with
  | true =>
   simp only [ex] at h
   split at h
   · refine drawn_wp (asg:=asg) (rf:=rf) (pa0:=pa0) hP (fun o ho d hd=>ha d ?_) (fun pa' a' w' h1 h2 h3=>hQ _ _ _ _ h1 h2 h3) hle hk h
     simp only [assigned,List.mem_append,List.mem_filterMap]
     exact .inl ⟨o,ho,hd⟩
   · exact h.elim
  | false =>
   refine region_wp (asg:=asg) (rf:=rf) (pa0:=pa0) (fun o ho d hd=>ha d ?_) (fun pa' a' w' h1 h2 h3=>hQ _ _ _ _ h1 h2 h3) hle hk h
   simp only [assigned,List.mem_append,List.mem_filterMap]
   exact .inl ⟨o,ho,hd⟩
 | loop b ih =>
  intro ro cur asg rf pa0 pa a w K Q ha hr hk hle hQ h
  simp only [ex] at h
  split at h
  · rename_i L hL
    unfold loopX at h
    split at h
    · exact h.elim
    rename_i hs
    have hs:L.slots.all (assigned b).contains = true:=by simpa using hs
    split at h
    · exact h.elim
    rename_i s0 h0
    have hb1:∀ i∈assigned b,i∈asg:=fun i hi=>ha i (by simpa [assigned] using hi)
    cases hrf:hasRF b with
    | false =>
     rw [hrf] at h
     obtain ⟨I,μ,hI0,hI⟩:=h
     refine loop_wp (fun s=>{ pa with t:=overL (L.emb s) (clearL (assigned b) pa.t) }) I μ hI0 (head_le h0 hle rfl (fun _ _=>rfl) _ rfl) ?_
     intro s a1 w1 hIs hle1
     have hkeep:Keep asg rf pa0 { pa with t:=overL (L.emb s) (clearL (assigned b) pa.t) }:=by
      refine ⟨fun i hi=>?_,hk.2.1,hk.2.2⟩
      show getL (overL (L.emb s) (clearL (assigned b) pa.t)) i = _
      rw [head_keep hs pa s i (fun hx=>hi (hb1 i hx))]; exact hk.1 i hi
     refine ih ro _ (assigned b) false { pa with t:=overL (L.emb s) (clearL (assigned b) pa.t) } _ a1 w1 _ _ (fun _ hi=>hi) (fun e=>by rw [hrf] at e; exact e) (Keep.refl _ _ _) hle1 ?_ (hI s w1 hIs)
     intro e pa' a' w' hle' hk' hK
     have hk2:Keep asg rf pa0 pa':=by
      refine ⟨fun i hi=>?_,fun e=>?_,?_⟩
      · rw [hk'.1 i (fun hx=>hi (hb1 i hx))]; exact hkeep.1 i hi
      · rw [hk'.2.1 rfl]; exact hkeep.2.1 e
      · rw [hk'.2.2]; exact hkeep.2.2
     cases e with
     | normal =>
      simp only at hK
      split at hK
      · rename_i s' hs'
        refine ⟨s',head_le hs' hle' ?_ (fun i hi=>?_) _ (hk'.2.1 rfl).symm,hK.1,hK.2⟩
        · rw [hk'.2.2]
        · rw [hk'.1 i hi]; exact head_keep hs pa s i hi
      · exact hK.elim
     | _=>exact hQ _ _ _ _ hle' hk2 hK
    | true =>
     rw [hrf] at h
     have hrt:rf = true:=hr (by simpa [hasRF] using hrf)
     obtain ⟨I,μ,hI0,hI⟩:=h
     refine loop_wp (fun s=>{ n:=pa.n,t:=overL (L.emb s.1) (clearL (assigned b) pa.t),ds:=s.2 }) I μ hI0 (head_le h0 hle rfl (fun _ _=>rfl) _ rfl) ?_
     intro s a1 w1 hIs hle1
     refine ih ro _ (assigned b) true { n:=pa.n,t:=overL (L.emb s.1) (clearL (assigned b) pa.t),ds:=s.2 } _ a1 w1 _ _ (fun _ hi=>hi) (fun _=>rfl) (Keep.refl _ _ _) hle1 ?_ (hI s w1 hIs)
     intro e pa' a' w' hle' hk' hK
     have hk2:Keep asg rf pa0 pa':=by
      refine ⟨fun i hi=>?_,fun e=>(by rw [hrt] at e; cases e),?_⟩
      · rw [hk'.1 i (fun hx=>hi (hb1 i hx))]
        show getL (overL (L.emb s.1) (clearL (assigned b) pa.t)) i = _
        rw [head_keep hs pa s.1 i (fun hx=>hi (hb1 i hx))]; exact hk.1 i hi
      · rw [hk'.2.2]; exact hk.2.2
     cases e with
     | normal =>
      simp only at hK
      split at hK
      · rename_i s' hs'
        refine ⟨(s',pa'.ds),head_le hs' hle' ?_ (fun i hi=>?_) _ rfl,hK.1,hK.2⟩
        · rw [hk'.2.2]
        · rw [hk'.1 i hi]; exact head_keep hs pa s.1 i hi
      · exact hK.elim
     | _=>exact hQ _ _ _ _ hle' hk2 hK
  · exact h.elim
 | rangeFunc f ps assign body ih1 ih2 =>
  intro ro cur asg rf pa0 pa a w K Q ha hr hk hle hQ h
  have hrt:rf = true:=hr rfl
  simp only [ex] at h
  obtain ⟨g,hg,h⟩:=evK_out h
  have eg:=ev_sound hle hg
  have main:∀ (r:Loop) (l:Nat) (w1:World) (mark:List Deferred),r.tmps = a.tmps→r.params = ps→r.assign = assign→r.body = body →
   Entered ro w r l w1 mark→recAt w1 l r .ready none →
   ∃ (d:Deferred) (w₁':World) (f':FuncId) (args:Array Value) (w₂:World),(resolve a.eval (rangeCall f l) 0).run P w1 = .ok d w₁'∧(∀ f'',Target.leads P w₁' d.target d.args = some f''→(fen ro).fn f'') ∧
    (invoke d.target d.args).run P w₁' = .ok (.enter f' args) w₂∧((fen ro).depth.isSome = true→1≤0) ∧
    CallsIn (fen ro) (0 - 1) P f' args w₂ (rangePost (fen ro) 0 P l Q { a with defers:=mark ++ a.defers }):=by
   intro r l w1 mark e1 e2 e3 e4 hent hrec
   have hin:∀ {K:Prop},inLoop ro w K→K:=by
    intro K hk; cases ro with
    | none=>exact hk
    | some l0=>exact hk.2
   have h:=hin h r l w1 mark hent ?_
   · -- the call
     obtain ⟨g',first,cap,fnn,hgv,hgf,hb,hnm,h⟩:=callFn_out h
     rw [hgv] at eg
     refine ⟨{ target:=.fn (.func g') cap,args:=first ++ #[.func (.yield l) #[] #[]] },w1,g',(first.toList ++ [Value.func (.yield l) #[] #[]] ++ cap.toList).toArray,w1,?_,fun _ _=>trivial,?_,fun h=>by simp [fen] at h,?_⟩
     · simp only [resolve,rangeCall,eg,Deferred.ofValue,Sem.run_pure]
       simp [Act.eval]
     · simp only [invoke,callFunc,Sem.run_bind,run_program,Result.andThen_ok,hgf,hnm,Bool.false_eq_true,if_false,Option.isNone_eq_false_iff.2 hb,Sem.run_pure]
       congr 2
       apply Array.toList_inj.1; simp
     · have h5:CallsIn (fen ro) (0 - 1) P g' (first.toList ++ [Value.func (.yield l) #[] #[]] ++ cap.toList).toArray w1 _:=h
       refine h5.mono ?_
       rintro e w2 ⟨v,rfl,st,j,h6,h7,h8⟩
       refine ⟨j,_,endLoop_run h6 h7,?_⟩
       have hle2:PF.le { pa with ds:=mark ++ pa.ds } { a with defers:=mark ++ a.defers }:=⟨by show mark ++ pa.ds = mark ++ a.defers; rw [hle.1],hle.2.1,hle.2.2⟩
       have hk2:Keep asg rf pa0 { pa with ds:=mark ++ pa.ds }:=⟨hk.1,fun e=>(by rw [hrt] at e; cases e),hk.2.2⟩
       cases j with
       | none=>exact hQ _ _ _ _ hle2 hk2 h8
       | some c =>
        cases c with
        | ret=>exact wpIn_ret (hQ _ _ _ _ hle2 hk2 h8)
        | exit id =>
         have h9:xsX (uniq (exitsOf body)) id (fun i=>K (Exit.exit i) { pa with ds:=mark ++ pa.ds } _):=h8
         exact wpIn_exit (hQ _ _ _ _ hle2 hk2 (xsX_out h9))
        | _=>exact False.elim h8
   · -- a round
     intro vs w' Q' hlen hrec' hB
     refine ⟨_,hrec',by simp [e2,hlen],?_⟩
     have hfold:(r.params.zip vs.toArray).foldl (fun (tmps:Array Value) (x:Tmp×Value)=>tmps.setIfInBounds x.1 x.2) r.tmps = (ps.toList.zip vs).foldl (fun (tmps:Array Value) (x:Tmp×Value)=>tmps.setIfInBounds x.1 x.2) a.tmps:=by
      rw [e1,e2,← Array.foldl_toList]; simp
     have hp:=parX_le ps.toList vs pa.n pa.t a.tmps (by simp [hlen]) hle.2
     show RoundIn Fence.wide 0 P l r.fn ((r.params.zip vs.toArray).foldl (fun (tmps:Array Value) (x:Tmp×Value)=>tmps.setIfInBounds x.1 x.2) r.tmps) r.assign r.body w' _
     rw [hfold,e3,e4]
     refine roundIn_of_wpIn trivial ?_
     have hB:=parsX_out hB
     unfold roundX at hB
     have hle3:PF.le { n:=pa.n,t:=parX pa.n ps.toList vs pa.t,ds:=[] } { tmps:=(ps.toList.zip vs).foldl (fun (tmps:Array Value) (x:Tmp×Value)=>tmps.setIfInBounds x.1 x.2) a.tmps,defers:=[] }:=⟨rfl,hp.1,hp.2⟩
     refine ih1 (some l) _ (assigned assign) true _ _ _ w' _ _ (fun _ h=>h) (fun _=>rfl) (Keep.refl _ _ _) hle3 ?_ hB
     intro e pa1 a1 w2 hle4 _ hK
     cases e with
     | normal =>
      obtain ⟨h9,h10⟩:=hK
      refine ⟨_,begin_run h9,?_⟩
      refine ih2 (some l) _ (assigned body) true _ _ _ _ _ _ (fun _ h=>h) (fun _=>rfl) (Keep.refl _ _ _) hle4 ?_ h10
      intro e pa2 a2 w3 hle5 _ hK2
      cases e with
      | normal=>obtain ⟨h11,h12⟩:=hK2; exact ⟨_,_,endRound_run h11,_,rfl,h12⟩
      | ret=>obtain ⟨h11,h12⟩:=hK2; exact ⟨_,_,endRound_run h11,_,rfl,h12⟩
      | exit id=>obtain ⟨h11,h12⟩:=hK2; exact ⟨_,_,endRound_run h11,_,rfl,h12⟩
      | _=>exact False.elim hK2
     | _=>exact False.elim hK
  refine wpIn_rangeFunc ?_
  intro fn _
  cases ro with
  | none =>
   have hrun:(Instr.enterLoop fn a.tmps ps assign body (fen none).round).run P w = .ok (w.heap.size + 1,[{ target:=.collected w.heap.size,args:=#[] }])
    ((w.alloc (.deferred (some []))).alloc (.loop { state:=.ready,pending:=none,fn:=fn,tmps:=a.tmps,params:=ps,assign:=assign,body:=body,defers:=w.heap.size })):=by
    simp only [Instr.enterLoop,fen,Sem.run_bind,run_newObj,Result.andThen_ok,Sem.run_pure,World.alloc,Array.size_push]
   obtain ⟨d,w₁',f',args,w₂,h1,h2,h3,h4,h5⟩:=main { state:=.ready,pending:=none,fn:=fn,tmps:=a.tmps,params:=ps,assign:=assign,body:=body,defers:=w.heap.size } (w.heap.size + 1) _ _ rfl rfl rfl rfl ⟨rfl,rfl,rfl⟩
    (heap_alloc2 _ _ _)
   exact ⟨_,_,_,d,w₁',f',args,w₂,hrun,h1,h2,h3,h4,h5⟩
  | some l0 =>
   obtain ⟨⟨r0,hr0⟩,_⟩:=h
   have hg0:(Instr.getLoop l0).run P w = .ok r0 w:=by simp [Instr.getLoop,getObj,Sem.run,hr0]
   have hrun:(Instr.enterLoop fn a.tmps ps assign body (fen (some l0)).round).run P w = .ok (w.heap.size,[])
    (w.alloc (.loop { state:=.ready,pending:=none,fn:=fn,tmps:=a.tmps,params:=ps,assign:=assign,body:=body,defers:=r0.defers })):=by
    simp only [Instr.enterLoop,fen,Sem.run_bind,hg0,run_newObj,Result.andThen_ok,Sem.run_pure,World.alloc]
   obtain ⟨d,w₁',f',args,w₂,h1,h2,h3,h4,h5⟩:=main { state:=.ready,pending:=none,fn:=fn,tmps:=a.tmps,params:=ps,assign:=assign,body:=body,defers:=r0.defers } w.heap.size _ _ rfl rfl rfl rfl ⟨rfl,rfl,rfl⟩
    (heap_alloc1 _ _)
   exact ⟨_,_,_,d,w₁',f',args,w₂,hrun,h1,h2,h3,h4,h5⟩
theorem take_run {w:World} {r:Nat} (h:w.heap[r]? = some (.deferred (some []))):(Instr.takeDeferred r).run P w = .ok [] (w.putObj r (.deferred none)):=by
 simp [Instr.takeDeferred,getObj,setObj,Sem.run,h,World.putObj]
theorem takeX_out {fn:Func} {tm:Array Value} {R:Ending→World→Prop}:∀ (ds:List Deferred) (w:World) (K:World→Prop),takeX ds w K→(∀ w,K w→∃ v,(results fn tm).run P w = .ok v w∧R (.returned v) w) →
 LeavesInM (fen none) 0 P fn tm R ds .returning w:=by
 intro ds
 induction ds with
 | nil=>intro w K h hK; exact hK w h
 | cons d ds ih =>
  intro w K h hK
  simp only [takeX] at h
  split at h
  · rename_i r hr
    exact ⟨by simp,.inl ⟨r,_,hr,take_run h.1,ih _ _ h.2 hK⟩⟩
  · exact h.elim
def resOne (tm:Array Value):ResultVar→Sem Value
 | .tmp t=>pure (tm.getD t undef)
 | .cell ad t=>do loadVar t (← asAddr (tm.getD ad undef))
theorem resX_out {pa:PF} {a:Act} (hle:pa.le a) {w:World}:∀ (rs:List ResultVar) (K:List Value→Prop),resX P pa.t w rs K →
 ∃ vs,(rs.mapM (resOne a.tmps)).run P w = .ok vs w∧K vs:=by
 intro rs
 induction rs with
 | nil=>intro K h; exact ⟨[],rfl,h⟩
 | cons r rs ih =>
  intro K h
  cases r with
  | tmp i =>
   simp only [resX] at h
   split at h
   · rename_i v hv
     obtain ⟨vs,h1,h2⟩:=ih _ h
     have e:a.tmps.getD i undef = v:=by have:=ev_sound hle (x:=.tmp i) hv; exact this
     refine ⟨v :: vs,?_,h2⟩
     rw [List.mapM_cons]
     simp only [resOne,Sem.run_bind,Sem.run_pure,Result.andThen_ok,e,h1]
   · exact h.elim
  | cell i ty =>
   simp only [resX] at h
   split at h
   · rename_i p hv
     obtain ⟨ad,hp,h'⟩:=nn_out h
     subst hp
     obtain ⟨v,h3,h''⟩:=ldT_out h'
     obtain ⟨vs,h1,h2⟩:=ih _ h''
     have e:a.tmps.getD i undef = .pointer (some ad):=by have:=ev_sound hle (x:=.tmp i) hv; exact this
     refine ⟨v :: vs,?_,h2⟩
     rw [List.mapM_cons]
     simp only [resOne,Sem.run_bind,Sem.run_pure,Result.andThen_ok,e,asAddr,h1,h3]
   · exact h.elim
def tupOf (vs:List Value):Value:=match vs with
 | [v]=>v
 | vs=>.tuple vs.toArray
theorem results_run {fn:Func} {tm:Array Value} {w:World} {vs:List Value} (h:(fn.results.toList.mapM (resOne tm)).run P w = .ok vs w):(results fn tm).run P w = .ok (tupOf vs) w:=by
 have e:results fn tm = (do let vs ← fn.results.mapM (resOne tm); pure (if h:vs.size = 1 then vs[0] else .tuple vs)):=by
  unfold results; congr 2
 rw [e,Array.mapM_eq_mapM_toList,Sem.run_bind,Sem.run_map,h]
 simp only [Result.andThen_ok,Sem.run_pure]
 congr 1
 match vs with
 | []=>rfl
 | [v]=>rfl
 | v :: u :: r=>rfl
theorem CV_of {f:FuncId} {fn:Func} {vs:List Value} {w:World} {Q:Value→World→Prop} (hP:P.follows .mixedOrders = true) (hf:P.funcs[f]? = some fn) (h:fnX P ann fn vs w Q):CV P f vs w Q:=by
 unfold fnX at h
 split at h
 · rename_i c hc
   refine callsIn_of_wp_marks (F:=fen none) hf hc trivial ?_
   have hle:PF.le (frame0 fn.ntmps vs) { tmps:=vs.toArray ++ Array.replicate (fn.ntmps - vs.toArray.size) undef,defers:=[] }:=by
    refine ⟨rfl,by simp [frame0],fun i v hv=>?_⟩
    have key:∀ (l:List Value) (j:Nat),getL (args0 j l) i = some v→j≤i∧l[i - j]? = some v:=by
     intro l
     induction l with
     | nil=>intro j h; simp [args0,getL] at h
     | cons x r ih =>
      intro j h
      simp only [args0,getL_v] at h
      split at h
      · rename_i e; subst e; cases h; exact ⟨Nat.le_refl _,by simp⟩
      · rename_i e
        obtain ⟨h1,h2⟩:=ih _ h
        refine ⟨by omega,?_⟩
        rw [show i - j = (i - (j + 1)) + 1 from by omega]; simpa using h2
    obtain ⟨_,h2⟩:=key vs 0 hv
    have hi:i < vs.length:=by
     rw [Nat.sub_zero] at h2; exact (List.getElem?_eq_some_iff.1 h2).1
    rw [Array.getElem?_append_left (by simpa using hi)]
    simpa using h2
   refine ex_sound hP c none 1 (assigned c) true _ _ _ w _ _ (fun _ h=>h) (fun _=>rfl) (Keep.refl _ _ _) hle ?_ h
   intro e pa' a' w' hle' _ hK
   have fin:takeX pa'.ds w' (fun w=>resX P pa'.t w fn.results.toList fun vs=>match vs with | [v]=>Q v w | vs=>Q (.tuple vs.toArray) w) →
    LeavesInM (fen none) 0 P fn a'.tmps (fun e w'=>∃ v,e = .returned v∧Q v w') a'.defers .returning w':=by
    intro hK
    rw [← hle'.1]
    refine takeX_out _ _ _ hK ?_
    intro w2 h2
    obtain ⟨vs,h3,h4⟩:=resX_out hle' _ _ h2
    refine ⟨_,results_run h3,_,rfl,?_⟩
    match vs,h4 with
    | [],h4=>exact h4
    | [v],h4=>exact h4
    | v :: u :: r,h4=>exact h4
   cases e with
   | normal=>exact fin hK
   | ret=>exact fin hK
   | _=>exact False.elim hK
 · exact h.elim
open Go Go.RowKit
variable {P:Program} {w:World}
theorem CV.mono {f:FuncId} {args:List Value} {Q Q':Value→World→Prop} (h:CV P f args w Q) (hq:∀ v w',Q v w'→Q' v w'):CV P f args w Q' :=
 CallsIn.mono h fun _ _ ⟨v,e,h⟩=>⟨v,e,hq _ _ h⟩
theorem YV.mono {l:Nat} {args:List Value} {Q Q':Value→World→Prop} (h:YV P l args w Q) (hq:∀ v w',Q v w'→Q' v w'):YV P l args w Q':=by
 obtain ⟨r,h1,h2,h3⟩:=h
 exact ⟨r,h1,h2,RoundIn.mono h3 fun _ _ ⟨v,e,h⟩=>⟨v,e,hq _ _ h⟩⟩
theorem cnd_i {b:Bool} {x y:Prop} (h1:b = true→x) (h2:b = false→y):cnd b x y:=by
 cases b
 · exact h2 rfl
 · exact h1 rfl
def Row (w:World) (b:Nat) (cs:List Value) (t:TypeId):Prop:=w.heap[b]? = some (.cells cs.toArray t (0,0))
theorem Row.lt {b:Nat} {cs:List Value} {t:TypeId} (h:Row w b cs t):b < w.heap.size:=(Array.getElem?_eq_some_iff.1 h).1
theorem Row.below {B:Nat} {w':World} {b:Nat} {cs:List Value} {t:TypeId} (h:Row w b cs t) (hB:Below B w w') (hb:b < B):Row w' b cs t:=by
 unfold Row; rw [hB.block b hb]; exact h
theorem Row.ext {w':World} {b:Nat} {cs:List Value} {t:TypeId} (h:Row w b cs t) (hB:Below w.heap.size w w'):Row w' b cs t:=h.below hB h.lt
theorem Row.cell {b:Nat} {cs:List Value} {t:TypeId} (h:Row w b cs t) (i:Nat):w.cell? ⟨b,i,none⟩ = cs[i]?:=by
 unfold Row at h; simp [World.cell?,h]
theorem Row.frozen {b:Nat} {cs:List Value} {t:TypeId} (h:Row w b cs t) (i:Nat):w.frozen? ⟨b,i,none⟩ = false:=by
 unfold Row at h; simp [World.frozen?,h]
theorem Row.drew {b:Nat} {cs:List Value} {t:TypeId} (h:Row w b cs t):Row w.drew b cs t:=h
theorem alc_i {cs:List Value} {t:TypeId} {K:Nat→World→Prop} (h:∀ w1,(∀ B,B≤w.heap.size→Below B w w1)→Row w1 w.heap.size cs t→w1.heap.size = w.heap.size + 1→K w.heap.size w1):alc cs t w K:=by
 unfold alc
 refine h _ (fun B hB=>(Below.refl B w).alloc hB _) ?_ (by simp)
 unfold Row; exact World.alloc_heap_new _ _
theorem ldI_i {k:IntKind} {b i:Nat} {cs:List Value} {t:TypeId} {n:Int} {K:Int→Prop} (h:Row w b cs t) (hi:cs[i]? = some (.int k n)) (hK:K n):ldI k ⟨b,i,none⟩ w K:=⟨n,by rw [h.cell,hi],hK⟩
theorem ldB_i {b i:Nat} {cs:List Value} {t:TypeId} {n:Bool} {K:Bool→Prop} (h:Row w b cs t) (hi:cs[i]? = some (.bool n)) (hK:K n):ldB ⟨b,i,none⟩ w K:=⟨n,by rw [h.cell,hi],hK⟩
theorem ldL_i {b i:Nat} {cs:List Value} {t:TypeId} {p:Option Addr} {n c:Nat} {K:Option Addr→Nat→Nat→Prop} (h:Row w b cs t) (hi:cs[i]? = some (.slice p n c)) (hK:K p n c):ldL ⟨b,i,none⟩ w K:=⟨p,n,c,by rw [h.cell,hi],hK⟩
theorem ldP_i {b i:Nat} {cs:List Value} {t:TypeId} {p:Option Addr} {K:Option Addr→Prop} (h:Row w b cs t) (hi:cs[i]? = some (.pointer p)) (hK:K p):ldP ⟨b,i,none⟩ w K:=⟨p,by rw [h.cell,hi],hK⟩
theorem st1_i {b i:Nat} {cs:List Value} {t:TypeId} {v:Value} {K:World→Prop} (h:Row w b cs t) (hi:i < cs.length)
 (hK:∀ w1,(∀ B,B≤b→Below B w w1)→(∀ k,k≠b→w1.heap[k]? = w.heap[k]?)→w1.heap.size = w.heap.size→Row w1 b (cs.set i v) t→K w1):st1 v ⟨b,i,none⟩ w K:=by
 refine ⟨⟨cs[i],by rw [h.cell]; simp [hi]⟩,h.frozen i,hK _ (fun B hB=>(Below.refl B w).setCell hB v) (fun k hk=>Below.heap_setCell _ _ _ _ hk) (by simp [World.setCell]) ?_⟩
 unfold Row at *
 have hlt:=(Array.getElem?_eq_some_iff.1 h).1
 simp [World.setCell,Array.getElem?_modify,h]
theorem below_drew:∀ B,Below B w w.drew:=fun B=>(Below.refl B w).drew
open Go Go.RowKit
variable {P:Program} {w:World}
def appB (P:Program) (t e:TypeId) (size bytes:Nat):Bool:=match P.underlying t with
 | some (.slice e')=>e' == e && (match P.info? e with
  | some i=>match i.zero with
   | some z=>i.size == size && (i.bytes == bytes && z.cells.size == size)
   | none=>false
  | none=>false)
 | _=>false
theorem appB_out {t e:TypeId} {size bytes:Nat} (h:appB P t e size bytes = true):P.underlying t = some (.slice e)∧∃ i z,P.info? e = some i∧i.zero = some z∧i.size = size∧i.bytes = bytes∧z.cells.size = size:=by
 unfold appB at h
 split at h
 · rename_i e' hu
   simp only [Bool.and_eq_true,beq_iff_eq] at h
   obtain ⟨rfl,h⟩:=h
   split at h
   · rename_i i hi
     split at h
     · rename_i z hz
       simp only [Bool.and_eq_true,beq_iff_eq] at h
       exact ⟨hu,i,z,hi,hz,h.1,h.2.1,h.2.2⟩
     · cases h
   · cases h
 · cases h
theorem own_slice {base:Nat} {e:TypeId} {size:Nat} {v:Value} {n:Nat} {xs:List Value} (h:w.ownsRow base e size v n xs):∃ p c,v = .slice p n c:=by
 rcases h.2 with ⟨rfl,rfl⟩ | ⟨g,cap,cur,rfl,_⟩
 · exact ⟨_,_,rfl⟩
 · exact ⟨_,_,rfl⟩
theorem W_range (n:Int):-9223372036854775808≤IntKind.i64.wrap n∧IntKind.i64.wrap n≤9223372036854775807:=by
 simp [IntKind.wrap,IntKind.signed,IntKind.bits]; split <;> omega
theorem W_id {n:Int} (h1:-9223372036854775808≤n) (h2:n≤9223372036854775807):IntKind.i64.wrap n = n:=by
 simp [IntKind.wrap,IntKind.signed,IntKind.bits]; split <;> omega
def Sl (w:World) (p:Option Addr) (xs:List Value):Prop:=∀ j u,xs[j]? = some u→∃ a,p = some a∧w.cell? (a.add j) = some u
theorem Sl.own {base:Nat} {e:TypeId} {p:Option Addr} {n c:Nat} {xs:List Value} (h:w.ownsRow base e 1 (.slice p n c) n xs):Sl w p xs∧xs.length = n:=by
 refine ⟨fun j u hj=>?_,by have:=h.1; simpa using this⟩
 cases p with
 | none =>
  rcases h.2 with ⟨hh,hn⟩ | ⟨g,cap,cur,hh,_⟩
  · have:=h.1; rw [hn] at this
    have:xs = []:=List.eq_nil_of_length_eq_zero (by simpa using this)
    rw [this] at hj; cases hj
  · cases hh
 | some a =>
  refine ⟨a,rfl,?_⟩
  rcases h.2 with ⟨hh,_⟩ | ⟨g,cap,cur,hh,_⟩
  · cases hh
  · have:=h.cells (g:=a.block) rfl j u hj
    cases hh
    exact this
theorem enters_cv {f:FuncId} {first cap vs:List Value} {Q:Value→World→Prop} (hf:enters P f = true) (h:CV P f (first ++ vs ++ cap) w Q):callFn P (.func (.func f) first.toArray cap.toArray) vs w Q:=by
 unfold callFn; simp only [hf]; exact h
theorem recAt_put {l:Nat} {r:Loop} {st:LoopState} {j:Option Code} (hl:l < w.heap.size):recAt (w.putObj l (.loop { r with state:=st,pending:=j })) l r st j:=World.putObj_heap_same hl
theorem recAt_lt {l:Nat} {r:Loop} {st:LoopState} {j:Option Code} (h:recAt w l r st j):l < w.heap.size:=(Array.getElem?_eq_some_iff.1 h).1
theorem own_of {base:Nat} {e:TypeId} {size:Nat} {v:Value} {n:Nat} {xs:List Value} {w':World} (h:w.ownsRow base e size v n xs) (hb:∀ k,v.ownBlock = some k→w'.heap[k]? = w.heap[k]?):w'.ownsRow base e size v n xs:=by
 refine ⟨h.1,?_⟩
 rcases h.2 with hn | ⟨g,cap,cur,rfl,hbg,hg,rest⟩
 · exact .inl hn
 · exact .inr ⟨g,cap,cur,rfl,hbg,by rw [hb g rfl]; exact hg,rest⟩
theorem callVal_mono {f:Value} {vs:List Value} {Q Q':Value→World→Prop} (h:callVal P f vs w Q) (hq:∀ v w',Q v w'→Q' v w'):callVal P f vs w Q':=by
 unfold callVal at *
 split at h
 · split at h
   · split at h
     · exact h.mono hq
     · obtain ⟨fn,e,v,w',h1,h2,h3,h4,h5,h6,h7⟩:=h
       exact ⟨fn,e,v,w',h1,h2,h3,h4,h5,h6,hq _ _ h7⟩
   · exact YV.mono h hq
   · exact h.elim
 · exact h.elim
variable {P:Program} {w:World}
structure Out (S:Nat→Prop) (w w':World):Prop where
 os:w'.os = w.os
 tape:w'.tape = w.tape
 output:w'.output = w.output
 size:w.heap.size≤w'.heap.size
 block:∀ k,k < w.heap.size→¬ S k→w'.heap[k]? = w.heap[k]?
theorem Out.refl (S:Nat→Prop) (w:World):Out S w w:=⟨rfl,rfl,rfl,Nat.le_refl _,fun _ _ _=>rfl⟩
theorem Out.trans {S:Nat→Prop} {a b c:World} (h:Out S a b) (k:Out S b c):Out S a c :=
 ⟨k.os.trans h.os,k.tape.trans h.tape,k.output.trans h.output,Nat.le_trans h.size k.size,fun i hi hn=>(k.block i (Nat.lt_of_lt_of_le hi h.size) hn).trans (h.block i hi hn)⟩
theorem Out.of_below {S:Nat→Prop} {B:Nat} {a b:World} (h:Below B a b) (hS:∀ k,k < a.heap.size→¬ S k→k < B):Out S a b :=
 ⟨h.os,h.tape,h.output,h.size,fun i hi hn=>h.block i (hS i hi hn)⟩
theorem Out.mono {S S':Nat→Prop} {a b:World} (h:Out S a b) (hS:∀ k,k < a.heap.size→S k→S' k):Out S' a b :=
 ⟨h.os,h.tape,h.output,h.size,fun i hi hn=>h.block i hi fun hs=>hn (hS i hi hs)⟩
theorem Out.pure {S:Nat→Prop} {a b:World} (h:Below a.heap.size a b):Out S a b:=Out.of_below h fun _ h _=>h
theorem add_lit (b i j:Nat):(⟨b,i,none⟩:Addr).add j = ⟨b,i + j,none⟩:=by unfold Addr.add; split <;> simp_all
def u8s (bs:List Int):List Value:=bs.map fun n=>.int .u8 n
theorem u8s_append (a b:List Int):u8s (a ++ b) = u8s a ++ u8s b:=by simp [u8s]
theorem u8s_get {bs:List Int} {k:Nat} (h:k < bs.length):(u8s bs)[k]? = some (.int .u8 bs[k]):=by simp [u8s,h]
theorem u8s_set {bs:List Int} {k:Nat} {n:Int}:(u8s bs).set k (.int .u8 n) = u8s (bs.set k n):=by simp [u8s]
theorem u8s_length {bs:List Int}:(u8s bs).length = bs.length:=by simp [u8s]
theorem make_i {t e:TypeId} {bytes:Nat} {k:IntKind} (hT:appB P t e 1 bytes = true) {z:Value} (hz1:zeroC P e = some [z]) {n:Int} (h0:0≤n) (hb:(bytes:Int) * n≤281474976710656) (h63:n≤9223372036854775807) {K:Option Addr→Nat→Nat→World→Prop}
 (hK:∀ w1,(∀ B,B≤w.heap.size→Below B w w1)→Row w1 w.heap.size (List.replicate n.toNat z) e→w1.heap.size = w.heap.size + 1→K (some ⟨w.heap.size,0,none⟩) n.toNat n.toNat w1) :
 runS P (Instr.makeSlice t (.int k n) (.int k n)) w K:=by
 obtain ⟨hu,i,z',hi,hz,h2,h3,h4⟩:=appB_out hT
 have hr:=run_make (P:=P) w t e i z' hu hi hz k k n n h0 (Int.le_refl _) (by rw [h3]; exact hb) h63
 have hzc:z'.cells = #[z]:=by
  unfold zeroC at hz1
  rw [hi] at hz1
  simp only [hz,Option.map_some,Option.some.injEq] at hz1
  apply Array.toList_inj.1
  rw [← cellsL_eq]; exact hz1
 refine ⟨_,_,_,_,hr,hK _ (fun B hB=>(Below.refl B w).alloc hB _) ?_ (by simp)⟩
 unfold Row
 rw [World.alloc_heap_new,hzc,h2,Nat.mul_one]
 congr 2
 apply Array.toList_inj.1
 simpa using toList_madeCells_one z n.toNat
open Go Go.RowKit
variable {P:Program} {w:World}
theorem sl_nil {xs:List Value} (h:Sl w none xs):xs = []:=by
 cases xs with
 | nil=>rfl
 | cons x r=>obtain ⟨a,ha,_⟩:=h 0 x rfl; cases ha
theorem appS_i {t ty e:TypeId} {size bytes:Nat} (hT:appB P t e size bytes = true) (hsz:0 < size) {p:Option Addr} {n c base:Nat} {xs:List Value} (hown:w.ownsRow base e size (.slice p n c) n xs) {q:Option Addr} {m c':Nat} {news:List Value} (hq:Sl w q news)
 (hl:news.length = m * size) (h1:∀ u∈news,u.oneCell' = true) (hn:n + m≤maxLen) (hby:(n + m) * bytes≤140737488355328) (hbase:base≤w.heap.size) {K:Option Addr→Nat→Nat→World→Prop}
 (hK:∀ p' c' w',w'.ownsRow base e size (.slice p' (n + m) c') (n + m) (xs ++ news)→w.grownBy w' (Value.ownBlock (.slice p n c))→K p' (n + m) c' w') :
 runS P (Builtin.append_ #[t,t] ty [.slice p n c,.slice q m c'].toArray) w K:=by
 obtain ⟨hu,i,z,hi,hz,h2,h3,h4⟩:=appB_out hT
 cases q with
 | some a =>
  obtain ⟨v',w',hr,ho,hg,_⟩:=run_append_own (P:=P) w base t ty e i z size bytes hu hi hz h2 h3 h4 hsz (.slice p n c) n xs hown a m c' news hl (by
   intro j u hj
   obtain ⟨a',ha,hc⟩:=hq j u hj
   cases ha; exact hc) h1 hn hby hbase
  obtain ⟨p',c2,rfl⟩:=own_slice ho
  exact ⟨p',n + m,c2,w',hr,hK _ _ _ ho hg⟩
 | none =>
  have:=sl_nil hq
  subst this
  have hm:m = 0:=by
   rcases Nat.eq_zero_or_pos m with h | h
   · exact h
   · have:=Nat.mul_pos h hsz; simp at hl; omega
  subst hm
  refine ⟨p,n + 0,c,w,?_,hK p c w (by simpa using hown) ⟨rfl,rfl,rfl,Nat.le_refl _,fun _ _ _=>rfl⟩⟩
  rcases hown.2 with ⟨h,h'⟩ | ⟨g,cap,cur,h,_,_,hnc,_⟩
  · cases h
    simp [Builtin.append_,run_underlying hu,sizeOf,typeInfo,hi,Builtin.lenOf,Builtin.firstCells]
  · cases h
    simp [Builtin.append_,run_underlying hu,sizeOf,typeInfo,hi,Builtin.lenOf,Builtin.firstCells,hnc,storeCells]
def splice (cur:List Value) (o:Nat) (cs:List Value):List Value:=cur.take o ++ cs ++ cur.drop (o + cs.length)
theorem row_store {d o:Nat} {cur cs:List Value} {tt:TypeId} (hd:Row w d cur tt) (hfit:o + cs.length≤cur.length) (h1:∀ v∈cs,v.oneCell' = true) :
 ∃ w',(storeCells ⟨d,o,none⟩ cs).run P w = .ok () w'∧Row w' d (splice cur o cs) tt∧(∀ k,k≠d→w'.heap[k]? = w.heap[k]?)∧w'.heap.size = w.heap.size∧w'.os = w.os∧w'.tape = w.tape∧w'.output = w.output:=by
 have:=run_storeCells_at P d o tt cs 0 cur.toArray w hd (by simpa using hfit) h1
 simp only [Nat.add_zero] at this
 refine ⟨_,this,?_,fun k hk=>setRow_other w d k _ hk,by simp [World.setRow],rfl,rfl,rfl⟩
 unfold Row
 rw [setRow_heap w d cur.toArray _ tt (0,0) hd]
 rfl
theorem copy_i {dT ty e:TypeId} {bytes:Nat} (hT:appB P dT e 1 bytes = true) {d o dLen dCap:Nat} {cur:List Value} {tt:TypeId} (hd:Row w d cur tt) {q:Option Addr} {m c':Nat} {src:List Value} (hq:Sl w q src) (hl:src.length = m) (hm:m≤dLen)
 (hfit:o + m≤cur.length) (h1:∀ v∈src,v.oneCell' = true) {K:Int→World→Prop}
 (hK:∀ w',Row w' d (splice cur o src) tt→(∀ k,k≠d→w'.heap[k]? = w.heap[k]?)→w'.heap.size = w.heap.size→w'.os = w.os→w'.tape = w.tape→w'.output = w.output→K m w') :
 runI P (Builtin.copy_ #[dT,dT] ty [.slice (some ⟨d,o,none⟩) dLen dCap,.slice q m c'].toArray) w K:=by
 obtain ⟨hu,i,z,hi,hz,h2,h3,h4⟩:=appB_out hT
 subst hl
 cases q with
 | none =>
  have:=sl_nil hq
  subst this
  refine ⟨0,w,?_,hK w (by simpa [splice] using hd) (fun _ _=>rfl) rfl rfl rfl rfl⟩
  exact run_copy_none (P:=P) w dT dT ty e (some ⟨d,o,none⟩) none dLen dCap 0 c' hu (by rw [hi]; simp [h2]) (by simp)
 | some a =>
  have hr:=run_copy_row (P:=P) w dT dT ty e d o dLen dCap a src.length c' cur.toArray tt src hu (by rw [hi]; simp [h2]) hd (by simp [Nat.min_eq_left hm]) (by
   intro j v hj
   obtain ⟨a',ha,hc⟩:=hq j v hj
   cases ha; exact hc) (by simpa using hfit) h1
  refine ⟨src.length,_,hr,hK _ ?_ (fun k hk=>setRow_other w d k _ hk) (by simp [World.setRow]) rfl rfl rfl⟩
  unfold Row
  rw [setRow_heap w d cur.toArray _ tt (0,0) hd]
  rfl
def Sh (P:Program) (w:World) (base:Nat):Nat→TypeId→List Value→Prop
 | 0,_,_=>False
 | fuel + 1,t,cs=>match P.underlying t with
  | some .bool=>∃ b,cs = [.bool b]
  | some (.int k)=>∃ n,cs = [.int k n]∧(Lit.int k n).wf = true
  | some .string=>∃ s:ByteArray,cs = [.string s]∧s.size≤maxLen∧s.size≤reachBytes
  | some (.slice e)=>cs = [.slice none 0 0]∨∃ a len cap,cs = [.slice (some a) len cap]∧len≤cap∧cap≤maxLen∧len * P.bytesOf e≤reachBytes∧∀ i,i < len→∃ ecs,w.cells? base (a.add (i * P.cellsOf e)) (P.cellsOf e) = some ecs∧Sh P w base fuel e ecs
  | some (.struct fs)=>cs.length = P.cellsOf t∧∀ (i:Nat) (f:Field),fs[i]? = some f→Sh P w base fuel f.type ((cs.drop f.offset).take (P.cellsOf f.type))
  | _=>True
theorem weights_all {H:Type} {P:Program} {e:TypeId} {d:DataW H} {n:Nat}:∀ {l:List (DataW H)},d∈l→n∈d.weights P e→n∈DataW.weightsAll P e l:=by
 intro l
 induction l with
 | nil=>intro h; cases h
 | cons x r ih =>
  intro h hn
  simp only [DataW.weightsAll,List.mem_append]
  rcases List.mem_cons.1 h with rfl | h
  · exact .inl hn
  · exact .inr (ih h hn)
theorem sh_of_trod {H:Type} {enc:TypeId×Value→H} {P:Program} {w:World} {base:Nat} {spare:Nat→Bool} {held:Bool}:∀ (fuel:Nat) (t:TypeId) (cs:List Value) (x:DataW H×List MemPlace),
 DataW.trod enc P w base spare held fuel t cs = some x→(∀ n∈x.1.weights P t,n≤reachBytes)→Sh P w base fuel t cs:=by
 intro fuel
 induction fuel with
 | zero=>intro t cs x h _; simp [DataW.trod] at h
 | succ fuel ih =>
  intro t cs x h hw
  unfold Sh
  cases hu:P.underlying t with
  | none=>trivial
  | some d =>
   cases d <;> try trivial
   case bool=>obtain ⟨b,h1,_⟩:=DataW.trod_bool hu h; exact ⟨b,h1⟩
   case int k=>obtain ⟨n,h1,_,h2⟩:=DataW.trod_int hu h; exact ⟨n,h1,h2⟩
   case string =>
    obtain ⟨s,h1,rfl,h2⟩:=DataW.trod_string hu h
    exact ⟨s,h1,h2,hw _ (by simp [DataW.weights])⟩
   case slice e =>
    rcases DataW.trod_slice hu h with ⟨h1,_⟩ | ⟨a,len,cap,elems,rest,n,hn,h1,rfl,hb,h2,h3,h4,h5,_⟩
    · exact .inl h1
    · have hwt:(DataW.slice (elems.map (·.1)) (rest.map (·.1)):DataW H).weights P t = ((elems.map (·.1)).length + (rest.map (·.1)).length) * P.bytesOf e :: (DataW.weightsAll P e (elems.map (·.1)) ++ DataW.weightsAll P e (rest.map (·.1))):=by
       simp only [DataW.weights,hu]
      refine .inr ⟨a,len,cap,h1,h2,h3,?_,fun i hi=>?_⟩
      · have:=hw _ (by rw [hwt]; exact List.mem_cons_self)
        simp only [List.length_map] at this
        exact Nat.le_trans (Nat.mul_le_mul_right _ (by omega)) this
      · obtain rfl:fuel = n:=by omega
        have h6:=h5 i hi
        rw [List.getElem?_eq_getElem (by omega)] at h6
        obtain ⟨ecs,h7,h8⟩:=Option.bind_eq_some_iff.1 h6
        refine ⟨ecs,h7,ih _ _ _ h8 fun m hm=>hw m ?_⟩
        rw [hwt]
        exact List.mem_cons_of_mem _ (List.mem_append_left _ (weights_all (List.mem_map_of_mem (List.getElem_mem _)) hm))
   case struct fs =>
    obtain ⟨xs,n,hn,rfl,hl,hlen,hf⟩:=DataW.trod_struct hu h
    obtain rfl:fuel = n:=by omega
    refine ⟨hl,fun i f hfi=>?_⟩
    have h1:=hf i f hfi
    have hi:i < xs.length:=by rw [hlen]; exact (Array.getElem?_eq_some_iff.1 hfi).1
    rw [List.getElem?_eq_getElem hi] at h1
    refine ih _ _ _ h1 fun m hm=>hw m ?_
    simp only [DataW.weights,hu]
    exact DataW.weights_mem_each (j:=i) (by simp [hfi]) (by simp [hi]) m hm
variable {P:Program} {w w0:World} {S0:Nat→Prop}
structure It where
 h:World→(Nat→Prop)→Prop
 loc:∀ {w w':World} {S:Nat→Prop},h w S→(∀ k,S k→w'.heap[k]? = w.heap[k]?)→w.heap.size≤w'.heap.size→h w' S
 lt:∀ {w:World} {S:Nat→Prop},h w S→∀ k,S k→k < w.heap.size
def Sep:List It→World→(Nat→Prop)→Prop
 | [],_,S=>∀ k,¬ S k
 | i :: L,w,S=>∃ S1 S2,i.h w S1∧Sep L w S2∧(∀ k,S1 k→¬ S2 k)∧∀ k,S k↔S1 k∨S2 k
theorem Sep.loc:∀ {L:List It} {w w':World} {S:Nat→Prop},Sep L w S→(∀ k,S k→w'.heap[k]? = w.heap[k]?)→w.heap.size≤w'.heap.size→Sep L w' S
 | [],_,_,_,h,_,_=>h
 | _ :: _,_,_,_,⟨S1,S2,h1,h2,h3,h4⟩,hw,hz=>⟨S1,S2,It.loc _ h1 (fun k hk=>hw k ((h4 k).2 (.inl hk))) hz,Sep.loc h2 (fun k hk=>hw k ((h4 k).2 (.inr hk))) hz,h3,h4⟩
theorem Sep.lt:∀ {L:List It} {w:World} {S:Nat→Prop},Sep L w S→∀ k,S k→k < w.heap.size
 | [],_,_,h,k,hk=>absurd hk (h k)
 | _ :: _,_,_,⟨_,_,h1,h2,_,h4⟩,k,hk=>((h4 k).1 hk).elim (It.lt _ h1 k) (Sep.lt h2 k)
theorem Sep.congr {L:List It} {w:World} {S S':Nat→Prop} (h:Sep L w S) (e:∀ k,S' k↔S k):Sep L w S':=by
 have:S' = S:=funext fun k=>propext (e k)
 rw [this]; exact h
theorem Sep.append {w:World}:∀ {L F:List It} {S:Nat→Prop},Sep (L ++ F) w S↔∃ S1 S2,Sep L w S1∧Sep F w S2∧(∀ k,S1 k→¬ S2 k)∧∀ k,S k↔S1 k∨S2 k
 | [],F,S=>⟨fun h=>⟨fun _=>False,S,fun _ h=>h,h,fun _ h=>h.elim,fun k=>⟨.inr,fun h=>h.elim False.elim id⟩⟩,
  fun ⟨S1,S2,h1,h2,_,h4⟩=>h2.congr fun k=>⟨fun h=>((h4 k).1 h).elim (fun h=>absurd h (h1 k)) id,fun h=>(h4 k).2 (.inr h)⟩⟩
 | i :: L,F,S=>by
  constructor
  · rintro ⟨S1,S2,h1,h2,h3,h4⟩
    obtain ⟨T1,T2,g1,g2,g3,g4⟩:=Sep.append.1 h2
    refine ⟨fun k=>S1 k∨T1 k,T2,⟨S1,T1,h1,g1,fun k hk ht=>h3 k hk ((g4 k).2 (.inl ht)),fun _=>Iff.rfl⟩,g2,?_,fun k=>?_⟩
    · rintro k (hk | hk) ht
      · exact h3 k hk ((g4 k).2 (.inr ht))
      · exact g3 k hk ht
    · rw [h4,g4,or_assoc]
  · rintro ⟨U,T2,⟨S1,T1,h1,g1,g5,g6⟩,g2,g3,g4⟩
    refine ⟨S1,fun k=>T1 k∨T2 k,h1,Sep.append.2 ⟨T1,T2,g1,g2,fun k hk=>g3 k ((g6 k).2 (.inr hk)),fun _=>Iff.rfl⟩,?_,fun k=>?_⟩
    · rintro k hk (ht | ht)
      · exact g5 k hk ht
      · exact g3 k ((g6 k).2 (.inl hk)) ht
    · rw [g4,g6,or_assoc]
inductive Pick:List It→It→List It→Prop
 | here {i:It} {L:List It}:Pick (i :: L) i L
 | there {x i:It} {L L':List It}:Pick L i L'→Pick (x :: L) i (x :: L')
theorem Pick.iff {w:World} {i:It} {L L':List It} (h:Pick L i L'):∀ {S:Nat→Prop},Sep L w S↔Sep (i :: L') w S:=by
 induction h with
 | here=>exact Iff.rfl
 | there h ih =>
  intro S
  constructor
  · rintro ⟨S1,S2,h1,h2,h3,h4⟩
    obtain ⟨T1,T2,g1,g2,g3,g4⟩:=ih.1 h2
    refine ⟨T1,fun k=>S1 k∨T2 k,g1,⟨S1,T2,h1,g2,fun k hk ht=>h3 k hk ((g4 k).2 (.inr ht)),fun _=>Iff.rfl⟩,?_,fun k=>?_⟩
    · rintro k hk (ht | ht)
      · exact h3 k ht ((g4 k).2 (.inl hk))
      · exact g3 k hk ht
    · rw [h4,g4,← or_assoc,← or_assoc,or_comm (a:=S1 k)]
  · rintro ⟨T1,U,g1,⟨S1,T2,h1,g2,h3,h4⟩,g3,g4⟩
    refine ⟨S1,fun k=>T1 k∨T2 k,h1,ih.2 ⟨T1,T2,g1,g2,fun k hk ht=>g3 k hk ((h4 k).2 (.inr ht)),fun _=>Iff.rfl⟩,?_,fun k=>?_⟩
    · rintro k hk (ht | ht)
      · exact g3 k ht ((h4 k).2 (.inl hk))
      · exact h3 k hk ht
    · rw [g4,h4,← or_assoc,← or_assoc,or_comm (a:=S1 k)]
inductive Rep:List It→It→It→List It→Prop
 | here {i j:It} {L:List It}:Rep (i :: L) i j (j :: L)
 | there {x i j:It} {L L':List It}:Rep L i j L'→Rep (x :: L) i j (x :: L')
theorem Rep.out {i j:It} {L L2:List It} (h:Rep L i j L2):∃ L',Pick L i L'∧Pick L2 j L':=by
 induction h with
 | here=>exact ⟨_,.here,.here⟩
 | there h ih=>obtain ⟨L',h1,h2⟩:=ih; exact ⟨_,.there h1,.there h2⟩
inductive Cut:List It→List It→List It→Prop
 | nil {L:List It}:Cut L [] L
 | cons {i:It} {L L' L1 F:List It}:Pick L i L'→Cut L' L1 F→Cut L (i :: L1) F
theorem Cut.iff {w:World} {L L1 F:List It} (h:Cut L L1 F):∀ {S:Nat→Prop},Sep L w S↔Sep (L1 ++ F) w S:=by
 induction h with
 | nil=>exact Iff.rfl
 | cons h1 h2 ih =>
  intro S
  rw [h1.iff]
  constructor
  · rintro ⟨S1,S2,h1,h2,h⟩; exact ⟨S1,S2,h1,ih.1 h2,h⟩
  · rintro ⟨S1,S2,h1,h2,h⟩; exact ⟨S1,S2,h1,ih.2 h2,h⟩
def Own (w0:World) (S0:Nat→Prop) (L:List It) (w:World):Prop:=∃ S,Sep L w S∧Out S0 w0 w∧∀ k,S k→S0 k∨w0.heap.size≤k
theorem Own.start {L:List It} {S:Nat→Prop} (h:Sep L w S):Own w S L w:=⟨S,h,Out.refl _ _,fun _ h=>.inl h⟩
theorem Own.out {L:List It} (H:Own w0 S0 L w):Out S0 w0 w:=let ⟨_,_,h,_⟩:=H; h
theorem Own.perm {L L1 F:List It} (H:Own w0 S0 L w) (hc:Cut L L1 F):Own w0 S0 (L1 ++ F) w:=let ⟨S,h1,h2⟩:=H; ⟨S,hc.iff.1 h1,h2⟩
theorem Own.drop {L L1 F:List It} (H:Own w0 S0 L w) (hc:Cut L L1 F):Own w0 S0 L1 w:=by
 obtain ⟨S,h1,h2,h3⟩:=H
 obtain ⟨S1,S2,g1,_,_,g4⟩:=Sep.append.1 (hc.iff.1 h1)
 exact ⟨S1,g1,h2,fun k hk=>h3 k ((g4 k).2 (.inl hk))⟩
theorem Own.rest {L L1 F:List It} (H:Own w0 S0 L w) (hc:Cut L L1 F):Own w0 S0 F w:=by
 obtain ⟨S,h1,h2,h3⟩:=H
 obtain ⟨S1,S2,_,g2,_,g4⟩:=Sep.append.1 (hc.iff.1 h1)
 exact ⟨S2,g2,h2,fun k hk=>h3 k ((g4 k).2 (.inr hk))⟩
theorem Own.pick {L F:List It} {i:It} (H:Own w0 S0 L w) (hp:Pick L i F):∃ S,i.h w S∧∀ k,S k→S0 k∨w0.heap.size≤k:=by
 obtain ⟨S,h1,_,h3⟩:=H
 obtain ⟨S1,S2,g1,_,_,g4⟩:=hp.iff.1 h1
 exact ⟨S1,g1,fun k hk=>h3 k ((g4 k).2 (.inl hk))⟩
theorem own_join {L2 F:List It} {w':World} {S1 S2 S':Nat→Prop} (g2:Sep F w S2) (g3:∀ k,S1 k→¬ S2 k) (h2:Out S0 w0 w) (h3:∀ k,S1 k∨S2 k→S0 k∨w0.heap.size≤k)
 (e1:Sep L2 w' S') (e2:Out S1 w w') (e3:∀ k,S' k→S1 k∨w.heap.size≤k):Own w0 S0 (L2 ++ F) w':=by
 have hlt:=Sep.lt g2
 refine ⟨fun k=>S' k∨S2 k,Sep.append.2 ⟨S',S2,e1,g2.loc (fun k hk=>e2.block k (hlt k hk) fun hs=>g3 k hs hk) e2.size,?_,fun _=>Iff.rfl⟩,?_,?_⟩
 · intro k hk ht
   rcases e3 k hk with h | h
   · exact g3 k h ht
   · have:=hlt k ht; omega
 · refine ⟨e2.os.trans h2.os,e2.tape.trans h2.tape,e2.output.trans h2.output,Nat.le_trans h2.size e2.size,fun k hk hn=>?_⟩
   rw [e2.block k (Nat.lt_of_lt_of_le hk h2.size) fun hs=>?_,h2.block k hk hn]
   rcases h3 k (.inl hs) with h | h
   · exact hn h
   · omega
 · rintro k (hk | hk)
   · rcases e3 k hk with h | h
     · exact h3 k (.inl h)
     · exact .inr (Nat.le_trans h2.size h)
   · exact h3 k (.inr hk)
theorem Own.step {L L1 L2 F:List It} {w':World} (H:Own w0 S0 L w) (hc:Cut L L1 F)
 (h:∀ S,Sep L1 w S→∃ S',Sep L2 w' S'∧Out S w w'∧∀ k,S' k→S k∨w.heap.size≤k):Own w0 S0 (L2 ++ F) w':=by
 obtain ⟨S,h1,h2,h3⟩:=H
 obtain ⟨S1,S2,g1,g2,g3,g4⟩:=Sep.append.1 (hc.iff.1 h1)
 obtain ⟨S',e1,e2,e3⟩:=h S1 g1
 exact own_join g2 g3 h2 (fun k hk=>h3 k ((g4 k).2 hk)) e1 e2 e3
theorem Own.grow {L:List It} {w':World} (H:Own w0 S0 L w) (hB:Below w.heap.size w w'):Own w0 S0 L w':=by
 have:=H.step (L1:=[]) (L2:=[]) (w':=w') .nil fun S hS=>⟨S,hS,Out.pure hB,fun k hk=>.inl hk⟩
 exact this
theorem Own.add {L:List It} {i:It} {w':World} (H:Own w0 S0 L w) (hB:Below w.heap.size w w') {S:Nat→Prop} (hi:i.h w' S) (hS:∀ k,S k→w.heap.size≤k):Own w0 S0 (i :: L) w':=by
 have:=H.step (L1:=[]) (L2:=[i]) (w':=w') .nil fun S' hS'=>⟨S,⟨S,fun _=>False,hi,fun _ h=>h,fun _ _ h=>h,fun k=>by simp⟩,Out.pure hB,fun k hk=>.inr (hS k hk)⟩
 exact this
def Tri (P:Program) (f:FuncId) (args:List Value) (L:List It) (Q:Value→List It→Prop):Prop :=
 ∀ w S,Sep L w S→CV P f args w fun v w'=>∃ L',Q v L'∧Own w S L' w'
theorem call_o {f:FuncId} {args:List Value} {L L1 F:List It} {Q:Value→List It→Prop} {K:Value→World→Prop} (H:Own w0 S0 L w) (ht:Tri P f args L1 Q) (hc:Cut L L1 F)
 (k:∀ v L' w',Q v L'→Own w0 S0 (L' ++ F) w'→K v w'):CV P f args w K:=by
 obtain ⟨S,h1,h2,h3⟩:=H
 obtain ⟨S1,S2,g1,g2,g3,g4⟩:=Sep.append.1 (hc.iff.1 h1)
 exact (ht w S1 g1).mono fun v w' ⟨L',hq,S',e1,e2,e3⟩=>k v L' w' hq (own_join g2 g3 h2 (fun k hk=>h3 k ((g4 k).2 hk)) e1 e2 e3)
theorem call_p {f:FuncId} {args:List Value} {L L1 F:List It} {V:Value} {K:Value→World→Prop} (H:Own w0 S0 L w) (ht:Tri P f args L1 fun v L'=>v = V∧L' = L1) (hc:Cut L L1 F)
 (k:∀ w',Own w0 S0 L w'→K V w'):CV P f args w K :=
 call_o H ht hc fun v L' w' ⟨e1,e2⟩ h=>by
  subst e1 e2
  obtain ⟨S,h1,h2⟩:=h
  exact k w' ⟨S,hc.iff.2 h1,h2⟩
theorem Tri.of_pure {f:FuncId} {args:List Value} {L:List It} {V:Value} (h:∀ w S,Sep L w S→CV P f args w fun v w'=>v = V∧Below w.heap.size w w'):Tri P f args L fun v L'=>v = V∧L' = L :=
 fun w S hS=>(h w S hS).mono fun _ _ ⟨e,hB⟩=>⟨L,⟨e,rfl⟩,(Own.start hS).grow hB⟩
theorem sep_one {i:It} {w:World} {S:Nat→Prop}:Sep [i] w S↔i.h w S:=by
 constructor
 · rintro ⟨S1,S2,h1,h2,_,h4⟩
   have:S = S1:=funext fun k=>propext ((h4 k).trans ⟨fun h=>h.elim id fun h=>absurd h (h2 k),.inl⟩)
   rw [this]; exact h1
 · intro h; exact ⟨S,fun _=>False,h,fun _ h=>h,fun _ _ h=>h,fun k=>by simp⟩
def row (b:Nat) (cs:List Value) (t:TypeId):It where
 h:=fun w S=>Row w b cs t∧∀ k,S k↔k = b
 loc:=fun ⟨h1,h2⟩ hw _=>⟨by unfold Row at *; rw [hw _ ((h2 _).2 rfl)]; exact h1,h2⟩
 lt:=fun ⟨h1,h2⟩ k hk=>by rw [(h2 k).1 hk]; exact h1.lt
theorem Own.row {L F:List It} {b:Nat} {cs:List Value} {t:TypeId} (H:Own w0 S0 L w) (hp:Pick L (X.row b cs t) F):Row w b cs t:=let ⟨_,h,_⟩:=H.pick hp; h.1
theorem alc_o {L:List It} {cs:List Value} {t:TypeId} {K:Nat→World→Prop} (H:Own w0 S0 L w) (k:∀ b w',Own w0 S0 (row b cs t :: L) w'→K b w'):alc cs t w K :=
 alc_i fun w1 hB h1 _=>k _ _ (H.add (i:=row _ cs t) (hB _ (Nat.le_refl _)) (S:=fun k=>k = w.heap.size) ⟨h1,fun _=>Iff.rfl⟩ (by rintro k rfl; exact Nat.le_refl _))
theorem drw_o {L:List It} {K:World→Prop} (H:Own w0 S0 L w) (k:∀ w',Own w0 S0 L w'→K w'):drw w K:=k _ (H.grow (below_drew _))
section
variable {L F:List It} {b i:Nat} {cs:List Value} {t:TypeId}
theorem ldI_o {kd:IntKind} {n:Int} {K:Int→Prop} (H:Own w0 S0 L w) (hp:Pick L (row b cs t) F) (hi:cs[i]? = some (.int kd n)) (hK:K n):ldI kd ⟨b,i,none⟩ w K:=ldI_i (H.row hp) hi hK
theorem ldB_o {n:Bool} {K:Bool→Prop} (H:Own w0 S0 L w) (hp:Pick L (row b cs t) F) (hi:cs[i]? = some (.bool n)) (hK:K n):ldB ⟨b,i,none⟩ w K:=ldB_i (H.row hp) hi hK
theorem ldL_o {p:Option Addr} {n c:Nat} {K:Option Addr→Nat→Nat→Prop} (H:Own w0 S0 L w) (hp:Pick L (row b cs t) F) (hi:cs[i]? = some (.slice p n c)) (hK:K p n c):ldL ⟨b,i,none⟩ w K:=ldL_i (H.row hp) hi hK
theorem ldP_o {p:Option Addr} {K:Option Addr→Prop} (H:Own w0 S0 L w) (hp:Pick L (row b cs t) F) (hi:cs[i]? = some (.pointer p)) (hK:K p):ldP ⟨b,i,none⟩ w K:=ldP_i (H.row hp) hi hK
theorem ldS_o {s:ByteArray} {K:ByteArray→Prop} (H:Own w0 S0 L w) (hp:Pick L (row b cs t) F) (hi:cs[i]? = some (.string s)) (hK:K s):ldS ⟨b,i,none⟩ w K:=⟨s,by rw [(H.row hp).cell,hi],hK⟩
theorem Own.rep {L2:List It} {i j:It} {w':World} (H:Own w0 S0 L w) (hr:Rep L i j L2) (h:∀ S,i.h w S→∃ S',j.h w' S'∧Out S w w'∧∀ k,S' k→S k∨w.heap.size≤k):Own w0 S0 L2 w':=by
 obtain ⟨L',h1,h2⟩:=hr.out
 have:=H.step (L1:=[i]) (L2:=[j]) (F:=L') (w':=w') (.cons h1 .nil) ?_
 · obtain ⟨S,g1,g2⟩:=this
   exact ⟨S,h2.iff.2 g1,g2⟩
 · rintro S ⟨S1,S2,g1,g2,_,g4⟩
   have e:∀ k,S k↔S1 k:=fun k=>(g4 k).trans ⟨fun h=>h.elim id fun h=>absurd h (g2 k),.inl⟩
   have:S = S1:=funext fun k=>propext (e k)
   subst this
   obtain ⟨S',k1,k2,k3⟩:=h S g1
   exact ⟨S',⟨S',fun _=>False,k1,fun _ h=>h,fun _ _ h=>h,fun k=>by simp⟩,k2,k3⟩
theorem st1_o {L2:List It} {v:Value} {K:World→Prop} (H:Own w0 S0 L w) (hr:Rep L (row b cs t) (row b (cs.set i v) t) L2) (hi:i < cs.length) (k:∀ w',Own w0 S0 L2 w'→K w'):st1 v ⟨b,i,none⟩ w K:=by
 obtain ⟨L',h1,h2⟩:=hr.out
 refine st1_i (H.row h1) hi fun w1 hB he hs h3=>k _ (H.rep hr fun S ⟨g1,g2⟩=>⟨S,⟨h3,g2⟩,?_,fun _ h=>.inl h⟩)
 have hb:=hB 0 (Nat.zero_le _)
 exact ⟨hb.os,hb.tape,hb.output,hb.size,fun k _ hn=>he k fun hk=>hn ((g2 k).2 hk)⟩
end
def keep (w1:World):It where
 h:=fun w S=>(∀ k,S k↔k < w1.heap.size)∧w1.heap.size≤w.heap.size∧∀ k,k < w1.heap.size→w.heap[k]? = w1.heap[k]?
 loc:=fun ⟨h1,h2,h3⟩ hw hz=>⟨h1,Nat.le_trans h2 hz,fun k hk=>(hw k ((h1 k).2 hk)).trans (h3 k hk)⟩
 lt:=fun ⟨h1,h2,_⟩ k hk=>Nat.lt_of_lt_of_le ((h1 k).1 hk) h2
theorem keep_start (w:World):Own w (fun k=>k < w.heap.size) [keep w] w :=
 .start ⟨fun k=>k < w.heap.size,fun _=>False,⟨fun _=>Iff.rfl,Nat.le_refl _,fun _ _=>rfl⟩,fun _ h=>h,fun _ _ h=>h,fun k=>by simp⟩
theorem keep_done {L F:List It} {S1:Nat→Prop} (H:Own w0 S1 L w) (hp:Pick L (keep w0) F):Below w0.heap.size w0 w:=by
 obtain ⟨S,h,_⟩:=H.pick hp
 have:=H.out
 exact ⟨this.os,this.tape,this.output,this.size,fun k hk=>h.2.2 k hk⟩
def own (e:TypeId) (size:Nat) (v:Value) (n:Nat) (xs:List Value):It where
 h:=fun w S=>w.ownsRow 0 e size v n xs∧∀ k,S k↔v.ownBlock = some k
 loc:=fun ⟨h1,h2⟩ hw _=>⟨own_of h1 fun k hk=>hw k ((h2 k).2 hk),h2⟩
 lt:=fun ⟨h1,h2⟩ k hk=>(h1.lt k ((h2 k).1 hk)).2
theorem own_nil {L:List It} {e:TypeId} {size:Nat} (H:Own w0 S0 L w):Own w0 S0 (own e size (.slice none 0 0) 0 [] :: L) w :=
 H.add (i:=own e size _ 0 []) (Below.refl _ _) (S:=fun _=>False) ⟨World.ownsRow_nil w 0 e size,fun k=>by simp [Value.ownBlock]⟩ (fun _ h=>h.elim)
theorem own_add {L:List It} {w':World} {e:TypeId} {base size n:Nat} {v:Value} {xs:List Value} (H:Own w0 S0 L w) (hB:Below w.heap.size w w') (h:w'.ownsRow base e size v n xs) (hb:w.heap.size≤base):Own w0 S0 (own e size v n xs :: L) w':=by
 refine H.add (i:=own e size v n xs) hB (S:=fun k=>v.ownBlock = some k) ⟨⟨h.1,?_⟩,fun _=>Iff.rfl⟩ ?_
 · rcases h.2 with h | ⟨g,cap,cur,e1,e2,e3⟩
   · exact .inl h
   · exact .inr ⟨g,cap,cur,e1,Nat.zero_le _,e3⟩
 · intro k hk
   rcases h.2 with ⟨rfl,_⟩ | ⟨g,cap,cur,rfl,e2,_⟩
   · cases hk
   · simp only [Value.ownBlock,Option.some.injEq] at hk; omega
theorem Own.sl {L F:List It} {e:TypeId} {p:Option Addr} {n c:Nat} {xs:List Value} (H:Own w0 S0 L w) (hp:Pick L (own e 1 (.slice p n c) n xs) F):Sl w p xs∧xs.length = n:=let ⟨_,h,_⟩:=H.pick hp; Sl.own h.1
theorem app_fresh {ta ty e:TypeId} {size bytes:Nat} (hT:appB P ta e size bytes = true) (hsz:0 < size) {p:Option Addr} {n c:Nat} {xs:List Value} (hown:w.ownsRow 0 e size (.slice p n c) n xs) {q:Option Addr} {m c2:Nat} {news:List Value}
 (hq:Sl w q news) (hl:news.length = m * size) (h1:∀ u∈news,u.oneCell' = true) (hn:n + m≤maxLen) (hby:(n + m) * bytes≤140737488355328) :
 ∃ p' c' w',(Builtin.append_ #[ta,ta] ty #[.slice p n c,.slice q m c2]).run P w = .ok (.slice p' (n + m) c') w'∧w'.ownsRow 0 e size (.slice p' (n + m) c') (n + m) (xs ++ news)∧w.grownBy w' (Value.ownBlock (.slice p n c)) ∧
  (∀ k,Value.ownBlock (.slice p' (n + m) c') = some k→Value.ownBlock (.slice p n c) = some k∨w.heap.size≤k)∧(p.isSome = true→p'.isSome = true):=by
 obtain ⟨p',n',c',w',hr,hK⟩:=appS_i (P:=P) (ty:=ty) (K:=fun p' n' c' w'=>n' = n + m∧w'.ownsRow 0 e size (.slice p' (n + m) c') (n + m) (xs ++ news)∧w.grownBy w' (Value.ownBlock (.slice p n c))) hT hsz hown (c':=c2) hq hl h1 hn hby (Nat.zero_le _)
  fun p' c' w' ho hg=>⟨rfl,ho,hg⟩
 obtain ⟨rfl,ho,hg⟩:=hK
 refine ⟨p',c',w',hr,ho,hg,?_⟩
 rcases hown.2 with ⟨e1,e2⟩ | ⟨g,cap,cur,e1,_,e3,e4,e5,e6,e7⟩
 · cases e1
   have hx:xs = []:=List.eq_nil_of_length_eq_zero (by simpa using hown.1)
   subst hx
   obtain ⟨p2,n2,c3,w2,hr2,hK2⟩:=appS_i (P:=P) (ty:=ty) (K:=fun p' n' c' w'=>n' = 0 + m∧w'.ownsRow w.heap.size e size (.slice p' (0 + m) c') (0 + m) ([] ++ news)) hT hsz (World.ownsRow_nil w w.heap.size e size) (c':=c2) hq hl h1 hn hby (Nat.le_refl _)
    fun p' c' w' ho hg=>⟨rfl,ho⟩
   obtain ⟨rfl,ho2⟩:=hK2
   have:=hr.symm.trans hr2
   simp only [Result.ok.injEq,Value.slice.injEq] at this
   obtain ⟨⟨rfl,_,rfl⟩,rfl⟩:=this
   exact ⟨fun k hk=>.inr (ho2.lt k hk).1,fun h=>by cases h⟩
 · cases e1
   cases q with
   | none =>
    have hx:=sl_nil hq
    subst hx
    have hm:m = 0:=by
     rcases Nat.eq_zero_or_pos m with h | h
     · exact h
     · have:=Nat.mul_pos h hsz; simp at hl; omega
    subst hm
    obtain ⟨hu,i,z,hi,hz,h2,h3,h4⟩:=appB_out hT
    have hr2:(Builtin.append_ #[ta,ta] ty #[.slice (some ⟨g,0,none⟩) n c,.slice none 0 c2]).run P w = .ok (.slice (some ⟨g,0,none⟩) (n + 0) c) w:=by
     simp [Builtin.append_,run_underlying hu,sizeOf,typeInfo,hi,Builtin.lenOf,Builtin.firstCells,e4,storeCells]
    have:=hr.symm.trans hr2
    simp only [Result.ok.injEq,Value.slice.injEq] at this
    obtain ⟨⟨rfl,_,rfl⟩,rfl⟩:=this
    exact ⟨fun k hk=>.inl hk,fun _=>rfl⟩
   | some a =>
    obtain ⟨hu,i,z,hi,hz,h2,h3,h4⟩:=appB_out hT
    subst h2 h3
    have hcell:∀ j u,news[j]? = some u→w.cell? (a.add j) = some u:=fun j u hj=>by obtain ⟨a',ha,hc⟩:=hq j u hj; cases ha; exact hc
    by_cases hroom:n + m≤c
    · have hr2:=run_append_room (P:=P) w ta ty e i hu hi g n c cur e3 a m c2 news hl hcell h1 hroom (by rw [hl,e6,← Nat.add_mul]; exact Nat.mul_le_mul_right _ hroom)
      have:=hr.symm.trans hr2
      simp only [Result.ok.injEq,Value.slice.injEq] at this
      obtain ⟨⟨rfl,_,rfl⟩,rfl⟩:=this
      exact ⟨fun k hk=>.inl hk,fun _=>rfl⟩
    · have holds:∀ j u,xs[j]? = some u→w.cell? ((⟨g,0,none⟩:Addr).add j) = some u:=hown.cells (g:=g) rfl
      have hr2:=run_append_grow (P:=P) w ta ty e i z hu hi hz ⟨g,0,none⟩ n c xs hown.1 holds a m c2 news hl hcell (by omega) (by simp only [maxLen] at hn; omega) (growslice_fits (by omega) hby)
      have:=hr.symm.trans hr2
      simp only [Result.ok.injEq,Value.slice.injEq] at this
      obtain ⟨⟨rfl,_,rfl⟩,rfl⟩:=this
      refine ⟨fun k hk=>?_,fun _=>rfl⟩
      simp only [Value.ownBlock,Option.some.injEq] at hk
      exact .inr (by omega)
theorem app_o {L:List It} {ta ty e:TypeId} {size bytes:Nat} (hT:appB P ta e size bytes = true) (hsz:0 < size) {p q:Option Addr} {n c m c2:Nat} {xs news:List Value} (H:Own w0 S0 L w)
 {F:List It} (hp:Pick L (own e size (.slice p n c) n xs) F)
 (hq:Sl w q news) (hl:news.length = m * size) (h1:∀ u∈news,u.oneCell' = true) (hn:n + m≤maxLen) (hby:(n + m) * bytes≤140737488355328) {K:Option Addr→Nat→Nat→World→Prop}
 (k:∀ p' c' w',Own w0 S0 (own e size (.slice p' (n + m) c') (n + m) (xs ++ news) :: F) w'→K p' (n + m) c' w'):runS P (Builtin.append_ #[ta,ta] ty [.slice p n c,.slice q m c2].toArray) w K:=by
 obtain ⟨S,⟨g1,g2⟩,_⟩:=H.pick hp
 obtain ⟨p',c',w',hr,ho,hg,hk,_⟩:=app_fresh (P:=P) (ty:=ty) (c2:=c2) hT hsz g1 hq hl h1 hn hby
 refine ⟨p',n + m,c',w',hr,k p' c' w' ?_⟩
 have H1:Own w0 S0 (own e size (.slice p n c) n xs :: F) w:=let ⟨S,h1,h2⟩:=H; ⟨S,hp.iff.1 h1,h2⟩
 refine H1.rep .here fun S ⟨k1,k2⟩=>⟨fun k=>Value.ownBlock (.slice p' (n + m) c') = some k,⟨ho,fun _=>Iff.rfl⟩,⟨hg.os,hg.tape,hg.output,hg.size,fun k hk hn=>hg.block k hk fun h=>hn ((k2 k).2 h.symm)⟩,fun k h=>?_⟩
 exact (hk k h).imp (k2 k).2 id
theorem loop_o {σ:Type} {step:σ→World→(σ→World→Prop)→Prop} {s0:σ} {L:List It} (I:σ→List It→Prop) (μ:σ→Nat) (H:Own w0 S0 L w) (h0:I s0 L)
 (hs:∀ s L w,I s L→Own w0 S0 L w→step s w fun s' w'=>(∃ L',I s' L'∧Own w0 S0 L' w')∧μ s' < μ s):LoopT step s0 w :=
 ⟨fun s w=>∃ L,I s L∧Own w0 S0 L w,fun s _=>μ s,⟨L,h0,H⟩,fun s w ⟨L,hi,ho⟩=>hs s L w hi ho⟩
theorem join_o {σ:Type} {B:(σ→World→Prop)→Prop} {J:σ→World→Prop} (h:B J):JoinT B J:=h
theorem Own.rd {L F:List It} {i:It} {q:Option Addr} {xs:List Value} (H:Own w0 S0 L w) (hp:Pick L i F) (hi:∀ w S,i.h w S→Sl w q xs):Sl w q xs:=let ⟨_,h,_⟩:=H.pick hp; hi _ _ h
theorem keep_sl {w1:World} {q:Option Addr} {xs:List Value} (h:Sl w1 q xs):∀ w S,(keep w1).h w S→Sl w q xs:=by
 intro w S ⟨_,_,h3⟩ j u hj
 obtain ⟨a,ha,hc⟩:=h j u hj
 refine ⟨a,ha,?_⟩
 rw [World.cell?_of_block (h3 _ (World.block_lt_of_cell? _ _ hc))]; exact hc
theorem own_sl {e:TypeId} {p:Option Addr} {n c:Nat} {xs:List Value}:∀ w S,(own e 1 (.slice p n c) n xs).h w S→Sl w p xs:=fun _ _ h=>(Sl.own h.1).1
theorem Own.dp {L L1 F:List It} (H:Own w0 S0 L w) (hc:Cut L L1 F:=by repeat (first | exact Cut.nil | (apply Cut.cons; (repeat (first | exact Pick.here | apply Pick.there))))):Own w0 S0 L1 w:=H.drop hc
theorem call_oa {f:FuncId} {args:List Value} {L L1 F:List It} {Q:Value→List It→Prop} {K:Value→World→Prop} (H:Own w0 S0 L w) (ht:Tri P f args L1 Q)
 (k:∀ v L' w',Q v L'→Own w0 S0 (L' ++ F) w'→K v w') (hc:Cut L L1 F:=by repeat (first | exact Cut.nil | (apply Cut.cons; (repeat (first | exact Pick.here | apply Pick.there))))):CV P f args w K:=call_o H ht hc k
theorem call_pa {f:FuncId} {args:List Value} {L L1 F:List It} {V:Value} {K:Value→World→Prop} (H:Own w0 S0 L w) (ht:Tri P f args L1 fun v L'=>v = V∧L' = L1)
 (k:∀ w',Own w0 S0 L w'→K V w') (hc:Cut L L1 F:=by repeat (first | exact Cut.nil | (apply Cut.cons; (repeat (first | exact Pick.here | apply Pick.there))))):CV P f args w K:=call_p H ht hc k
section
variable {L F:List It} {b i:Nat} {cs:List Value} {t:TypeId}
theorem lIa {kd:IntKind} {n:Int} {K:Int→Prop} (H:Own w0 S0 L w) (hK:K n) (hp:Pick L (row b cs t) F:=by repeat (first | exact Pick.here | apply Pick.there)) (hi:cs[i]? = some (.int kd n):=by rfl):ldI kd ⟨b,i,none⟩ w K:=ldI_o H hp hi hK
theorem lBa {n:Bool} {K:Bool→Prop} (H:Own w0 S0 L w) (hK:K n) (hp:Pick L (row b cs t) F:=by repeat (first | exact Pick.here | apply Pick.there)) (hi:cs[i]? = some (.bool n):=by rfl):ldB ⟨b,i,none⟩ w K:=ldB_o H hp hi hK
theorem lLa {p:Option Addr} {n c:Nat} {K:Option Addr→Nat→Nat→Prop} (H:Own w0 S0 L w) (hK:K p n c) (hp:Pick L (row b cs t) F:=by repeat (first | exact Pick.here | apply Pick.there)) (hi:cs[i]? = some (.slice p n c):=by rfl):ldL ⟨b,i,none⟩ w K:=ldL_o H hp hi hK
theorem lPa {p:Option Addr} {K:Option Addr→Prop} (H:Own w0 S0 L w) (hK:K p) (hp:Pick L (row b cs t) F:=by repeat (first | exact Pick.here | apply Pick.there)) (hi:cs[i]? = some (.pointer p):=by rfl):ldP ⟨b,i,none⟩ w K:=ldP_o H hp hi hK
theorem lSa {s:ByteArray} {K:ByteArray→Prop} (H:Own w0 S0 L w) (hK:K s) (hp:Pick L (row b cs t) F:=by repeat (first | exact Pick.here | apply Pick.there)) (hi:cs[i]? = some (.string s):=by rfl):ldS ⟨b,i,none⟩ w K:=ldS_o H hp hi hK
theorem sta {L2:List It} {v:Value} {K:World→Prop} (H:Own w0 S0 L w) (k:∀ w',Own w0 S0 L2 w'→K w') (hr:Rep L (row b cs t) (row b (cs.set i v) t) L2:=by repeat (first | exact Rep.here | apply Rep.there)) (hi:i < cs.length:=by simp):st1 v ⟨b,i,none⟩ w K:=st1_o H hr hi k
end
variable {P:Program} {w w0:World} {S0:Nat→Prop}
def recI (l:Nat) (r:Loop) (st:LoopState) (j:Option Code):It where
 h:=fun w S=>recAt w l r st j∧∀ k,S k↔k = l
 loc:=fun ⟨h1,h2⟩ hw _=>⟨by unfold recAt at *; rw [hw _ ((h2 _).2 rfl)]; exact h1,h2⟩
 lt:=fun ⟨h1,h2⟩ k hk=>by rw [(h2 k).1 hk]; exact recAt_lt h1
def defI (d:Nat):It where
 h:=fun w S=>w.heap[d]? = some (.deferred (some []))∧∀ k,S k↔k = d
 loc:=fun ⟨h1,h2⟩ hw _=>⟨by rw [hw _ ((h2 _).2 rfl)]; exact h1,h2⟩
 lt:=fun ⟨h1,h2⟩ k hk=>by rw [(h2 k).1 hk]; exact (Array.getElem?_eq_some_iff.1 h1).1
theorem put_out {l:Nat} {o:Obj} {S:Nat→Prop} (hS:S l):Out S w (w.putObj l o) :=
 ⟨rfl,rfl,rfl,by simp,fun k _ hn=>World.putObj_heap_other fun e=>hn (e ▸ hS)⟩
theorem rec_o {L L2:List It} {l:Nat} {r:Loop} {st st':LoopState} {j j':Option Code} {K:World→Prop} (H:Own w0 S0 L w) (hr:Rep L (recI l r st j) (recI l r st' j') L2) (k:∀ w',Own w0 S0 L2 w'→K w') :
 recAt w l r st j∧setR w l r st' j' K:=by
 obtain ⟨F,f1,_⟩:=hr.out
 obtain ⟨S,⟨g1,g2⟩,_⟩:=H.pick f1
 refine ⟨g1,k _ (H.rep hr fun S ⟨k1,k2⟩=>⟨S,⟨recAt_put (recAt_lt k1),k2⟩,put_out ((k2 l).2 rfl),fun _ h=>.inl h⟩)⟩
theorem take_o {L F:List It} {d:Nat} {args:Array Value} {K:World→Prop} (H:Own w0 S0 L w) (hp:Pick L (defI d) F) (k:∀ w',Own w0 S0 F w'→K w'):takeX ([{ target:=.collected d,args:=args }] ++ []) w K:=by
 obtain ⟨S,⟨g1,g2⟩,_⟩:=H.pick hp
 refine ⟨g1,k _ ?_⟩
 have H1:Own w0 S0 (defI d :: F) w:=let ⟨S,h1,h2⟩:=H; ⟨S,hp.iff.1 h1,h2⟩
 obtain ⟨S,⟨S1,S2,⟨e1,e2⟩,h2,h3,h4⟩,h5,h6⟩:=H1
 have:=own_join (L2:=[]) (S':=fun _=>False) (w':=w.putObj d (.deferred none)) h2 h3 h5 (fun k hk=>h6 k ((h4 k).2 hk)) (fun _ h=>h) (put_out ((e2 d).2 rfl)) (fun _ h=>h.elim)
 exact this
def Iter (P:Program) (f:FuncId) (cap:List Value) (E:List It) (xs:List (List Value)):Prop :=
 ∀ (y:Value) (w0:World) (S0:Nat→Prop) (L0:List It) (w:World) (Q:Value→World→Prop) (I:Nat→List It→Prop) (D:List It→Prop),(∃ fn a c,y = .func fn a c)→Own w0 S0 (L0 ++ E) w→I 0 L0 →
  (∀ (k:Nat) (x:List Value) (L F:List It) (w:World),xs[k]? = some x→I k L→Own w0 S0 (L ++ (E ++ F)) w→callVal P y x w fun v w'=>∃ b,v = .bool b∧∃ L',(if b then I (k + 1) L' else D L')∧Own w0 S0 (L' ++ (E ++ F)) w') →
  (∀ L w,I xs.length L→Own w0 S0 (L ++ E) w→Q (.tuple [].toArray) w)→(∀ L w,D L→Own w0 S0 (L ++ E) w→Q (.tuple [].toArray) w)→CV P f (y :: cap) w Q
theorem rf_o {L0 E:List It} {f:FuncId} {cap:List Value} {xs:List (List Value)} {np:Nat} {B:Nat→Loop→List Value→World→(Value→World→Prop)→Prop} {K:List Deferred→Option Code→World→Prop}
 (I:Nat→List It→Prop) (D:Code→List It→Prop) (hen:enters P f = true) (hit:Iter P f cap E xs) (hnp:∀ x∈xs,x.length = np) (H:Own w0 S0 (L0 ++ E) w) (h0:I 0 L0)
 (hB:∀ (k:Nat) (x:List Value) (L F:List It) (l:Nat) (r:Loop) (d:Nat) (w:World) (Q:Value→World→Prop),xs[k]? = some x→I k L→Own w0 S0 (recI l r .ready none :: defI d :: (L ++ (E ++ F))) w →
  (∀ L' w',I (k + 1) L'→Own w0 S0 (recI l r .ready none :: defI d :: (L' ++ (E ++ F))) w'→Q (.bool true) w') →
  (∀ c L' w',D c L'→Own w0 S0 (recI l r .done (some c) :: defI d :: (L' ++ (E ++ F))) w'→Q (.bool false) w')→B l r x w Q)
 (hend:∀ d L w,I xs.length L→Own w0 S0 (defI d :: (L ++ E)) w→K [{ target:=.collected d,args:=#[] }] none w)
 (hstop:∀ d c L w,D c L→Own w0 S0 (defI d :: (L ++ E)) w→K [{ target:=.collected d,args:=#[] }] (some c) w) :
 RF P none np (.func (.func f) [].toArray cap.toArray) w B K:=by
 unfold RF inLoop
 simp only
 intro r l w1 mark hE hYV
 simp only [Entered] at hE
 obtain ⟨rfl,rfl,rfl⟩:=hE
 have H1:Own w0 S0 (defI w.heap.size :: (L0 ++ E)) (w.alloc (.deferred (some []))) :=
  H.add (i:=defI _) ((Below.refl _ _).alloc (Nat.le_refl _) _) (S:=fun k=>k = w.heap.size) ⟨World.alloc_heap_new _ _,fun _=>Iff.rfl⟩ (by rintro k rfl; exact Nat.le_refl _)
 have hsz:(w.alloc (.deferred (some []))).heap.size = w.heap.size + 1:=by simp
 have H2:Own w0 S0 (recI (w.heap.size + 1) r .ready none :: defI w.heap.size :: (L0 ++ E)) ((w.alloc (.deferred (some []))).alloc (.loop { r with state:=.ready,pending:=none })) :=
  H1.add (i:=recI _ r .ready none) ((Below.refl _ _).alloc (Nat.le_refl _) _) (S:=fun k=>k = w.heap.size + 1) ⟨by unfold recAt; rw [← hsz]; exact World.alloc_heap_new _ _,fun _=>Iff.rfl⟩ (by rintro k rfl; omega)
 refine enters_cv hen ?_
 refine hit _ w0 S0 (recI (w.heap.size + 1) r .ready none :: defI w.heap.size :: L0) _ _ (fun k L'=>∃ L,I k L∧L' = recI (w.heap.size + 1) r .ready none :: defI w.heap.size :: L)
  (fun L'=>∃ c L,D c L∧L' = recI (w.heap.size + 1) r .done (some c) :: defI w.heap.size :: L) ⟨_,_,_,rfl⟩ H2 ⟨L0,h0,rfl⟩ ?_ ?_ ?_
 · rintro k x _ F w2 hx ⟨L,hI,rfl⟩ H3
   have hrec:recAt w2 (w.heap.size + 1) r .ready none:=(H3.pick (i:=recI _ _ _ _) .here).choose_spec.1.1
   show YV P _ _ _ _
   refine hYV _ w2 _ (hnp x (List.mem_of_getElem? hx)) hrec (hB k x L F _ r w.heap.size w2 _ hx hI H3 ?_ ?_)
   · intro L' w' hI' H4
     exact ⟨true,rfl,_,by rw [if_pos rfl]; exact ⟨L',hI',rfl⟩,H4⟩
   · intro c L' w' hD H4
     exact ⟨false,rfl,_,by rw [if_neg (by simp)]; exact ⟨c,L',hD,rfl⟩,H4⟩
 · rintro _ w2 ⟨L,hI,rfl⟩ H3
   obtain ⟨h1,h2⟩:=rec_o (K:=fun w3=>K [{ target:=.collected w.heap.size,args:=#[] }] none w3) (st':=.exhausted) (j':=none) H3 .here fun w3 H5=>hend _ L w3 hI (H5.rest (L1:=[recI _ _ _ _]) (.cons .here .nil))
   exact ⟨_,_,h1,by simp,h2⟩
 · rintro _ w2 ⟨c,L,hD,rfl⟩ H3
   obtain ⟨h1,h2⟩:=rec_o (K:=fun w3=>K [{ target:=.collected w.heap.size,args:=#[] }] (some c) w3) (st':=.exhausted) (j':=some c) H3 .here fun w3 H5=>hstop _ c L w3 hD (H5.rest (L1:=[recI _ _ _ _]) (.cons .here .nil))
   exact ⟨_,_,h1,by simp,h2⟩
open Go Go.RowKit
variable {P:Program} {w w0:World} {S0:Nat→Prop}
def exI {α:Type} (p:α→Prop) (f:α→List It):It where
 h:=fun w S=>∃ a,p a∧Sep (f a) w S
 loc:=fun ⟨a,h1,h2⟩ hw hz=>⟨a,h1,h2.loc hw hz⟩
 lt:=fun ⟨a,h1,h2⟩ k hk=>h2.lt k hk
theorem ex_open {α:Type} {p:α→Prop} {f:α→List It} {L F:List It} (H:Own w0 S0 L w) (hp:Pick L (exI p f) F):∃ a,p a∧Own w0 S0 (f a ++ F) w:=by
 obtain ⟨S,h1,h2⟩:=H
 obtain ⟨S1,S2,⟨a,ha,g1⟩,g2,g3,g4⟩:=hp.iff.1 h1
 exact ⟨a,ha,S,Sep.append.2 ⟨S1,S2,g1,g2,g3,g4⟩,h2⟩
theorem ex_shut {α:Type} {p:α→Prop} {f:α→List It} {F:List It} (a:α) (ha:p a) (H:Own w0 S0 (f a ++ F) w):Own w0 S0 (exI p f :: F) w:=by
 obtain ⟨S,h1,h2⟩:=H
 obtain ⟨S1,S2,g1,g2,g3,g4⟩:=Sep.append.1 h1
 exact ⟨S,⟨S1,S2,⟨a,ha,g1⟩,g2,g3,g4⟩,h2⟩
open Classical in
def i64s (xs:List Int):List Value:=xs.map fun n=>.int .i64 n
theorem i64s_length (ws:List Int):(i64s ws).length = ws.length:=by simp [i64s]
theorem i64s_get {ws:List Int} {k:Nat} (h:k < ws.length):(i64s ws)[k]? = some (.int .i64 ws[k]):=by simp [i64s,h]
theorem i64s_append (a b:List Int):i64s (a ++ b) = i64s a ++ i64s b:=by simp [i64s]
theorem u64_id {n:Nat} (h:n < 2 ^ 64):IntKind.u64.wrap (n:Int) = n:=by simp [IntKind.wrap,IntKind.signed,IntKind.bits]; omega
theorem bits_nat {a:Nat} (h:a < 2 ^ 64):(BitVec.ofInt 64 (a:Int)).toNat = a:=by
 rw [BitVec.ofInt_natCast,BitVec.toNat_ofNat,Nat.mod_eq_of_lt h]
theorem and_u64 {a b:Nat} (ha:a < 2 ^ 64) (hb:b < 2 ^ 64):bitX .and .u64 (a:Int) (b:Int) = ((a &&& b:Nat):Int):=by
 show IntKind.u64.wrap (((BitVec.ofInt 64 (a:Int) &&& BitVec.ofInt 64 (b:Int)).toNat:Nat):Int) = _
 rw [BitVec.toNat_and,bits_nat ha,bits_nat hb,u64_id (Nat.and_lt_two_pow _ hb)]
theorem or_u64 {a b:Nat} (ha:a < 2 ^ 64) (hb:b < 2 ^ 64):bitX .or .u64 (a:Int) (b:Int) = ((a ||| b:Nat):Int):=by
 show IntKind.u64.wrap (((BitVec.ofInt 64 (a:Int) ||| BitVec.ofInt 64 (b:Int)).toNat:Nat):Int) = _
 rw [BitVec.toNat_or,bits_nat ha,bits_nat hb,u64_id (Nat.or_lt_two_pow ha hb)]
def andNot (a b:Nat):Nat:=a &&& (2 ^ 64 - 1 - b)
theorem shr_u64 (a:Nat) {s:Nat} (hs:s < 64):Int.fdiv (a:Int) (2 ^ min (Int.toNat (s:Int)) IntKind.u64.bits) = ((a / 2 ^ s:Nat):Int):=by
 rw [show min (Int.toNat (s:Int)) IntKind.u64.bits = s by simp [IntKind.bits]; omega,Int.fdiv_eq_ediv_of_nonneg _ (Int.le_of_lt (Int.pow_pos (by omega)))]
 push_cast; rfl
theorem add_zero' (a:Addr):a.add 0 = a:=by unfold Addr.add; split <;> simp_all
def Slots (w:World) (q:Option Addr) (c:Nat) (xs:List (List Value)):Prop:=∀ i cs,xs[i]? = some cs→∃ a,q = some a∧∀ j v,cs[j]? = some v→w.cell? ((a.add (i * c)).add j) = some v
theorem sh_slice {P:Program} {w:World} {fuel:Nat} {ts te:TypeId} {c:Nat} {v:Value} {α:Type} {mk:α→List Value} {Good:α→Prop} (hu:P.underlying ts = some (.slice te)) (hc:P.cellsOf te = c)
 (hel:∀ f cs,Sh P w 0 f te cs→∃ x,cs = mk x∧Good x) (h:Sh P w 0 fuel ts [v]) :
 ∃ q cap,∃ xs:List α,v = .slice q xs.length cap∧xs.length≤9223372036854775807∧(∀ x∈xs,Good x)∧Slots w q c (xs.map mk):=by
 cases fuel with
 | zero=>exact h.elim
 | succ f =>
  unfold Sh at h
  rw [hu] at h
  rcases h with h | ⟨a,len,cap,h1,h2,h3,_,h5⟩
  · exact ⟨none,0,[],by simpa using h,by simp,fun x hx=>(by cases hx),fun i cs hi=>(by cases hi)⟩
  · have h6:∀ i:Fin len,∃ x:α,w.cells? 0 (a.add (i.1 * c)) c = some (mk x)∧Good x:=by
     intro i
     obtain ⟨ecs,g1,g2⟩:=h5 i.1 i.2
     obtain ⟨x,rfl,g3⟩:=hel _ _ g2
     rw [hc] at g1
     exact ⟨x,g1,g3⟩
    obtain ⟨g,hg⟩:=Classical.axiomOfChoice h6
    refine ⟨some a,cap,List.ofFn g,by simpa using h1,by unfold maxLen at h3; simp; omega,?_,?_⟩
    · intro x hx
      obtain ⟨i,rfl⟩:=List.mem_ofFn.1 hx
      exact (hg i).2
    · intro i cs hi
      rw [List.getElem?_map] at hi
      by_cases hl:i < len
      · rw [List.getElem?_ofFn,dif_pos hl] at hi
        simp only [Option.map_some,Option.some.injEq] at hi
        subst hi
        refine ⟨a,rfl,fun j v hj=>?_⟩
        obtain ⟨_,g2,g3⟩:=World.cells?_some (hg ⟨i,hl⟩).1
        have hjl:=(List.getElem?_eq_some_iff.1 hj).1
        have:=g3 j (by omega)
        rw [this,hj]
      · rw [List.getElem?_ofFn,dif_neg hl] at hi; cases hi
theorem Slots.sl {w:World} {q:Option Addr} {xs:List Value} (h:Slots w q 1 (xs.map fun v=>[v])):Sl w q xs:=by
 intro j u hj
 obtain ⟨a,ha,hc⟩:=h j [u] (by rw [List.getElem?_map,hj]; rfl)
 refine ⟨a,ha,?_⟩
 have:=hc 0 u rfl
 rw [add_zero',Nat.mul_one] at this
 exact this
theorem sh_bool {P:Program} {w:World} {te:TypeId} (hu:P.underlying te = some .bool) (f:Nat) (cs:List Value) (h:Sh P w 0 f te cs):∃ x:Bool,cs = [.bool x]∧True:=by
 cases f with
 | zero=>exact h.elim
 | succ f =>
  unfold Sh at h
  rw [hu] at h
  obtain ⟨x,h⟩:=h
  exact ⟨x,h,trivial⟩
theorem sh_num {P:Program} {w:World} {te:TypeId} {k:IntKind} (hu:P.underlying te = some (.int k)) (f:Nat) (cs:List Value) (h:Sh P w 0 f te cs):∃ x:Int,cs = [.int k x]∧(Lit.int k x).wf = true:=by
 cases f with
 | zero=>exact h.elim
 | succ f =>
  unfold Sh at h
  rw [hu] at h
  exact h
variable {w w0:World} {S0:Nat→Prop}
theorem own_comm {A B:List It} (H:Own w0 S0 (A ++ B) w):Own w0 S0 (B ++ A) w:=by
 obtain ⟨S,h1,h2⟩:=H
 obtain ⟨S1,S2,g1,g2,g3,g4⟩:=Sep.append.1 h1
 exact ⟨S,Sep.append.2 ⟨S2,S1,g2,g1,fun k h h'=>g3 k h' h,fun k=>by rw [g4]; exact Or.comm⟩,h2⟩
theorem own_left {A B:List It} (H:Own w0 S0 (A ++ B) w):Own w0 S0 A w:=by
 obtain ⟨S,h1,h2,h3⟩:=H
 obtain ⟨S1,S2,g1,g2,g3,g4⟩:=Sep.append.1 h1
 exact ⟨S1,g1,h2,fun k hk=>h3 k ((g4 k).2 (.inl hk))⟩
theorem Own.rdS {w0 w:World} {S0:Nat→Prop} {L F:List It} {i:It} {q:Option Addr} {c:Nat} {xs:List (List Value)} (H:Own w0 S0 L w) (hp:Pick L i F) (hi:∀ w S,i.h w S→Slots w q c xs):Slots w q c xs:=let ⟨_,h,_⟩:=H.pick hp; hi _ _ h
theorem keep_slots {w1:World} {q:Option Addr} {c:Nat} {xs:List (List Value)} (h:Slots w1 q c xs):∀ w S,(keep w1).h w S→Slots w q c xs:=by
 intro w S ⟨_,_,h3⟩ j u hj
 obtain ⟨a,ha,hc⟩:=h j u hj
 refine ⟨a,ha,fun i v hv=>?_⟩
 have:=hc i v hv
 rw [World.cell?_of_block (h3 _ (World.block_lt_of_cell? _ _ this))]; exact this
theorem slot_cells {α:Type} {w:World} {q:Option Addr} {c:Nat} {mk:α→List Value} {xs:List α} (h:Slots w q c (xs.map mk)) {k:Nat} {x:α} (hk:xs[k]? = some x) :
 ∃ a,q = some a∧(∀ v,(mk x)[0]? = some v→w.cell? (a.add (k * c)) = some v)∧∀ (j:Nat) v,(mk x)[j]? = some v→w.cell? ((a.add (k * c)).add j) = some v:=by
 obtain ⟨a,ha,hc⟩:=h k (mk x) (by rw [List.getElem?_map,hk]; rfl)
 exact ⟨a,ha,fun v hv=>by rw [← add_zero' (a.add (k * c))]; exact hc 0 v hv,hc⟩
theorem ix_i {i:Nat} {n:Nat} {K:Nat→Prop} (h:i < n) (hK:K i):ix (i:Int) n K:=⟨⟨by omega,by omega⟩,by rw [Int.toNat_natCast]; exact hK⟩
theorem wf_i64 {x:Int} (h:(Lit.int .i64 x).wf = true):-9223372036854775808≤x∧x≤9223372036854775807:=by
 simp [Lit.wf,IntKind.min,IntKind.max,IntKind.signed,IntKind.bits] at h; omega
variable {P:Program} {w w0:World} {S0:Nat→Prop}
theorem row_turn {L L2:List It} {d:Nat} {cur cur':List Value} {e:TypeId} {w':World} (H:Own w0 S0 L w) (hr:Rep L (row d cur e) (row d cur' e) L2) (h1:Row w' d cur' e) (h2:∀ k,k≠d→w'.heap[k]? = w.heap[k]?) (h3:w'.heap.size = w.heap.size)
 (h4:w'.os = w.os) (h5:w'.tape = w.tape) (h6:w'.output = w.output):Own w0 S0 L2 w' :=
 H.rep hr fun S ⟨_,g2⟩=>⟨S,⟨h1,g2⟩,⟨h4,h5,h6,by omega,fun k _ hn=>h2 k fun e=>hn (e ▸ (g2 d).2 rfl)⟩,fun _ h=>.inl h⟩
theorem zc_len (z:Array Value) (n:Nat):(Builtin.zeroCells z n).toList.length = n * z.size:=by simp [Builtin.zeroCells]
theorem zc_mem {z:Array Value} {n:Nat} {u:Value} (hz:0 < z.size) (h:u∈(Builtin.zeroCells z n).toList):u∈z.toList:=by
 simp only [Builtin.zeroCells,Array.toList_map,List.mem_map] at h
 obtain ⟨i,_,rfl⟩:=h
 rw [getElem!_pos z _ (Nat.mod_lt _ hz)]
 simp
theorem roomZ {L L2:List It} {ta ty e:TypeId} {size bytes:Nat} (hT:appB P ta e size bytes = true) {d n c m c2:Nat} {cur news:List Value} {a:Addr} (H:Own w0 S0 L w) (hr:Rep L (row d cur e) (row d (splice cur (n * size) news) e) L2) (hq:Sl w (some a) news) (hl:news.length = m * size)
 (h1:∀ u∈news,u.oneCell' = true) (hroom:n + m≤c) (hfit:n * size + news.length≤cur.length) {K:Option Addr→Nat→Nat→World→Prop} (k:∀ w',Own w0 S0 L2 w'→K (some ⟨d,0,none⟩) (n + m) c w') :
 runS P (Builtin.append_ #[ta,ta] ty [.slice (some ⟨d,0,none⟩) n c,.slice (some a) m c2].toArray) w K:=by
 obtain ⟨hu,i,z,hi,hz,h2,h3,h4⟩:=appB_out hT
 obtain ⟨F,f1,_⟩:=hr.out
 have hrow:=H.row f1
 subst h2
 have:=run_append_room (P:=P) w ta ty e i hu hi d n c cur.toArray hrow a m c2 news hl (fun j u hj=>by
  obtain ⟨a',ha,hc⟩:=hq j u hj
  cases ha; exact hc) h1 hroom (by simpa using hfit)
 refine ⟨_,_,_,_,this,k _ (row_turn H hr ?_ (fun k hk=>setRow_other w d k _ hk) (by simp [World.setRow]) rfl rfl rfl)⟩
 unfold Row
 rw [setRow_heap w d cur.toArray _ e (0,0) hrow]
 simp [splice]
theorem copyZ {L L2:List It} {dT ty e e':TypeId} {size bytes:Nat} (hT:appB P dT e size bytes = true) {d o dLen dCap sLen c' m:Nat} {cur cs:List Value} {a:Addr} (H:Own w0 S0 L w) (hr:Rep L (row d cur e') (row d (splice cur o cs) e') L2) (hq:Sl w (some a) cs) (hm:m = Nat.min sLen dLen) (hl:cs.length = m * size)
 (hfit:o + cs.length≤cur.length) (h1:∀ v∈cs,v.oneCell' = true) {K:Int→World→Prop} (k:∀ w',Own w0 S0 L2 w'→K m w') :
 runI P (Builtin.copy_ #[dT,dT] ty [.slice (some ⟨d,o,none⟩) dLen dCap,.slice (some a) sLen c'].toArray) w K:=by
 obtain ⟨hu,i,z,hi,hz,h2,h3,h4⟩:=appB_out hT
 obtain ⟨F,f1,_⟩:=hr.out
 have hrow:=H.row f1
 have hld:=run_loadCells_list (P:=P) (w:=w) a cs fun j v hj=>by
  obtain ⟨a',ha,hc⟩:=hq j v hj
  cases ha; exact hc
 have hst:=run_storeCells_at P d o e' cs 0 cur.toArray w hrow (by simpa using hfit) h1
 simp only [Nat.add_zero] at hst
 have:(Builtin.copy_ #[dT,dT] ty #[.slice (some ⟨d,o,none⟩) dLen dCap,.slice (some a) sLen c']).run P w = .ok (goInt m) (w.setRow d (cur.take o ++ cs ++ cur.drop (o + cs.length)).toArray):=by
  rw [hl] at hld
  simp [Builtin.copy_,run_underlying hu,Builtin.lenOf,Builtin.firstCells,sizeOf,typeInfo,hi,h2,← hm,hld]
  simp at hst
  rw [hst]
  rfl
 refine ⟨m,_,this,k _ (row_turn H hr ?_ (fun k hk=>setRow_other w d k _ hk) (by simp [World.setRow]) rfl rfl rfl)⟩
 unfold Row
 rw [setRow_heap w d cur.toArray _ e' (0,0) hrow]
 simp [splice]
theorem clearZ {L:List It} {t ty e:TypeId} {size bytes:Nat} (hT:appB P t e size bytes = true) (hsz:0 < size) {zs:List Value} (hz1:zeroC P e = some zs) (h1:∀ u∈zs,u.oneCell' = true) {d o n c:Nat} {cur:List Value} (H:Own w0 S0 (row d cur e :: L) w) (hfit:o + n * size≤cur.length)
 {K:World→Prop} (k:∀ cs w',cs.length = n * size→Own w0 S0 (row d (splice cur o cs) e :: L) w'→K w'):runV P (Builtin.clear_ #[t] ty [.slice (some ⟨d,o,none⟩) n c].toArray) w fun v w'=>v = undef∧K w':=by
 obtain ⟨hu,i,z',hi,hz,h2,h3,h4⟩:=appB_out hT
 have hzc:z'.cells.toList = zs:=by
  unfold zeroC at hz1
  rw [hi] at hz1
  simp only [hz,Option.map_some,Option.some.injEq] at hz1
  rw [← cellsL_eq]; exact hz1
 have hlen:(Builtin.zeroCells z'.cells n).toList.length = n * size:=by rw [zc_len,h4]
 have hone:∀ v∈(Builtin.zeroCells z'.cells n).toList,v.oneCell' = true:=fun v hv=>h1 v (by rw [← hzc]; exact zc_mem (by rw [h4]; exact hsz) hv)
 have hrow:=H.row .here
 obtain ⟨w',hr,h5,h6,h7,h8,h9,h10⟩:=row_store (P:=P) (cs:=(Builtin.zeroCells z'.cells n).toList) hrow (by rw [hlen]; exact hfit) hone
 have H':=row_turn H .here h5 h6 h7 h8 h9 h10
 cases n with
 | zero =>
  have e0:(Builtin.zeroCells z'.cells 0).toList = []:=List.eq_nil_of_length_eq_zero (by rw [hlen]; simp)
  refine ⟨undef,w,?_,rfl,k [] w (by simp) (by simpa [splice] using H)⟩
  simp [Builtin.clear_,run_underlying hu,undef]
 | succ m =>
  refine ⟨undef,w',?_,rfl,k _ w' hlen H'⟩
  simp [Builtin.clear_,run_underlying hu,zeroValue,typeInfo,hi,hz,hr,undef]
theorem zerosZ {L F:List It} {ta tn ty e:TypeId} {size bytes:Nat} {kn:IntKind} (hT:appB P ta e size bytes = true) (hsz:0 < size) {zs:List Value} (hz1:zeroC P e = some zs) (htn:P.underlying tn = some (.int kn)) {d n c k:Nat} {cur:List Value} {e':TypeId} (H:Own w0 S0 L w) (hp:Pick L (row d cur e') F)
 (hn:n * size≤cur.length) (hk:0 < k) (hg:c < n + k) (hs:n + k≤maxLen) (hb:(n + k) * bytes≤140737488355328) {K:Option Addr→Nat→Nat→World→Prop}
 (hK:∀ b cap cs w',n + k≤cap→cap≤maxLen→cs.length = (cap - n) * size→Own w0 S0 (row b (cur.take (n * size) ++ cs) e :: L) w'→K (some ⟨b,0,none⟩) (n + k) cap w') :
 runS P (Builtin.append_ #[ta,tn] ty [.slice (some ⟨d,0,none⟩) n c,.int .i64 (k:Int)].toArray) w K:=by
 obtain ⟨hu,i,z',hi,hz,h2,h3,h4⟩:=appB_out hT
 have hrow:=H.row hp
 have hold:(Builtin.firstCells i.size n (.slice (some ⟨d,0,none⟩) n c)).run P w.drew = .ok (cur.take (n * size)).toArray w.drew:=by
  refine run_firstCells_some (P:=P) w.drew i.size n ⟨d,0,none⟩ n c (cur.take (n * size)) (by rw [h2]; simp; omega) fun j v hj=>?_
  have hj2:cur[j]? = some v:=by
   rw [List.getElem?_take] at hj
   split at hj
   · exact hj
   · cases hj
  have:w.cell? ⟨d,j,none⟩ = some v:=by rw [hrow.cell]; exact hj2
  rw [add_lit,Nat.zero_add]; exact this
 have hcap:=grownCap_ge w (n + k) c e
 have hcm:=grownCap_le_maxLen w (n + k) c e hs
 have hkb:k * bytes≤(n + k) * bytes:=Nat.mul_le_mul_right _ (by omega)
 have hr:=Lib.run_append_grow_zeros (P:=P) w ta tn ty e i z' .i64 kn hu htn hi hz (some ⟨d,0,none⟩) n c (cur.take (n * size)) hold k hk (by omega) hg (by unfold maxLen at hs; omega) (by rw [h3]; omega)
  (growslice_fits hg (by rw [h3]; exact hb))
 refine ⟨_,_,_,_,hr,hK _ _ ((Builtin.zeroCells z'.cells k).toList ++ (Builtin.zeroCells z'.cells (grownCap w (n + k) c e - (n + k))).toList) _ hcap hcm ?_ ?_⟩
 · rw [List.length_append,zc_len,zc_len,h4,← Nat.add_mul]
   congr 1; omega
 refine H.add (i:=row _ _ _) ((Below.refl _ _).drew.alloc (Nat.le_refl _) _) (S:=fun k=>k = w.heap.size) ⟨?_,fun _=>Iff.rfl⟩ (by rintro k rfl; exact Nat.le_refl _)
 unfold Row
 have:=World.alloc_heap_new w.drew (.cells ((cur.take (n * size)).toArray ++ Builtin.zeroCells z'.cells k ++ Builtin.zeroCells z'.cells (grownCap w (n + k) c e - (n + k))) e)
 rw [show w.drew.heap.size = w.heap.size from rfl] at this
 rw [this]
 congr 2
 apply Array.toList_inj.1
 simp
theorem row_slZ {L F:List It} {d k:Nat} {cur:List Value} {e:TypeId} (H:Own w0 S0 L w) (hp:Pick L (row d cur e) F):Sl w (some ⟨d,k,none⟩) (cur.drop k):=by
 intro j u hj
 refine ⟨_,rfl,?_⟩
 rw [List.getElem?_drop] at hj
 rw [add_lit,(H.row hp).cell]; exact hj
theorem splice_take {cur cs:List Value} {o k:Nat} (h:k≤o) (h2:o≤cur.length):(splice cur o cs).take k = cur.take k:=by
 unfold splice
 rw [List.append_assoc,List.take_append_of_le_length (by rw [List.length_take]; omega),List.take_take,Nat.min_eq_left h]
theorem splice_len {cur cs:List Value} {o:Nat} (h:o + cs.length≤cur.length):(splice cur o cs).length = cur.length:=by
 unfold splice
 simp only [List.length_append,List.length_take,List.length_drop]; omega
theorem row_neZ {L F F2:List It} {a b:Nat} {ca cb:List Value} {ta tb:TypeId} (H:Own w0 S0 L w) (h1:Pick L (row a ca ta) F) (h2:Pick F (row b cb tb) F2):a≠b:=by
 obtain ⟨S,g1,_⟩:=H
 obtain ⟨S1,S2,⟨_,e1⟩,e2,e3,_⟩:=h1.iff.1 g1
 obtain ⟨S3,S4,⟨_,e5⟩,_,_,e6⟩:=h2.iff.1 e2
 rintro rfl
 exact e3 a ((e1 a).2 rfl) ((e6 a).2 (.inl ((e5 a).2 rfl)))
theorem own_slZ {e:TypeId} {size:Nat} {p:Option Addr} {n c:Nat} {xs:List Value}:∀ w S,(own e size (.slice p n c) n xs).h w S→Sl w p xs:=by
 intro w S ⟨h,_⟩ j u hj
 rcases h.2 with ⟨_,e2⟩ | ⟨g,cap,cur,e1,_⟩
 · have hl:=h.1
   rw [e2,Nat.zero_mul] at hl
   rw [List.eq_nil_of_length_eq_zero hl] at hj
   cases hj
 · cases e1
   exact ⟨_,rfl,h.cells (g:=g) rfl j u hj⟩
structure El (P:Program) where
 α:Type
 enc:α→List Value
 z:Nat
 ta:TypeId
 te:TypeId
 bytes:Nat
 zs:List Value
 hT:appB P ta te z bytes = true
 hZ:zeroC P te = some zs
 hz1:∀ u∈zs,u.oneCell' = true
 hlen:∀ x,(enc x).length = z
 h1:∀ x,∀ u∈enc x,u.oneCell' = true
 hz:0 < z
 hb:bytes≤1000
def El.flat (E:El P) (xs:List E.α):List Value:=xs.flatMap E.enc
section
variable {E:El P}
theorem El.flat_cons (x:E.α) (xs:List E.α):E.flat (x :: xs) = E.enc x ++ E.flat xs:=by simp [El.flat]
theorem El.flat_len (xs:List E.α):(E.flat xs).length = xs.length * E.z:=by
 induction xs with
 | nil=>simp [El.flat]
 | cons x xs ih=>rw [El.flat_cons,List.length_append,ih,E.hlen,List.length_cons,Nat.add_mul,Nat.one_mul,Nat.add_comm]
theorem El.flat_app (xs ys:List E.α):E.flat (xs ++ ys) = E.flat xs ++ E.flat ys:=by simp [El.flat]
theorem El.flat_take (xs:List E.α) (i:Nat):(E.flat xs).take (i * E.z) = E.flat (xs.take i):=by
 induction xs generalizing i with
 | nil=>simp [El.flat]
 | cons x xs ih =>
  cases i with
  | zero=>simp [El.flat]
  | succ i =>
   rw [List.take_succ_cons,El.flat_cons,El.flat_cons,← ih,Nat.add_mul,Nat.one_mul,Nat.add_comm,List.take_append,E.hlen,List.take_of_length_le (by rw [E.hlen]; omega)]
   congr 2; omega
theorem El.flat_drop (xs:List E.α) (i:Nat):(E.flat xs).drop (i * E.z) = E.flat (xs.drop i):=by
 induction xs generalizing i with
 | nil=>simp [El.flat]
 | cons x xs ih =>
  cases i with
  | zero=>simp
  | succ i =>
   rw [List.drop_succ_cons,El.flat_cons,← ih,Nat.add_mul,Nat.one_mul,Nat.add_comm,List.drop_append,E.hlen,List.drop_of_length_le (by rw [E.hlen]; omega),List.nil_append]
   congr 1; omega
theorem El.flat_one (xs:List E.α):∀ u∈E.flat xs,u.oneCell' = true:=by
 intro u hu
 obtain ⟨x,_,hx⟩:=List.mem_flatMap.1 hu
 exact E.h1 x u hx
theorem El.flat_nil {xs:List E.α} (h:E.flat xs = []):xs = []:=by
 have:=El.flat_len (E:=E) xs
 rw [h] at this
 have hz:=E.hz
 cases xs with
 | nil=>rfl
 | cons x xs =>
  have h2:=Nat.mul_pos (show 0 < xs.length + 1 by omega) hz
  simp only [List.length_nil,List.length_cons] at this
  exact absurd this (Nat.ne_of_lt h2)
theorem El.flat_get {xs:List E.α} {j i:Nat} {x:E.α} {v:Value} (h:xs[j]? = some x) (hv:(E.enc x)[i]? = some v):(E.flat xs)[j * E.z + i]? = some v:=by
 have hi:=(List.getElem?_eq_some_iff.1 hv).1
 have e:xs.drop j = x :: xs.drop (j + 1):=by
  have hj:=(List.getElem?_eq_some_iff.1 h).1
  rw [List.drop_eq_getElem_cons hj]
  congr 1
  exact (List.getElem?_eq_some_iff.1 h).2
 rw [← List.getElem?_drop,El.flat_drop,e,El.flat_cons,List.getElem?_append_left hi]; exact hv
theorem El.flat_set {xs:List E.α} {j:Nat} {y:E.α} (h:j < xs.length):splice (E.flat xs) (j * E.z) (E.enc y) = E.flat (xs.set j y):=by
 unfold splice
 rw [E.hlen,← Nat.succ_mul,El.flat_take,El.flat_drop,List.set_eq_take_append_cons_drop,if_pos h,El.flat_app,El.flat_cons,List.append_assoc]
abbrev els (E:El P) (p:Option Addr) (c:Nat) (xs:List E.α):It:=own E.te E.z (.slice p xs.length c) xs.length (E.flat xs)
theorem els_open {L F:List It} {p:Option Addr} {c:Nat} {xs:List E.α} (H:Own w0 S0 L w) (hp:Pick L (els E p c xs) F) (hne:xs≠[]) :
 ∃ d rest,p = some ⟨d,0,none⟩∧(E.flat xs ++ rest).length = c * E.z∧xs.length≤c∧c≤maxLen∧Own w0 S0 (row d (E.flat xs ++ rest) E.te :: F) w:=by
 obtain ⟨S,h1,h2⟩:=H
 obtain ⟨S1,S2,⟨g1,g2⟩,h3,h4,h5⟩:=hp.iff.1 h1
 rcases g1.2 with ⟨_,h0⟩ | ⟨d,cap,cur,e1,_,e3,e4,e5,e6,e7⟩
 · exact absurd (List.length_eq_zero_iff.1 h0) hne
 · cases e1
   have e8:cur.toList = E.flat xs ++ cur.toList.drop (xs.length * E.z):=by
    rw [← e7,List.take_append_drop]
   refine ⟨d,cur.toList.drop (xs.length * E.z),rfl,by rw [← e8]; simpa using e6,e4,e5,S,⟨S1,S2,⟨?_,fun k=>?_⟩,h3,h4,h5⟩,h2⟩
   · rw [← e8]; exact e3
   · rw [g2 k]; simp [Value.ownBlock]; exact eq_comm
theorem els_shut {F:List It} {d n c:Nat} {xs:List E.α} {cur:List Value} (H:Own w0 S0 (row d cur E.te :: F) w) (hn:n = xs.length) (hx:cur.take (xs.length * E.z) = E.flat xs) (h1:n≤c) (h2:c≤maxLen) (h3:cur.length = c * E.z):Own w0 S0 (els E (some ⟨d,0,none⟩) c xs :: F) w:=by
 subst hn
 obtain ⟨S,⟨S1,S2,⟨g1,g2⟩,h4,h5,h6⟩,h7⟩:=H
 refine ⟨S,⟨S1,S2,⟨⟨El.flat_len xs,.inr ⟨d,c,cur.toArray,rfl,Nat.zero_le _,g1,h1,h2,by simpa using h3,?_⟩⟩,fun k=>?_⟩,h4,h5,h6⟩,h7⟩
 · simpa using hx
 · rw [g2 k]; simp [Value.ownBlock]; exact eq_comm
end
variable {P:Program} {w w0:World} {S0:Nat→Prop} {E:El P}
theorem slL_lo {d n c z lo:Nat} (h:lo≤n) (hc:n≤c) {K:Option Addr→Nat→Nat→Prop} (k:∀ a,(c≠lo→a = ⟨d,lo * z,none⟩)→K (some a) (n - lo) (c - lo)):slL (some ⟨d,0,none⟩) n c z (some (lo:Int)) none none K:=by
 refine ⟨(by intro x hx; cases hx),(by intro x hx; cases hx),?_,?_⟩
 · intro x hx; cases hx; simp; omega
 simp only [Option.map_some,Option.map_none,Option.getD_some,Option.getD_none,Int.toNat_natCast,Nat.sub_zero]
 by_cases h2:c = lo
 · rw [if_pos h2]; exact k _ fun h=>absurd h2 h
 · rw [if_neg h2,add_lit,Nat.zero_add]; exact k _ fun _=>rfl
theorem slL_hi {d n c z hi:Nat} (h:hi≤c) {K:Option Addr→Nat→Nat→Prop} (k:K (some ⟨d,0,none⟩) hi c):slL (some ⟨d,0,none⟩) n c z none (some (hi:Int)) none K:=by
 refine ⟨(by intro x hx; cases hx),?_,(by intro x hx; cases hx),?_⟩
 · intro x hx; cases hx; simp; omega
 simp only [Option.map_some,Option.map_none,Option.getD_some,Option.getD_none,Int.toNat_natCast,Nat.sub_zero]
 by_cases h2:c = 0
 · rw [if_pos h2]; exact k
 · rw [if_neg h2,add_lit,Nat.zero_mul,Nat.add_zero]; exact k
theorem slL_mid {d n c z lo hi:Nat} (h:lo < hi) (h1:hi≤c) {K:Option Addr→Nat→Nat→Prop} (k:K (some ⟨d,lo * z,none⟩) (hi - lo) (c - lo)):slL (some ⟨d,0,none⟩) n c z (some (lo:Int)) (some (hi:Int)) none K:=by
 refine ⟨(by intro x hx; cases hx),?_,?_,?_⟩
 · intro x hx; cases hx; simp; omega
 · intro x hx; cases hx; simp; omega
 simp only [Option.map_some,Option.map_none,Option.getD_some,Option.getD_none,Int.toNat_natCast,Nat.sub_zero]
 rw [if_neg (by omega),add_lit,Nat.zero_add]; exact k
def cloneG (E:El P) (a0:Option Addr) (a0_n:Nat) (a0_c:Nat) (w:World) (Q:Value→World→Prop):Prop :=
 cnd (Option.isNone a0)
 (Q (.slice none 0 0) w)
 (alc [] E.te w fun b4 w5 =>
 runS P (Builtin.append_ #[E.ta,E.ta] E.ta [.slice (some ⟨b4,0,none⟩) 0 0,.slice a0 a0_n a0_c].toArray) w5 fun p6 l7 c8 w9 =>
 Q (.slice p6 l7 c8) w9)
theorem cloneG_o {L F:List It} {i:It} {p:Option Addr} {c:Nat} {xs:List E.α} (H:Own w0 S0 L w) (hp:Pick L i F) (hi:∀ w S,i.h w S→Sl w p (E.flat xs)) (hl:xs.length * E.bytes≤140737488355328) (hm:xs.length≤maxLen) {Q:Value→World→Prop}
 (k:∀ p' c' w',Own w0 S0 (els E p' c' xs :: L) w'→Q (.slice p' xs.length c') w'):cloneG E p xs.length c w Q:=by
 unfold cloneG
 refine cnd_i (fun h=>?_) fun h=>?_
 · have:p = none:=by cases p <;> simp_all
   subst this
   have:=sl_nil (H.rd hp hi)
   have:=El.flat_nil this
   subst this
   exact k _ _ _ (own_nil H)
 · refine alc_i fun w1 hB1 h1 hs1=>?_
   have hown:w1.ownsRow w.heap.size E.te E.z (.slice (some ⟨w.heap.size,0,none⟩) 0 0) 0 [] :=
    ⟨by simp,.inr ⟨w.heap.size,0,#[],rfl,Nat.le_refl _,h1,Nat.le_refl _,by simp [maxLen],by simp,by simp⟩⟩
   have H1:=own_add H (hB1 _ (Nat.le_refl _)) hown (Nat.le_refl _)
   refine app_o E.hT E.hz H1 .here (H1.rd (i:=i) (.there hp) hi) (El.flat_len xs) (El.flat_one xs) (by rw [Nat.zero_add]; exact hm) (by rw [Nat.zero_add]; exact hl) fun p' c' wx H=>?_
   simp only [Nat.zero_add,List.nil_append] at H ⊢
   exact k _ _ _ H
def deleteG (E:El P) (t0:TypeId) (a0:Option Addr) (a0_n:Nat) (a0_c:Nat) (a1:Int) (a2:Int) (w:World) (Q:Value→World→Prop):Prop :=
 slL a0 a0_n a0_c E.z (some a1) (some a2) (some ((a0_n:Nat):Int)) fun p6 l7 c8 =>
 cnd (a1 == a2)
 (Q (.slice a0 a0_n a0_c) w)
 (drw w fun w9 =>
 slL a0 a0_n a0_c E.z none (some a1) none fun p10 l11 c12 =>
 slL a0 a0_n a0_c E.z (some a2) none none fun p13 l14 c15 =>
 runS P (Builtin.append_ #[E.ta,E.ta] E.ta [.slice p10 l11 c12,.slice p13 l14 c15].toArray) w9 fun p16 l17 c18 w19 =>
 slL p16 l17 c18 E.z (some ((l17:Nat):Int)) (some ((a0_n:Nat):Int)) none fun p20 l21 c22 =>
 runV P (Builtin.clear_ #[E.ta] t0 [.slice p20 l21 c22].toArray) w19 fun v23 w24=>v23 = undef ∧
 Q (.slice p16 l17 c18) w24)
theorem deleteG_o {t0:TypeId} {F:List It} {p:Option Addr} {c:Nat} {xs:List E.α} {i:Nat} (hi:i < xs.length) (H:Own w0 S0 (els E p c xs :: F) w) {Q:Value→World→Prop}
 (k:∀ c' w',Own w0 S0 (els E p c' (xs.eraseIdx i) :: F) w'→Q (.slice p (xs.eraseIdx i).length c') w'):deleteG E t0 p xs.length c (i:Int) (i + 1:Int) w Q:=by
 unfold deleteG
 obtain ⟨d,rest,rfl,hlen,hle,hmx,H⟩:=els_open H .here (by intro e; subst e; simp at hi)
 have hxl:=El.flat_len (E:=E) xs
 have hz:=E.hz
 have m1:i * E.z + E.z = (i + 1) * E.z:=by rw [Nat.add_mul,Nat.one_mul]
 have m2:(i + 1) * E.z≤xs.length * E.z:=Nat.mul_le_mul_right _ hi
 have m3:xs.length * E.z≤c * E.z:=Nat.mul_le_mul_right _ hle
 have m4:(xs.length - (i + 1)) * E.z = xs.length * E.z - (i + 1) * E.z:=Nat.sub_mul ..
 have m5:(xs.length - 1) * E.z = xs.length * E.z - E.z:=by rw [Nat.sub_mul,Nat.one_mul]
 refine ⟨?_,?_,?_,?_⟩
 · intro x hx; cases hx; omega
 · intro x hx; cases hx; simp; omega
 · intro x hx; cases hx; simp; omega
 refine cnd_i (fun h=>by simp at h; omega) fun _=>?_
 refine drw_o H fun w9 H=>?_
 refine slL_hi (by omega) ?_
 refine slL_lo (lo:=i + 1) (by omega) hle fun a2 ha2=>?_
 have hsl:Sl w9 (some a2) ((E.flat xs).drop ((i + 1) * E.z)):=by
  by_cases h:c = i + 1
  · rw [List.drop_eq_nil_of_le (by rw [hxl,show xs.length = i + 1 by omega]; exact Nat.le_refl _)]
    intro j u hj; cases hj
  · rw [ha2 h]
    have:=row_slZ (k:=(i + 1) * E.z) H .here
    intro j u hj
    refine this j u ?_
    have hj':=(List.getElem?_eq_some_iff.1 hj).1
    rw [List.length_drop,hxl] at hj'
    rw [List.drop_append_of_le_length (by omega),List.getElem?_append_left (by rw [List.length_drop]; omega)]
    exact hj
 refine roomZ E.hT H .here hsl (by rw [List.length_drop,hxl]; omega) (fun u hu=>El.flat_one xs u (List.mem_of_mem_drop hu)) (by omega) (by rw [hlen,List.length_drop,hxl]; omega) fun w1 H=>?_
 have hm:i + (xs.length - (i + 1)) = xs.length - 1:=by omega
 rw [hm]
 refine slL_mid (lo:=xs.length - 1) (hi:=xs.length) (by omega) hle ?_
 have hl1:(splice (E.flat xs ++ rest) (i * E.z) ((E.flat xs).drop ((i + 1) * E.z))).length = c * E.z:=by
  rw [splice_len (by rw [hlen,List.length_drop,hxl]; omega),hlen]
 refine clearZ E.hT E.hz E.hZ E.hz1 H (by rw [hl1,show xs.length - (xs.length - 1) = 1 by omega,Nat.one_mul]; omega) fun cs w2 hcs H=>?_
 rw [show xs.length - (xs.length - 1) = 1 by omega,Nat.one_mul] at hcs
 have hel:(xs.eraseIdx i).length = xs.length - 1:=by rw [List.length_eraseIdx,if_pos hi]
 have H2:=els_shut (c:=c) (xs:=xs.eraseIdx i) H hel.symm ?_ (by omega) hmx ?_
 · have:=k c w2 H2
   rw [hel] at this
   exact this
 · rw [hel]
   have e4:E.flat (xs.eraseIdx i) = (E.flat xs).take (i * E.z) ++ (E.flat xs).drop ((i + 1) * E.z):=by
    rw [El.flat_take,El.flat_drop,List.eraseIdx_eq_take_drop_succ,El.flat_app]
   rw [e4,splice_take (by omega) (by rw [hl1]; omega)]
   unfold splice
   rw [List.take_append_of_le_length (l₁:=E.flat xs) (by omega)]
   exact List.take_left' (by simp only [List.length_take,List.length_append,List.length_drop,hxl]; omega)
 · rw [splice_len (by rw [hl1,hcs]; omega),hl1]
def ins {α:Type} (xs:List α) (i:Nat) (x:α):List α:=xs.take i ++ x :: xs.drop i
theorem ins_len {α:Type} {xs:List α} {i:Nat} {x:α} (h:i≤xs.length):(ins xs i x).length = xs.length + 1:=by
 unfold ins; simp; omega
theorem ins_flat (xs:List E.α) (i:Nat) (x:E.α):E.flat (ins xs i x) = (E.flat xs).take (i * E.z) ++ (E.enc x ++ (E.flat xs).drop (i * E.z)):=by
 unfold ins
 rw [El.flat_app,El.flat_cons,El.flat_take,El.flat_drop]
def ovB (P : Program) (fo : FuncId) : Prop := (∃ fn, P.funcs[fo]? = some fn ∧ ((fn.name == "runtime.NumGoroutine") = false ∧ fn.body.isNone = true) ∧ Extern.findNext fn = none ∧ ∃ t, Extern.find fn = some t ∧ ∀ (w : World) (vb o d o' la ca lb cb : Nat) (cur cv : List Value) (tA tB : TypeId), d ≠ vb → Row w d cur tA → Row w vb cv tB → cur ≠ [] → (t [.slice (some ⟨vb, o, none⟩) la ca, .slice (some ⟨d, o', none⟩) lb cb].toArray).run P w = .ok (.bool false) w)
theorem ovB_o {fo:FuncId} (h:ovB P fo) {L E1 E2:List It} {d vb o o' la ca lb cb:Nat} {cur cv:List Value} {tA tB:TypeId} (H:Own w0 S0 L w) (h1:Pick L (row d cur tA) E1) (h2:Pick E1 (row vb cv tB) E2) (hne:cur≠[]) {Q:Value→World→Prop} (hQ:Q (.bool false) w) :
 extX P fo [.slice (some ⟨vb,o,none⟩) la ca,.slice (some ⟨d,o',none⟩) lb cb] w Q:=by
 have hd:=row_neZ H h1 h2
 have hrd:=H.row h1
 have hrv:Row w vb cv tB:=by
  obtain ⟨S,g1,_⟩:=H
  obtain ⟨S1,S2,_,e2,_,_⟩:=h1.iff.1 g1
  obtain ⟨S3,S4,⟨e5,_⟩,_,_,_⟩:=h2.iff.1 e2
  exact e5
 obtain ⟨fn,f1,f2,f3,t,f4,f5⟩:=h
 exact ⟨fn,t,_,w,f1,f2.1,f2.2,f3,f4,f5 w vb o d o' la ca lb cb cur cv tA tB hd hrd hrv hne,hQ⟩
theorem cut_mid2 (a b:It) (F:List It):Cut (a :: b :: F) (a :: F) [b]:=by
 refine .cons .here ?_
 induction F with
 | nil=>exact .nil
 | cons x F ih=>exact .cons (.there .here) ih
theorem cut_mid3 (a b c:It) (F:List It):Cut (a :: b :: c :: F) (a :: F) [b,c]:=by
 refine .cons .here ?_
 induction F with
 | nil=>exact .nil
 | cons x F ih=>exact .cons (.there (.there .here)) ih
def insertG (E:El P) (ti:TypeId) (fo fr:FuncId) (a0:Option Addr) (a0_n:Nat) (a0_c:Nat) (a1:Int) (a2:Option Addr) (a2_n:Nat) (a2_c:Nat) (w:World) (Q:Value→World→Prop):Prop :=
 slL a0 a0_n a0_c E.z (some a1) none none fun p8 l9 c10 =>
 cnd (((a2_n:Nat):Int) == 0)
 (Q (.slice a0 a0_n a0_c) w)
 (cnd (a1 == ((a0_n:Nat):Int))
 (runS P (Builtin.append_ #[E.ta,E.ta] E.ta [.slice a0 a0_n a0_c,.slice a2 a2_n a2_c].toArray) w fun p11 l12 c13 w14 =>
 Q (.slice p11 l12 c13) w14)
 (cnd (decide ((IntKind.i64.wrap (((a0_n:Nat):Int) + ((a2_n:Nat):Int))) > ((a0_c:Nat):Int)))
 (slL a0 a0_n a0_c E.z none (some a1) none fun p15 l16 c17 =>
 runS P (Builtin.append_ #[E.ta,ti] E.ta [.slice p15 l16 c17,.int .i64 (IntKind.i64.wrap ((IntKind.i64.wrap (((a0_n:Nat):Int) + ((a2_n:Nat):Int))) - a1))].toArray) w fun p18 l19 c20 w21 =>
 slL p18 l19 c20 E.z (some a1) none none fun p22 l23 c24 =>
 runI P (Builtin.copy_ #[E.ta,E.ta] ti [.slice p22 l23 c24,.slice a2 a2_n a2_c].toArray) w21 fun n25 w26 =>
 drw w26 fun w27 =>
 slL p18 l19 c20 E.z (some (IntKind.i64.wrap (a1 + ((a2_n:Nat):Int)))) none none fun p28 l29 c30 =>
 slL a0 a0_n a0_c E.z (some a1) none none fun p31 l32 c33 =>
 runI P (Builtin.copy_ #[E.ta,E.ta] ti [.slice p28 l29 c30,.slice p31 l32 c33].toArray) w27 fun n34 w35 =>
 Q (.slice p18 l19 c20) w35)
 (slL a0 a0_n a0_c E.z none (some (IntKind.i64.wrap (((a0_n:Nat):Int) + ((a2_n:Nat):Int)))) none fun p36 l37 c38 =>
 slL p36 l37 c38 E.z (some (IntKind.i64.wrap (a1 + ((a2_n:Nat):Int)))) none none fun p39 l40 c41 =>
 extX P fo [.slice a2 a2_n a2_c,.slice p39 l40 c41] w fun v42 w43 =>
 ∃ b44:Bool,v42 = .bool b44 ∧
 cnd (!b44)
 (drw w43 fun w45 =>
 slL p36 l37 c38 E.z (some (IntKind.i64.wrap (a1 + ((a2_n:Nat):Int)))) none none fun p46 l47 c48 =>
 slL p36 l37 c38 E.z (some a1) none none fun p49 l50 c51 =>
 runI P (Builtin.copy_ #[E.ta,E.ta] ti [.slice p46 l47 c48,.slice p49 l50 c51].toArray) w45 fun n52 w53 =>
 slL p36 l37 c38 E.z (some a1) none none fun p54 l55 c56 =>
 runI P (Builtin.copy_ #[E.ta,E.ta] ti [.slice p54 l55 c56,.slice a2 a2_n a2_c].toArray) w53 fun n57 w58 =>
 Q (.slice p36 l37 c38) w58)
 (slL p36 l37 c38 E.z (some ((a0_n:Nat):Int)) none none fun p59 l60 c61 =>
 runI P (Builtin.copy_ #[E.ta,E.ta] ti [.slice p59 l60 c61,.slice a2 a2_n a2_c].toArray) w43 fun n62 w63 =>
 slL p36 l37 c38 E.z (some a1) none none fun p64 l65 c66 =>
 CV P fr [.slice p64 l65 c66,.int .i64 ((a2_n:Nat):Int)] w63 fun v67 w68 =>
 v67 = .tuple [].toArray ∧
 Q (.slice p36 l37 c38) w68))))
theorem insertG_o {ti:TypeId} {fo fr:FuncId} (hov:ovB P fo) (htn:P.underlying ti = some (.int .i64)) {F:List It} {p:Option Addr} {c i vb:Nat} {xs:List E.α} {x:E.α} {tv:TypeId} (hi:i≤xs.length) (hl:(xs.length + 1) * E.bytes≤140737488355328) (hml:xs.length + 1≤maxLen)
 (H:Own w0 S0 (els E p c xs :: row vb (E.enc x) tv :: F) w) {Q:Value→World→Prop} (k:∀ p' c' w',Own w0 S0 (els E p' c' (ins xs i x) :: F) w'→Q (.slice p' (ins xs i x).length c') w') :
 insertG E ti fo fr p xs.length c (i:Int) (some ⟨vb,0,none⟩) 1 1 w Q:=by
 unfold insertG
 have hil:=ins_len (x:=x) hi
 have hxl:=El.flat_len (E:=E) xs
 have hel:=E.hlen x
 have hz:=E.hz
 have m0:i * E.z + E.z = (i + 1) * E.z:=by rw [Nat.add_mul,Nat.one_mul]
 have m1:i * E.z≤xs.length * E.z:=Nat.mul_le_mul_right _ hi
 have m2:(xs.length - i) * E.z = xs.length * E.z - i * E.z:=Nat.sub_mul ..
 have m3:(xs.length + 1) * E.z = xs.length * E.z + E.z:=by rw [Nat.add_mul,Nat.one_mul]
 unfold maxLen at hml
 have hq:∀ wx L F,Own w0 S0 L wx→Pick L (row vb (E.enc x) tv) F→Sl wx (some ⟨vb,0,none⟩) (E.enc x):=fun wx L F H hp=>row_slZ (k:=0) H hp
 refine ⟨(by intro x hx; cases hx),(by intro x hx; cases hx),?_,?_⟩
 · intro x hx; cases hx; simp; omega
 refine cnd_i (fun h=>by cases h) fun _=>cnd_i (fun h=>?_) fun h=>?_
 · -- behind all
   have h:i = xs.length:=by
                                have:(i:Int) = xs.length:=by simpa using h
                                omega
   refine app_o E.hT hz H .here (hq _ _ _ H (.there .here)) (by rw [hel,Nat.one_mul]) (E.h1 x) (by unfold maxLen; omega) hl fun p' c' w1 H=>?_
   have e:els E p' c' (ins xs i x) = own E.te E.z (.slice p' (xs.length + 1) c') (xs.length + 1) (E.flat xs ++ E.enc x):=by
    unfold els
    rw [hil,ins_flat,h,List.take_of_length_le (by omega),List.drop_eq_nil_of_le (by omega),List.append_nil]
   have:=k p' c' w1 (by rw [e]; exact H.drop (F:=[row vb (E.enc x) tv]) (cut_mid2 _ _ _))
   rw [hil] at this
   exact this
 have hi':i < xs.length:=by
                                have:¬ (i:Int) = xs.length:=by simpa using h
                                omega
 obtain ⟨d,rest,rfl,hlen,hle,hmx,H⟩:=els_open H .here (by intro e; subst e; simp at hi')
 have m4:xs.length * E.z≤c * E.z:=Nat.mul_le_mul_right _ hle
 have m5:(i + 1) * E.z≤xs.length * E.z:=Nat.mul_le_mul_right _ hi'
 have hrl:rest.length = c * E.z - xs.length * E.z:=by rw [List.length_append,hxl] at hlen; omega
 unfold maxLen at hmx
 have e1:IntKind.i64.wrap (((xs.length:Nat):Int) + ((1:Nat):Int)) = ((xs.length + 1:Nat):Int):=by rw [W_id (by omega) (by omega)]; push_cast; rfl
 have e2:IntKind.i64.wrap ((i:Int) + ((1:Nat):Int)) = ((i + 1:Nat):Int):=by rw [W_id (by omega) (by omega)]; push_cast; rfl
 rw [e1,e2]
 have hdl:((E.flat xs).drop (i * E.z)).length = (xs.length - i) * E.z:=by rw [List.length_drop,hxl,m2]
 have hD:∀ wx L F,Own w0 S0 L wx→Pick L (row d (E.flat xs ++ rest) E.te) F→Sl wx (some ⟨d,i * E.z,none⟩) ((E.flat xs).drop (i * E.z)):=by
  intro wx L F H hp j u hj
  have:=row_slZ (k:=i * E.z) H hp
  refine this j u ?_
  have hj':=(List.getElem?_eq_some_iff.1 hj).1
  rw [hdl] at hj'
  rw [List.drop_append_of_le_length (by omega),List.getElem?_append_left (by rw [hdl]; omega)]
  exact hj
 have done:∀ v∈(E.flat xs).drop (i * E.z),v.oneCell' = true:=fun u hu=>El.flat_one xs u (List.mem_of_mem_drop hu)
 have htk:(E.flat xs ++ rest).take (i * E.z) = (E.flat xs).take (i * E.z):=List.take_append_of_le_length (by omega)
 have hdn:(E.flat xs).drop (i * E.z)≠[]:=by
  intro e
  rw [e,m2] at hdl
  simp at hdl
  omega
 refine cnd_i (fun hc=>?_) fun hc=>?_
 · -- no room
   have hc:=of_decide_eq_true hc
   refine slL_hi (by omega) ?_
   have e3:IntKind.i64.wrap (((xs.length + 1:Nat):Int) - (i:Int)) = ((xs.length + 1 - i:Nat):Int):=by rw [W_id (by omega) (by omega)]; omega
   rw [e3]
   have e7:i + (xs.length + 1 - i) = (ins xs i x).length:=by omega
   refine zerosZ E.hT hz E.hZ htn H .here (by rw [hlen]; omega) (by omega) (by omega) (by unfold maxLen; omega) (by rw [show i + (xs.length + 1 - i) = xs.length + 1 by omega]; exact hl) fun b cap cs w1 h1 h2 hcs H=>?_
   rw [htk] at H
   have m6:(cap - i) * E.z = cap * E.z - i * E.z:=Nat.sub_mul ..
   have m7:(xs.length + 1) * E.z≤cap * E.z:=Nat.mul_le_mul_right _ (by omega)
   have hbl:((E.flat xs).take (i * E.z) ++ cs).length = cap * E.z:=by
    rw [List.length_append,List.length_take,hxl,hcs]; omega
   refine slL_lo (lo:=i) (by omega) (by omega) fun a ha=>?_
   rw [ha (by omega)]
   refine copyZ (m:=1) E.hT H .here (hq _ _ _ H (.there (.there .here))) (by simp only [Nat.min_def]; split <;> omega) (by rw [hel,Nat.one_mul]) (by rw [hbl,hel]; omega) (E.h1 x) fun w2 H=>?_
   have hbl2:(splice ((E.flat xs).take (i * E.z) ++ cs) (i * E.z) (E.enc x)).length = cap * E.z:=by rw [splice_len (by rw [hbl,hel]; omega),hbl]
   refine drw_o H fun w3 H=>?_
   refine slL_lo (lo:=i + 1) (by omega) (by omega) fun a ha=>?_
   rw [ha (by omega)]
   refine slL_lo (lo:=i) (by omega) (by omega) fun a ha=>?_
   rw [ha (by omega)]
   refine copyZ (m:=xs.length - i) E.hT H .here (hD _ _ _ H (.there .here)) (by simp only [Nat.min_def]; split <;> omega) hdl (by rw [hbl2,hdl]; omega) done fun w4 H=>?_
   have hx1:(splice (splice ((E.flat xs).take (i * E.z) ++ cs) (i * E.z) (E.enc x)) ((i + 1) * E.z) ((E.flat xs).drop (i * E.z))).take ((ins xs i x).length * E.z) = E.flat (ins xs i x):=by
    have e6:((E.flat xs).take (i * E.z) ++ cs).take (i * E.z) = (E.flat xs).take (i * E.z):=List.take_left' (by rw [List.length_take,hxl]; omega)
    have e4:(splice ((E.flat xs).take (i * E.z) ++ cs) (i * E.z) (E.enc x)).take ((i + 1) * E.z) = (E.flat xs).take (i * E.z) ++ E.enc x:=by
     unfold splice
     rw [e6]
     exact List.take_left' (by rw [List.length_append,List.length_take,hxl,hel]; omega)
    generalize splice ((E.flat xs).take (i * E.z) ++ cs) (i * E.z) (E.enc x) = M at e4 hbl2 ⊢
    have e5:splice M ((i + 1) * E.z) ((E.flat xs).drop (i * E.z)) = E.flat (ins xs i x) ++ M.drop ((i + 1) * E.z + ((E.flat xs).drop (i * E.z)).length):=by
     rw [ins_flat]
     show M.take ((i + 1) * E.z) ++ (E.flat xs).drop (i * E.z) ++ M.drop ((i + 1) * E.z + ((E.flat xs).drop (i * E.z)).length) = _
     rw [e4]; simp
    rw [e5]
    exact List.take_left' (by rw [El.flat_len])
   have H2:=els_shut (c:=cap) (xs:=ins xs i x) H rfl hx1 (by omega) h2 (by rw [splice_len (by rw [hbl2,hdl]; omega),hbl2])
   rw [e7]
   exact k _ cap _ (H2.drop (F:=[row d (E.flat xs ++ rest) E.te,row vb (E.enc x) tv]) (cut_mid3 _ _ _ _))
 · -- room
   have hc:=of_decide_eq_false hc
   have m6:(xs.length + 1) * E.z≤c * E.z:=Nat.mul_le_mul_right _ (by omega)
   refine slL_hi (by omega) ?_
   refine slL_lo (lo:=i + 1) (by omega) (by omega) fun a ha=>?_
   obtain ⟨o',ea⟩:∃ o',a = ⟨d,o',none⟩:=by
    by_cases h:c = i + 1
    · omega
    · exact ⟨_,ha h⟩
   subst ea
   refine ovB_o hov H .here .here (by intro e; rw [e] at hlen; simp at hlen; omega) ⟨_,rfl,cnd_i (fun _=>?_) (fun h=>by cases h)⟩
   refine drw_o H fun w3 H=>?_
   refine slL_lo (lo:=i + 1) (by omega) (by omega) fun a ha=>?_
   rw [ha (by omega)]
   refine slL_lo (lo:=i) (by omega) (by omega) fun a ha=>?_
   rw [ha (by omega)]
   refine copyZ (m:=xs.length - i) E.hT H .here (hD _ _ _ H .here) (by simp only [Nat.min_def]; split <;> omega) hdl (by rw [hdl,hlen]; omega) done fun w1 H=>?_
   refine slL_lo (lo:=i) (by omega) (by omega) fun a ha=>?_
   rw [ha (by omega)]
   have hsl1:(splice (E.flat xs ++ rest) ((i + 1) * E.z) ((E.flat xs).drop (i * E.z))).length = c * E.z:=by rw [splice_len (by rw [hdl,hlen]; omega),hlen]
   refine copyZ (m:=1) E.hT H .here (hq _ _ _ H (.there .here)) (by simp only [Nat.min_def]; split <;> omega) (by rw [hel,Nat.one_mul]) (by rw [hsl1,hel]; omega) (E.h1 x) fun w2 H=>?_
   have hx1:(splice (splice (E.flat xs ++ rest) ((i + 1) * E.z) ((E.flat xs).drop (i * E.z))) (i * E.z) (E.enc x)).take ((ins xs i x).length * E.z) = E.flat (ins xs i x):=by
    have g1:(splice (E.flat xs ++ rest) ((i + 1) * E.z) ((E.flat xs).drop (i * E.z))).take (i * E.z) = (E.flat xs).take (i * E.z):=by rw [splice_take (by omega) (by rw [hlen]; omega),htk]
    have g2:(splice (E.flat xs ++ rest) ((i + 1) * E.z) ((E.flat xs).drop (i * E.z))).drop ((i + 1) * E.z) = (E.flat xs).drop (i * E.z) ++ (E.flat xs ++ rest).drop ((i + 1) * E.z + ((E.flat xs).drop (i * E.z)).length):=by
     unfold splice
     rw [List.append_assoc]
     exact List.drop_left' (by rw [List.length_take,hlen]; omega)
    generalize splice (E.flat xs ++ rest) ((i + 1) * E.z) ((E.flat xs).drop (i * E.z)) = M at g1 g2 ⊢
    have e5:splice M (i * E.z) (E.enc x) = E.flat (ins xs i x) ++ (E.flat xs ++ rest).drop ((i + 1) * E.z + ((E.flat xs).drop (i * E.z)).length):=by
     rw [ins_flat]
     show M.take (i * E.z) ++ E.enc x ++ M.drop (i * E.z + (E.enc x).length) = _
     rw [g1,hel,m0,g2]; simp
    rw [e5]
    exact List.take_left' (by rw [El.flat_len])
   have H2:=els_shut (c:=c) (xs:=ins xs i x) H rfl hx1 (by omega) (by unfold maxLen; omega) (by rw [splice_len (by rw [hsl1,hel]; omega),hsl1])
   have:=k _ c _ (H2.drop (F:=[row vb (E.enc x) tv]) (cut_mid2 _ _ _))
   rw [hil] at this
   exact this
variable {P:Program} {w w0:World} {S0:Nat→Prop}
theorem tri_plain {f:FuncId} {args:List Value} {V:Value} (h:∀ w,CV P f args w fun v w'=>v = V∧Below w.heap.size w w'):Tri P f args [] fun v L'=>v = V∧L' = []:=Tri.of_pure fun w _ _=>h w
end Go.Proofs.YtidcijbnbdemeaaGreat.X
namespace Go.Proofs.YtidcijbnbdemeaaGreat
open Go X
abbrev zI (n:Int):Value:=.int .i64 n
abbrev ldi (b i:Nat) (w:World) (K:Int→Prop):Prop:=ldI .i64 ⟨b,i,none⟩ w K
abbrev zldB (b i:Nat) (w:World) (K:Bool→Prop):Prop:=ldB ⟨b,i,none⟩ w K
abbrev zldL (b i:Nat) (w:World) (K:Option Addr→Nat→Nat→Prop):Prop:=ldL ⟨b,i,none⟩ w K
abbrev zldP (b i:Nat) (w:World) (K:Option Addr→Prop):Prop:=ldP ⟨b,i,none⟩ w K
abbrev zldS (b i:Nat) (w:World) (K:ByteArray→Prop):Prop:=ldS ⟨b,i,none⟩ w K
abbrev sto (v:Value) (b i:Nat) (w:World) (K:World→Prop):Prop:=st1 v ⟨b,i,none⟩ w K
section
def spU:LSp where
 S:=Unit
 emb:=fun _=>[]
 ext:=fun _=>some ()
 slots:=[]
 fits:=fun _=>rfl
 ok:=by intro t s h x hx; cases hx
def spB (i:Nat):LSp where
 S:=Bool
 emb:=fun s=>[(i,.bool s)]
 ext:=fun t=>match getL t i with
  | some (.bool y)=>some y
  | _=>none
 slots:=[i]
 fits:=fun _=>rfl
 ok:=by
  intro t s h x hx
  (try dsimp only at h hx)
  split at h
  · cases h
    simp only [List.mem_cons,List.not_mem_nil,or_false] at hx
    rcases hx with rfl <;> assumption
  · cases h
def spI (k:IntKind) (i:Nat):LSp where
 S:=Int
 emb:=fun s=>[(i,.int k s)]
 ext:=fun t=>match getL t i with
  | some (.int j y)=>if j = k then some y else none
  | _=>none
 slots:=[i]
 fits:=fun _=>rfl
 ok:=by
  intro t s h x hx
  (try dsimp only at h hx)
  split at h
  · split at h
    · rename_i e
      subst e
      cases h
      simp only [List.mem_cons,List.not_mem_nil,or_false] at hx
      rcases hx with rfl <;> assumption
    · cases h
  · cases h
def spL (i:Nat):LSp where
 S:=(Option Addr×Nat×Nat)
 emb:=fun s=>[(i,.slice s.1 s.2.1 s.2.2)]
 ext:=fun t=>match getL t i with
  | some (.slice p n c)=>some (p,n,c)
  | _=>none
 slots:=[i]
 fits:=fun _=>rfl
 ok:=by
  intro t s h x hx
  (try dsimp only at h hx)
  split at h
  · cases h
    simp only [List.mem_cons,List.not_mem_nil,or_false] at hx
    rcases hx with rfl <;> assumption
  · cases h
def spII (k:IntKind) (i:Nat) (k2:IntKind) (i2:Nat):LSp where
 S:=Int×Int
 emb:=fun s=>[(i,.int k s.1),(i2,.int k2 s.2)]
 ext:=fun t=>match getL t i,getL t i2 with
  | some (.int j y),some (.int j2 y2)=>if j = k∧j2 = k2 then some (y,y2) else none
  | _,_=>none
 slots:=[i,i2]
 fits:=fun _=>rfl
 ok:=by
  intro t s h x hx
  (try dsimp only at h hx)
  split at h
  · split at h
    · rename_i e
      obtain ⟨rfl,rfl⟩:=e
      cases h
      simp only [List.mem_cons,List.not_mem_nil,or_false] at hx
      rcases hx with rfl | rfl <;> assumption
    · cases h
  · cases h
end
noncomputable abbrev P:Program:=Tryz.prog
theorem mixed:P.follows .mixedOrders = true:=Checked.mixed Tryz.checked
abbrev F.zzco:FuncId:=8
abbrev F.zzcq:FuncId:=9
abbrev F.zzbH:FuncId:=11
abbrev F.zzaz:FuncId:=12
abbrev F.zzdt:FuncId:=13
abbrev F.zzdu:FuncId:=14
abbrev F.zzcr:FuncId:=15
abbrev F.zzcf:FuncId:=16
abbrev F.zzdv:FuncId:=17
abbrev F.zzb2:FuncId:=18
abbrev F.zzcs:FuncId:=19
abbrev F.zzdw:FuncId:=20
abbrev F.zzcR:FuncId:=21
abbrev F.zzb3:FuncId:=22
abbrev F.zzgK:FuncId:=23
abbrev F.zzaV:FuncId:=24
abbrev F.zzaa:FuncId:=25
abbrev F.zzah:FuncId:=26
abbrev F.zza5:FuncId:=27
abbrev F.zzeK:FuncId:=28
abbrev F.zzaO:FuncId:=29
abbrev F.zzdx:FuncId:=30
abbrev F.zzdy:FuncId:=31
abbrev F.zzb4:FuncId:=32
abbrev F.zzdz:FuncId:=33
abbrev F.zzcS:FuncId:=34
abbrev F.zzbm:FuncId:=35
abbrev F.zzct:FuncId:=36
abbrev F.zzcu:FuncId:=37
abbrev F.zzgL:FuncId:=38
abbrev F.zzgM:FuncId:=39
abbrev F.zzcv:FuncId:=40
abbrev F.zzbs:FuncId:=41
abbrev F.zzdA:FuncId:=42
abbrev F.zzcw:FuncId:=43
abbrev F.zzcx:FuncId:=44
abbrev F.zzaX:FuncId:=45
abbrev F.zzaH:FuncId:=46
abbrev F.zzan:FuncId:=47
abbrev F.zzao:FuncId:=48
abbrev F.zzaB:FuncId:=49
abbrev F.zzbn:FuncId:=50
abbrev F.zzbt:FuncId:=51
abbrev F.zzbu:FuncId:=52
abbrev F.zzdr:FuncId:=53
abbrev F.zzbv:FuncId:=54
abbrev F.zzbb:FuncId:=55
abbrev F.zzbg:FuncId:=56
abbrev F.zzeq:FuncId:=57
abbrev F.zzbw:FuncId:=58
abbrev F.zzaJ:FuncId:=59
abbrev F.zzbx:FuncId:=60
abbrev F.zzcy:FuncId:=61
abbrev F.zzac:FuncId:=62
abbrev F.zzaL:FuncId:=63
abbrev F.zzg0:FuncId:=64
abbrev F.zzeL:FuncId:=65
abbrev F.zziN:FuncId:=66
abbrev F.zzbh:FuncId:=67
abbrev F.zzat:FuncId:=68
abbrev F.zzbo:FuncId:=69
abbrev F.zzay:FuncId:=70
abbrev F.zza6:FuncId:=71
abbrev F.zza7:FuncId:=72
abbrev F.zzaY:FuncId:=73
abbrev F.zzbc:FuncId:=74
abbrev F.zzaF:FuncId:=75
abbrev F.zzau:FuncId:=76
abbrev F.zzaZ:FuncId:=77
abbrev F.zzer:FuncId:=78
abbrev F.zzhD:FuncId:=79
abbrev F.zzdB:FuncId:=80
abbrev F.zzg1:FuncId:=81
abbrev F.zzhE:FuncId:=82
abbrev F.zzhF:FuncId:=83
abbrev F.zzg2:FuncId:=84
abbrev F.zzci:FuncId:=85
abbrev F.zziO:FuncId:=86
abbrev F.zzar:FuncId:=87
abbrev F.zzaP:FuncId:=88
abbrev F.zzal:FuncId:=89
abbrev F.zzad:FuncId:=90
abbrev F.zzae:FuncId:=91
abbrev F.zzak:FuncId:=92
abbrev F.zza9:FuncId:=93
abbrev F.zzby:FuncId:=94
abbrev F.zzaD:FuncId:=95
abbrev F.zzbz:FuncId:=96
abbrev F.zzaQ:FuncId:=97
abbrev F.zza8:FuncId:=98
abbrev F.zzbi:FuncId:=99
abbrev F.zzcz:FuncId:=100
abbrev F.zzaR:FuncId:=101
abbrev F.zzav:FuncId:=102
abbrev F.zzcZ:FuncId:=103
abbrev F.zzbj:FuncId:=104
abbrev F.zzbk:FuncId:=105
abbrev F.zzcA:FuncId:=106
abbrev F.zzb5:FuncId:=107
abbrev F.zzaM:FuncId:=108
abbrev F.zzaw:FuncId:=109
abbrev F.zzaS:FuncId:=110
abbrev F.zzcB:FuncId:=111
abbrev F.cmp_Less_int:FuncId:=112
abbrev F.zzbP:FuncId:=113
abbrev F.zza3:FuncId:=114
abbrev F.zzaC:FuncId:=115
abbrev F.zzax:FuncId:=116
abbrev F.zzaj:FuncId:=117
abbrev F.zzaf:FuncId:=118
abbrev F.zzdE:FuncId:=119
abbrev F.zzfV:FuncId:=120
abbrev F.zziR:FuncId:=121
abbrev F.zzcT:FuncId:=122
abbrev F.zzai:FuncId:=123
abbrev F.zze5:FuncId:=124
abbrev F.zzee:FuncId:=125
abbrev F.zzcO:FuncId:=126
abbrev F.zzb6:FuncId:=127
abbrev F.zzbD:FuncId:=128
abbrev F.zzbQ:FuncId:=129
abbrev F.zzcg:FuncId:=130
abbrev F.zzap:FuncId:=131
abbrev F.zzas:FuncId:=132
abbrev F.zzaW:FuncId:=133
abbrev F.zzaE:FuncId:=134
abbrev F.zzba:FuncId:=135
abbrev F.zzaK:FuncId:=136
abbrev F.zzbA:FuncId:=137
abbrev F.zzcU:FuncId:=138
abbrev F.zzcV:FuncId:=139
abbrev F.zzdC:FuncId:=140
abbrev F.zzcW:FuncId:=141
abbrev F.zzcC:FuncId:=142
abbrev F.cmp_isNaN_int:FuncId:=143
abbrev F.zzam:FuncId:=144
abbrev F.zzaq:FuncId:=145
abbrev F.zzda:FuncId:=146
abbrev F.zzcD:FuncId:=147
abbrev F.zzes:FuncId:=148
abbrev F.zziP:FuncId:=149
abbrev F.zzg3:FuncId:=150
abbrev F.zzen:FuncId:=151
abbrev F.zzaT:FuncId:=152
abbrev F.zzdD:FuncId:=153
abbrev F.zzbp:FuncId:=154
abbrev F.zzcE:FuncId:=155
abbrev F.zzbK:FuncId:=156
abbrev F.zzch:FuncId:=157
abbrev F.zzeJ:FuncId:=158
abbrev F.zziQ:FuncId:=159
abbrev F.zzck:FuncId:=160
abbrev F.zzaG:FuncId:=161
abbrev F.zzcF:FuncId:=162
abbrev F.zzcX:FuncId:=163
abbrev F.zzaN:FuncId:=164
abbrev T.t0:TypeId:=0
abbrev T.t3:TypeId:=3
abbrev T.t4:TypeId:=4
abbrev T.t22:TypeId:=22
abbrev T.t24:TypeId:=24
abbrev T.t26:TypeId:=26
abbrev T.t30:TypeId:=30
abbrev T.t33:TypeId:=33
abbrev T.t35:TypeId:=35
abbrev T.t38:TypeId:=38
abbrev T.t40:TypeId:=40
abbrev T.t44:TypeId:=44
abbrev T.t48:TypeId:=48
abbrev T.t55:TypeId:=55
abbrev T.t68:TypeId:=68
abbrev T.t73:TypeId:=73
abbrev T.t74:TypeId:=74
abbrev T.t77:TypeId:=77
abbrev T.t80:TypeId:=80
abbrev T.t84:TypeId:=84
abbrev T.t90:TypeId:=90
abbrev T.t100:TypeId:=100
abbrev T.t120:TypeId:=120
abbrev T.t121:TypeId:=121
abbrev T.t123:TypeId:=123
abbrev T.t131:TypeId:=131
abbrev T.t134:TypeId:=134
abbrev T.t137:TypeId:=137
abbrev T.t139:TypeId:=139
abbrev T.t140:TypeId:=140
abbrev T.t142:TypeId:=142
abbrev T.t147:TypeId:=147
abbrev T.t161:TypeId:=161
abbrev T.t167:TypeId:=167
abbrev T.t177:TypeId:=177
abbrev T.t180:TypeId:=180
abbrev T.t195:TypeId:=195
abbrev T.t199:TypeId:=199
abbrev T.t210:TypeId:=210
abbrev T.t215:TypeId:=215
abbrev T.t219:TypeId:=219
abbrev T.t244:TypeId:=244
def zzd0:LSp:=spB 32
def zzaU:LSp:=spI .i64 12
def zzc0:LSp:=spU
def zzc1:LSp:=spB 89
def zzcP:LSp:=spI .i64 92
def zzgy (Q:Value→World→Prop) (b33:Nat) (n53:Int) (A55:zzaU.S→World→Prop) (b71 b90:Nat) (n93:Int) (w:World) (A95:zzcP.S→World→Prop):Prop:=cnd (decide (n93 < ((3:Nat):Int))) (ix n93 3 fun j96=>ldI .i64 (Addr.add ⟨b90,0,none⟩ (j96 * 1)) w fun n97=>zldP b33 0 w fun p98=>zldP b33 1 w fun p99=>ldi b33 2 w fun n100=>ldi b33 3 w fun n101=>ldi b33 4 w fun n102=>ldi b33 5 w fun n103=>zldL b33 6 w fun p104 l105 c106=>zldP b33 7 w fun p107=>zldP b33 8 w fun p108=>ldi b33 9 w fun n109=>ldi b33 10 w fun n110=>ldi b33 11 w fun n111=>ldi b33 12 w fun n112=>zldL b33 13 w fun p113 l114 c115=>ldi b71 2 w fun n116=>ldi b71 3 w fun n117=>ldi b71 4 w fun n118=>ldi b71 5 w fun n119=>ldi b71 6 w fun n120=>ldi b71 7 w fun n121=>ldi b71 8 w fun n122=>ldi b71 9 w fun n123=>zldB b71 10 w fun b124=>CV P F.zzb3 [.agg [.pointer p98,.pointer p99,zI n100,zI n101,zI n102,zI n103,.slice p104 l105 c106,.pointer p107,.pointer p108,zI n109,zI n110,zI n111,zI n112,.slice p113 l114 c115].toArray,.agg [zI 0,zI n97,zI n116,zI n117,zI n118,zI n119,zI n120,zI n121,zI n122,zI n123,.bool b124,.bool true,.int .u64 0].toArray] w fun v125 w=>∃ b127:Bool,v125 = .bool b127∧cnd (!b127) (Q (.bool false) w) (A95 (((IntKind.i64.wrap (n93 + 1)):Int)) w)) (A55 (((IntKind.i64.wrap (n53 + 1)):Int)) w)
def zzgz (Q:Value→World→Prop) (b33:Nat) (n53:Int) (A55:zzaU.S→World→Prop) (b71:Nat) (b88:Bool) (w:World):Prop:=cnd b88 (Q (.bool false) w) (alc [zI 128,zI 136,zI 144] T.t3 w fun b90 w=>LoopT (fun (s128:zzcP.S) w A130=>zzgy Q b33 n53 A55 b71 b90 s128 w A130) ((0:Int)) w)
def zzef (Q:Value→World→Prop) (b33:Nat) (n53:Int) (A55:zzaU.S→World→Prop) (b71:Nat) (w:World):Prop:=JoinT (fun (J131:zzc1.S→World→Prop)=>zldP b33 0 w fun p132=>zldP b33 1 w fun p133=>ldi b33 2 w fun n134=>ldi b33 3 w fun n135=>ldi b33 4 w fun n136=>ldi b33 5 w fun n137=>zldL b33 6 w fun p138 l139 c140=>zldP b33 7 w fun p141=>zldP b33 8 w fun p142=>ldi b33 9 w fun n143=>ldi b33 10 w fun n144=>ldi b33 11 w fun n145=>ldi b33 12 w fun n146=>zldL b33 13 w fun p147 l148 c149=>ldi b71 0 w fun n150=>ldi b71 1 w fun n151=>ldi b71 2 w fun n152=>ldi b71 3 w fun n153=>ldi b71 4 w fun n154=>ldi b71 5 w fun n155=>ldi b71 6 w fun n156=>ldi b71 7 w fun n157=>ldi b71 8 w fun n158=>ldi b71 9 w fun n159=>zldB b71 10 w fun b160=>zldB b71 11 w fun b161=>ldI .u64 ⟨b71,12,none⟩ w fun n162=>CV P F.zzcR [.agg [.pointer p132,.pointer p133,zI n134,zI n135,zI n136,zI n137,.slice p138 l139 c140,.pointer p141,.pointer p142,zI n143,zI n144,zI n145,zI n146,.slice p147 l148 c149].toArray,.agg [zI n150,zI n151,zI n152,zI n153,zI n154,zI n155,zI n156,zI n157,zI n158,zI n159,.bool b160,.bool b161,.int .u64 n162].toArray] w fun v163 w=>∃ b165:Bool,v163 = .bool b165∧cnd (!b165) (J131 true w) (zldP b33 0 w fun p166=>zldP b33 1 w fun p167=>ldi b33 2 w fun n168=>ldi b33 3 w fun n169=>ldi b33 4 w fun n170=>ldi b33 5 w fun n171=>zldL b33 6 w fun p172 l173 c174=>zldP b33 7 w fun p175=>zldP b33 8 w fun p176=>ldi b33 9 w fun n177=>ldi b33 10 w fun n178=>ldi b33 11 w fun n179=>ldi b33 12 w fun n180=>zldL b33 13 w fun p181 l182 c183=>ldi b71 0 w fun n184=>ldi b71 1 w fun n185=>ldi b71 2 w fun n186=>ldi b71 3 w fun n187=>ldi b71 4 w fun n188=>ldi b71 5 w fun n189=>ldi b71 6 w fun n190=>ldi b71 7 w fun n191=>ldi b71 8 w fun n192=>ldi b71 9 w fun n193=>zldB b71 10 w fun b194=>zldB b71 11 w fun b195=>ldI .u64 ⟨b71,12,none⟩ w fun n196=>CV P F.zzb3 [.agg [.pointer p166,.pointer p167,zI n168,zI n169,zI n170,zI n171,.slice p172 l173 c174,.pointer p175,.pointer p176,zI n177,zI n178,zI n179,zI n180,.slice p181 l182 c183].toArray,.agg [zI n184,zI n185,zI n186,zI n187,zI n188,zI n189,zI n190,zI n191,zI n192,zI n193,.bool b194,.bool b195,.int .u64 n196].toArray] w fun v197 w=>∃ b199:Bool,v197 = .bool b199∧J131 (((!b199):Bool)) w)) fun (s200:zzc1.S) w=>zzgz Q b33 n53 A55 b71 s200 w
def zzgA (a3:Option Addr) (a3_n:Nat) (Q:Value→World→Prop) (b33:Nat) (n53:Int) (w:World) (A55:zzaU.S→World→Prop):Prop:=cnd (decide (n53 < ((a3_n:Nat):Int))) (ix n53 a3_n fun j56=>nn a3 fun a57=>ldI .i64 (a57.add (j56 * 13)) w fun n58=>ldI .i64 ((a57.add (j56 * 13)).add 1) w fun n59=>ldI .i64 ((a57.add (j56 * 13)).add 2) w fun n60=>ldI .i64 ((a57.add (j56 * 13)).add 3) w fun n61=>ldI .i64 ((a57.add (j56 * 13)).add 4) w fun n62=>ldI .i64 ((a57.add (j56 * 13)).add 5) w fun n63=>ldI .i64 ((a57.add (j56 * 13)).add 6) w fun n64=>ldI .i64 ((a57.add (j56 * 13)).add 7) w fun n65=>ldI .i64 ((a57.add (j56 * 13)).add 8) w fun n66=>ldI .i64 ((a57.add (j56 * 13)).add 9) w fun n67=>ldB ((a57.add (j56 * 13)).add 10) w fun b68=>ldB ((a57.add (j56 * 13)).add 11) w fun b69=>ldI .u64 ((a57.add (j56 * 13)).add 12) w fun n70=>alc [zI 0,zI 0,zI 0,zI 0,zI 0,zI 0,zI 0,zI 0,zI 0,zI 0,.bool false,.bool false,.int .u64 0] T.t68 w fun b71 w=>sto (zI n58) b71 0 w fun w=>sto (zI n59) b71 1 w fun w=>sto (zI n60) b71 2 w fun w=>sto (zI n61) b71 3 w fun w=>sto (zI n62) b71 4 w fun w=>sto (zI n63) b71 5 w fun w=>sto (zI n64) b71 6 w fun w=>sto (zI n65) b71 7 w fun w=>sto (zI n66) b71 8 w fun w=>sto (zI n67) b71 9 w fun w=>sto (.bool b68) b71 10 w fun w=>sto (.bool b69) b71 11 w fun w=>sto (.int .u64 n70) b71 12 w fun w=>JoinT (fun (J202:zzc0.S→World→Prop)=>ldi b71 0 w fun n203=>cnd (n203 == 5) (zldP b33 0 w fun p204=>CV P F.zzdw [.pointer p204] w fun v205 w=>∃ p207:Option Addr,v205 = .pointer p207∧cnd (Option.isNone p207) (Q (.bool false) w) (zldP b33 0 w fun p208=>ldi b71 2 w fun n209=>ldi b71 3 w fun n210=>ldi b71 4 w fun n211=>ldi b71 5 w fun n212=>ldi b71 6 w fun n213=>ldi b71 7 w fun n214=>ldi b71 8 w fun n215=>ldi b71 9 w fun n216=>zldB b71 10 w fun b217=>ldi b33 2 w fun n218=>ldi b33 3 w fun n219=>ldi b33 4 w fun n220=>ldi b33 5 w fun n221=>zldL b33 6 w fun p222 l223 c224=>CV P F.zzaz [.pointer p208,.agg [zI n209,zI n210,zI n211,zI n212,zI n213,zI n214,zI n215,zI n216,.bool b217].toArray,.agg [zI n218,zI n219,zI n220,zI n221,.slice p222 l223 c224].toArray] w fun v225 w=>∃ (p227:Option Addr) (l228 c229:Nat),∃ n230:Int,v225 = .tuple [.slice p227 l228 c229,zI n230].toArray∧zldP b33 0 w fun p231=>zldB b71 11 w fun b232=>ldi b33 2 w fun n233=>ldi b33 3 w fun n234=>ldi b33 4 w fun n235=>ldi b33 5 w fun n236=>zldL b33 6 w fun p237 l238 c239=>CV P F.zzaz [.pointer p231,.agg [zI 9,zI 0,zI 0,zI 0,zI 1,zI 0,zI 0,zI 0,.bool b232].toArray,.agg [zI n233,zI n234,zI n235,zI n236,.slice p237 l238 c239].toArray] w fun v240 w=>∃ (p242:Option Addr) (l243 c244:Nat),∃ n245:Int,v240 = .tuple [.slice p242 l243 c244,zI n245].toArray∧zldP b33 0 w fun p246=>ldi b33 2 w fun n247=>ldi b33 3 w fun n248=>ldi b33 4 w fun n249=>ldi b33 5 w fun n250=>zldL b33 6 w fun p251 l252 c253=>CV P F.zzb2 [.pointer p246,zI 0,zI 4,.int .u64 1,.agg [zI n247,zI n248,zI n249,zI n250,.slice p251 l252 c253].toArray] w fun v254 w=>∃ n256:Int,v254 = zI n256∧zldP b33 0 w fun p257=>zldP b33 1 w fun p258=>ldi b33 2 w fun n259=>ldi b33 3 w fun n260=>ldi b33 4 w fun n261=>ldi b33 5 w fun n262=>zldL b33 6 w fun p263 l264 c265=>CV P F.zzcr [.pointer p257,.pointer p258,.agg [zI n259,zI n260,zI n261,zI n262,.slice p263 l264 c265].toArray] w fun v266 w=>∃ n268 n269:Int,∃ n270 n271:Int,∃ n272 n273:Int,∃ n274 n275:Int,∃ b276:Bool,∃ (p277:Option Addr) (l278 c279:Nat),∃ n280:Int,v266 = .tuple [.agg [zI n268,zI n269,zI n270,zI n271,zI n272,zI n273,zI n274,zI n275,.bool b276].toArray,.slice p277 l278 c279,zI n280].toArray∧sto (.pointer p207) b33 0 w fun w=>J202 () w)) (J202 () w)) fun (s282:zzc0.S) w=>zzef Q b33 n53 A55 b71 w) (Q (.bool true) w)
def zzgB (a3:Option Addr) (a3_n:Nat) (Q:Value→World→Prop) (b33:Nat) (b50:Bool) (w:World):Prop:=cnd b50 (Q (.bool false) w) (LoopT (fun (s284:zzaU.S) w A286=>zzgA a3 a3_n Q b33 s284 w A286) ((0:Int)) w)
def zzco (a0 a1:Int) (a2:Option Addr) (a2_n a2_c:Nat) (a3:Option Addr) (a3_n a3_c:Nat) (w:World) (Q:Value→World→Prop):Prop:=CV P F.zzcq [] w fun v9 w=>∃ b11:Bool,v9 = .bool b11∧cnd (!b11) (Q (.bool false) w) (CV P F.zzcs [.int .u8 a0,.int .u8 a1,.slice a2 a2_n a2_c] w fun v12 w=>∃ p14:Option Addr,∃ p15:Option Addr,∃ n16 n17:Int,∃ n18 n19:Int,∃ (p20:Option Addr) (l21 c22:Nat),∃ p23:Option Addr,∃ p24:Option Addr,∃ n25 n26:Int,∃ n27 n28:Int,∃ (p29:Option Addr) (l30 c31:Nat),∃ b32:Bool,v12 = .tuple [.agg [.pointer p14,.pointer p15,zI n16,zI n17,zI n18,zI n19,.slice p20 l21 c22,.pointer p23,.pointer p24,zI n25,zI n26,zI n27,zI n28,.slice p29 l30 c31].toArray,.bool b32].toArray∧alc [.pointer none,.pointer none,zI 0,zI 0,zI 0,zI 0,.slice none 0 0,.pointer none,.pointer none,zI 0,zI 0,zI 0,zI 0,.slice none 0 0] T.t40 w fun b33 w=>sto (.pointer p14) b33 0 w fun w=>sto (.pointer p15) b33 1 w fun w=>sto (zI n16) b33 2 w fun w=>sto (zI n17) b33 3 w fun w=>sto (zI n18) b33 4 w fun w=>sto (zI n19) b33 5 w fun w=>sto (.slice p20 l21 c22) b33 6 w fun w=>sto (.pointer p23) b33 7 w fun w=>sto (.pointer p24) b33 8 w fun w=>sto (zI n25) b33 9 w fun w=>sto (zI n26) b33 10 w fun w=>sto (zI n27) b33 11 w fun w=>sto (zI n28) b33 12 w fun w=>sto (.slice p29 l30 c31) b33 13 w fun w=>JoinT (fun (J287:zzd0.S→World→Prop)=>cnd (!b11) (J287 true w) (J287 (((!b32):Bool)) w)) fun (s288:zzd0.S) w=>zzgB a3 a3_n Q b33 s288 w)
def zzjm:Nat→Option LSp:=fun | 62=>some zzd0 | 506=>some zzaU | 16201=>some zzc0 | 64806=>some zzc1 | 259230=>some zzcP | _=>none
theorem zzjD {a0 a1 a2 a2_n a2_c a3 a3_n a3_c w Q} (h:zzco a0 a1 a2 a2_n a2_c a3 a3_n a3_c w Q):CV P F.zzco [.int .u8 a0,.int .u8 a1,.slice a2 a2_n a2_c,.slice a3 a3_n a3_c] w Q:=CV_of (ann:=zzjm) mixed Tryz.func8 (Eq.mp (by kernel_rfl) h)
def zzeg:LSp:=spB 18
def zzd1:LSp:=spB 0
def zzhu (Q:Value→World→Prop) (b113:Bool) (w:World):Prop:=Q (.bool b113) w
def zzhv (Q:Value→World→Prop) (l23:Nat) (n25:Int) (l36:Nat) (n38 n51:Int) (n64 n77:Int) (n90 n103:Int) (b108 b110:Bool) (w:World):Prop:=JoinT (fun (J115:zzd1.S→World→Prop)=>cnd (((l23:Nat):Int) == 0) (cnd (((l36:Nat):Int) == 0) (cnd (n25 == 0) (cnd (n38 == 0) (cnd (n51 == 0) (cnd (n64 == 0) (cnd (n77 == 0) (cnd b108 (cnd b110 (cnd (n90 == 240) (J115 (((n103 == 241):Bool)) w) (J115 false w)) (J115 false w)) (J115 false w)) (J115 false w)) (J115 false w)) (J115 false w)) (J115 false w)) (J115 false w)) (J115 false w)) (J115 false w)) fun (s116:zzd1.S) w=>zzhu Q s116 w
def zzcq (w:World) (Q:Value→World→Prop):Prop:=CV P F.zzgK [] w fun v1 w=>∃ p3:Option Addr,v1 = .pointer p3∧cnd (Option.isNone p3) (Q (.bool false) w) (alc [zI 3] T.t3 w fun b4 w=>alc [zI 0,zI 0,zI 0,zI 0,.slice none 0 0] T.t35 w fun b6 w=>sto (zI 1024) b6 0 w fun w=>sto (zI 1024) b6 1 w fun w=>sto (zI 2) b6 2 w fun w=>sto (zI 8) b6 3 w fun w=>sto (.slice (some ⟨b4,0,none⟩) 1 1) b6 4 w fun w=>ldi b6 0 w fun n13=>ldi b6 1 w fun n14=>ldi b6 2 w fun n15=>ldi b6 3 w fun n16=>zldL b6 4 w fun p17 l18 c19=>CV P F.zzaz [.pointer p3,.agg [zI 9,zI 0,zI 0,zI 0,zI 1,zI 1,zI 0,zI 0,.bool true].toArray,.agg [zI n13,zI n14,zI n15,zI n16,.slice p17 l18 c19].toArray] w fun v20 w=>∃ (p22:Option Addr) (l23 c24:Nat),∃ n25:Int,v20 = .tuple [.slice p22 l23 c24,zI n25].toArray∧ldi b6 0 w fun n26=>ldi b6 1 w fun n27=>ldi b6 2 w fun n28=>ldi b6 3 w fun n29=>zldL b6 4 w fun p30 l31 c32=>CV P F.zzaz [.pointer p3,.agg [zI 8,zI 3,zI 0,zI 0,zI 0,zI 0,zI 1,zI 256,.bool true].toArray,.agg [zI n26,zI n27,zI n28,zI n29,.slice p30 l31 c32].toArray] w fun v33 w=>∃ (p35:Option Addr) (l36 c37:Nat),∃ n38:Int,v33 = .tuple [.slice p35 l36 c37,zI n38].toArray∧ldi b6 0 w fun n39=>ldi b6 1 w fun n40=>ldi b6 2 w fun n41=>ldi b6 3 w fun n42=>zldL b6 4 w fun p43 l44 c45=>CV P F.zzaz [.pointer p3,.agg [zI 10,zI 3,zI 2,zI 8195,zI 1,zI 0,zI 0,zI 0,.bool false].toArray,.agg [zI n39,zI n40,zI n41,zI n42,.slice p43 l44 c45].toArray] w fun v46 w=>∃ (p48:Option Addr) (l49 c50:Nat),∃ n51:Int,v46 = .tuple [.slice p48 l49 c50,zI n51].toArray∧ldi b6 0 w fun n52=>ldi b6 1 w fun n53=>ldi b6 2 w fun n54=>ldi b6 3 w fun n55=>zldL b6 4 w fun p56 l57 c58=>CV P F.zzaz [.pointer p3,.agg [zI 3,zI 3,zI 2,zI 0,zI 0,zI 0,zI 0,zI 0,.bool false].toArray,.agg [zI n52,zI n53,zI n54,zI n55,.slice p56 l57 c58].toArray] w fun v59 w=>∃ (p61:Option Addr) (l62 c63:Nat),∃ n64:Int,v59 = .tuple [.slice p61 l62 c63,zI n64].toArray∧ldi b6 0 w fun n65=>ldi b6 1 w fun n66=>ldi b6 2 w fun n67=>ldi b6 3 w fun n68=>zldL b6 4 w fun p69 l70 c71=>CV P F.zzaz [.pointer p3,.agg [zI 15,zI 3,zI 2,zI 0,zI 0,zI 0,zI 0,zI 0,.bool false].toArray,.agg [zI n65,zI n66,zI n67,zI n68,.slice p69 l70 c71].toArray] w fun v72 w=>∃ (p74:Option Addr) (l75 c76:Nat),∃ n77:Int,v72 = .tuple [.slice p74 l75 c76,zI n77].toArray∧ldi b6 0 w fun n78=>ldi b6 1 w fun n79=>ldi b6 2 w fun n80=>ldi b6 3 w fun n81=>zldL b6 4 w fun p82 l83 c84=>CV P F.zzaz [.pointer p3,.agg [zI 8,zI 4,zI 0,zI 0,zI 0,zI 0,zI 0,zI 0,.bool true].toArray,.agg [zI n78,zI n79,zI n80,zI n81,.slice p82 l83 c84].toArray] w fun v85 w=>∃ (p87:Option Addr) (l88 c89:Nat),∃ n90:Int,v85 = .tuple [.slice p87 l88 c89,zI n90].toArray∧ldi b6 0 w fun n91=>ldi b6 1 w fun n92=>ldi b6 2 w fun n93=>ldi b6 3 w fun n94=>zldL b6 4 w fun p95 l96 c97=>CV P F.zzaz [.pointer p3,.agg [zI 8,zI 3,zI 0,zI 0,zI 0,zI 0,zI 0,zI 1024,.bool true].toArray,.agg [zI n91,zI n92,zI n93,zI n94,.slice p95 l96 c97].toArray] w fun v98 w=>∃ (p100:Option Addr) (l101 c102:Nat),∃ n103:Int,v98 = .tuple [.slice p100 l101 c102,zI n103].toArray∧alc [zI 1,zI 3,zI 2,zI 8195,zI 0,zI 1,zI 7,zI 0,zI 0,zI 8195,zI 0,zI 0] T.t73 w fun b104 w=>CV P F.zzaV [.slice p48 l49 c50,.slice (some ⟨b104,0,none⟩) 2 2] w fun v106 w=>∃ b108:Bool,v106 = .bool b108∧JoinT (fun (J118:zzeg.S→World→Prop)=>alc [zI 3,zI 0,zI 0,zI 8195,zI 0,zI 1] T.t73 w fun b119 w=>CV P F.zzaV [.slice p61 l62 c63,.slice (some ⟨b119,0,none⟩) 1 1] w fun v121 w=>∃ b123:Bool,v121 = .bool b123∧cnd b123 (alc [zI 4,zI 0,zI 0,zI 8195,zI 1,zI 0,zI 2,zI 3,zI 2,zI 0,zI 0,zI 0] T.t73 w fun b124 w=>CV P F.zzaV [.slice p74 l75 c76,.slice (some ⟨b124,0,none⟩) 2 2] w fun v126 w=>∃ b128:Bool,v126 = .bool b128∧J118 ((b128:Bool)) w) (J118 false w)) fun (s129:zzeg.S) w=>zzhv Q l23 n25 l36 n38 n51 n64 n77 n90 n103 b108 s129 w)
def zzjT:Nat→Option LSp:=fun | 8191=>some zzeg | 16383=>some zzd1 | _=>none
theorem zzkq {w Q} (h:zzcq w Q):CV P F.zzcq [] w Q:=CV_of (ann:=zzjT) mixed Tryz.func9 (Eq.mp (by kernel_rfl) h)
end Go.Proofs.YtidcijbnbdemeaaGreat
