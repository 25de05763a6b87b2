/-
  lpi: an act, of both.
-/
import Derived.Test.YtgjddhpblpfneaaDoorL12
import Derived.Test.YtgjddhpblpfneaaDoorMA
namespace Go.Proofs.YtgjddhpblpfneaaDoor
open Go Go.RowKit X
set_option maxRecDepth 100000
set_option linter.unusedVariables false
set_option linter.unusedSimpArgs false
set_option maxHeartbeats 2000000
structure Act15 where
  k : Int
  id : Int
  is : Bool
  two : Bool
  v : Int
def Act15.cells (x : Act15) : List Value := [.int .i64 x.k, .int .i64 x.id, .bool x.is, .bool x.two, .int .u8 x.v]
def Act15.Good (x : Act15) : Prop := I64 x.id ∧ 0 ≤ x.v ∧ x.v < 256
def actS (S : LS) (x : Act15) : LS :=
  if x.k = 1 then ((enM S.1 S.2.2).1, S.2.1, (enM S.1 S.2.2).2)
  else if x.k = 2 then (diM S.1, S.2.1, diB S.2.2 S.1.qa S.1.wt)
  else if x.k = 3 then (setMs S.1 x.id x.is, S.2.1, setMb S.1 S.2.2 x.id x.is)
  else if x.k = 4 then (invM S.1 S.2.2 x.id, S.2.1, S.2.2)
  else if x.k = 5 then (allM S.1 S.2.2, S.2.1, S.2.2)
  else if x.k = 6 then (S.1, S.2.1, writeM S.2.2 0 200 (IntKind.i64.wrap (x.id - 8192)) 1 x.v)
  else if x.k = 7 then mvS S x.id
  else if x.k = 8 then (mvAll S (waitL S.1 S.2.2)).1
  else S
theorem writeM_range {bs : List Int} (hr : ∀ x ∈ bs, 0 ≤ x ∧ x < 256) (a s o n v : Int) : ∀ x ∈ writeM bs a s o n v, 0 ≤ x ∧ x < 256 := by
  unfold writeM; split
  · exact wr_range hr _ _ _
  · exact hr
theorem enM_same (s : Lp) (bs : List Int) : (enM s bs).1.many = s.many ∧ (enM s bs).1.qa = s.qa := by
  unfold enM; split <;> exact ⟨rfl, rfl⟩
theorem mvAll_len {S : LS} (l : List Nat) : (mvAll S l).1.2.2.length = S.2.2.length := by
  induction l using snoc_ind with
  | h0 => rfl
  | h1 l u ih =>
    rw [mvAll_snoc]
    show (mvS _ _).2.2.length = _
    unfold mvS
    split
    · show (setMb _ (setMb _ _ _ _) _ _).length = _
      rw [setMb_len, setMb_len]; exact ih
    · exact ih
theorem actS_ok {S : LS} (h : LsOk S) (x : Act15) : LsOk (actS S x) ∧ (actS S x).2.2.length = S.2.2.length := by
  obtain ⟨s, t, bs⟩ := S
  have hl := h.len
  unfold actS
  split
  · have e := enM_ok h.ok1 h.rng
    have g := enM_same s bs
    exact ⟨⟨⟨by show (enM s bs).1.Fit (enM s bs).2.length; rw [enM_len]; exact enM_fit h.fit.f _, by show t.Fit (enM s bs).2.length; rw [enM_len]; exact h.fit.g⟩, e.1, h.ok2, e.2, by show (enM s bs).2.length ≤ _; rw [enM_len]; exact hl, h.apt.of g.1 g.2 rfl rfl⟩, enM_len _ _⟩
  split
  · exact ⟨⟨⟨by show (diM s).Fit (diB bs s.qa s.wt).length; rw [diB_len]; exact fit_of h.fit.f rfl rfl rfl rfl rfl, by show t.Fit (diB bs s.qa s.wt).length; rw [diB_len]; exact h.fit.g⟩, diM_ok h.ok1, h.ok2, diB_range _ _ _ h.rng, by show (diB bs s.qa s.wt).length ≤ _; rw [diB_len]; exact hl, h.apt.of rfl rfl rfl rfl⟩, diB_len _ _ _⟩
  split
  · have g := setMs_same s x.id x.is
    exact ⟨⟨⟨by show (setMs s x.id x.is).Fit (setMb s bs x.id x.is).length; rw [setMb_len]; exact setMs_fit h.fit.f _ _, by show t.Fit (setMb s bs x.id x.is).length; rw [setMb_len]; exact h.fit.g⟩, setMs_ok h.ok1 _ _, h.ok2, setMb_range h.rng _ _, by show (setMb s bs x.id x.is).length ≤ _; rw [setMb_len]; exact hl, h.apt.of g.1 g.2.2.1 rfl rfl⟩, setMb_len _ _ _ _⟩
  split
  · have g : (invM s bs x.id).many = s.many ∧ (invM s bs x.id).qa = s.qa := by unfold invM; split <;> exact ⟨rfl, rfl⟩
    exact ⟨⟨⟨invM_fit h.fit.f _ _, h.fit.g⟩, invM_ok h.ok1 h.rng _, h.ok2, h.rng, hl, h.apt.of g.1 g.2 rfl rfl⟩, rfl⟩
  split
  · exact ⟨⟨⟨allM_fit h.fit.f _, h.fit.g⟩, allM_ok h.ok1 h.rng, h.ok2, h.rng, hl, h.apt.of rfl rfl rfl rfl⟩, rfl⟩
  split
  · exact ⟨⟨⟨by show s.Fit (writeM _ _ _ _ _ _).length; rw [writeM_length]; exact h.fit.f, by show t.Fit (writeM _ _ _ _ _ _).length; rw [writeM_length]; exact h.fit.g⟩, h.ok1, h.ok2, writeM_range h.rng _ _ _ _ _, by show (writeM _ _ _ _ _ _).length ≤ _; rw [writeM_length]; exact hl, h.apt⟩, writeM_length⟩
  split
  · refine ⟨mvS_ok h _, ?_⟩
    unfold mvS
    split
    · show (setMb _ (setMb _ _ _ _) _ _).length = _
      rw [setMb_len, setMb_len]
    · rfl
  split
  · exact ⟨(mvAll_ok h _).1, mvAll_len _⟩
  · exact ⟨h, rfl⟩
theorem u64_byte {v : Int} (h : 0 ≤ v ∧ v < 256) : IntKind.u64.wrap v = v := by
  obtain ⟨n, rfl⟩ := Int.eq_ofNat_of_zero_le h.1
  exact u64_id (by omega)
theorem does_j4_t {W : World} (hT : TabAt W) {w0 : World} {S0 : Nat → Prop} {wx : World} (pb b7 lx ly m dx dy r : Nat) (cs : List Value) (k : Nat) (hk : k ≤ 1) (c0 : cs[0]? = some (ptrV m)) (c1 : cs[1]? = some (ptrV r)) (c2 : cs[2 + k]? = some (ptrV lx)) (c3 : cs[2 + (1 - k)]? = some (ptrV ly)) (c4 : cs[4 + k]? = some (ptrV dx)) (c5 : cs[4 + (1 - k)]? = some (ptrV dy))
    (S : LS) (h : LsOk S) (x : Act15) (hx : x.Good) (H : X.Own w0 S0 (row b7 x.cells T.t70 :: row pb cs T.t51 :: (lsL lx ly m S ++ (rsL dx dy r S ++ [keep W]))) wx) {Q : Value → World → Prop}
    (hQ : ∀ w', X.Own w0 S0 (row pb cs T.t51 :: (lsL lx ly m (actS S x) ++ (rsL dx dy r (actS S x) ++ [keep W]))) w' → Q (.bool true) w') :
    crierlaw15_does_j4 (some ⟨pb, 0, none⟩) Q b7 (k : Int) wx := by
  obtain ⟨xk, id, is, two, v⟩ := x
  obtain ⟨hid, hv⟩ := hx
  dsimp only at hid hv
  unfold crierlaw15_does_j4 Act15.cells at *
  simp only [List.cons_append, List.nil_append] at H
  have a2 : Addr.add (Addr.add (⟨pb, 0, none⟩ : Addr) 2) (k * 1) = ⟨pb, 2 + k, none⟩ := by rw [add_lit, add_lit]; simp
  have a4 : Addr.add (Addr.add (⟨pb, 0, none⟩ : Addr) 4) (k * 1) = ⟨pb, 4 + k, none⟩ := by rw [add_lit, add_lit]; simp
  have b2 : Addr.add (Addr.add (⟨pb, 0, none⟩ : Addr) 2) ((1 - k) * 1) = ⟨pb, 2 + (1 - k), none⟩ := by rw [add_lit, add_lit]; simp
  have b4 : Addr.add (Addr.add (⟨pb, 0, none⟩ : Addr) 4) ((1 - k) * 1) = ⟨pb, 4 + (1 - k), none⟩ := by rw [add_lit, add_lit]; simp
  have ek : IntKind.i64.wrap (1 - (k : Int)) = ((1 - k : Nat) : Int) := by rw [W_id (by omega) (by omega)]; omega
  refine drw_o H fun wx H => ?_
  dsimp only [nn]
  rw [ek]
  refine ix_i (show k < 2 by omega) ?_
  rw [a2]
  refine ldP_o H (b := pb) (cs := cs) (t := T.t51) (by repeat (first | exact Pick.here | apply Pick.there)) c2 (ix_i (show k < 2 by omega) ?_)
  rw [a4]
  refine ldP_o H (b := pb) (cs := cs) (t := T.t51) (by repeat (first | exact Pick.here | apply Pick.there)) c4 ?_
  refine ldI_o H (b := b7) (by repeat (first | exact Pick.here | apply Pick.there)) (by rfl) ?_
  have hlf := h.fit.f
  have hlg := h.fit.g
  have hjoin : ∀ (S' : LS) wx, X.Own w0 S0 (row pb cs T.t51 :: (lsL lx ly m S' ++ (rsL dx dy r S' ++ [keep W]))) wx → S' = actS S ⟨xk, id, is, two, v⟩ →
      crierlaw15_does_j0 Q wx := by
    rintro _ wx H rfl
    unfold crierlaw15_does_j0
    exact hQ wx H
  refine join_o ?_
  refine cnd_i (fun h1 => ?_) fun h1 => ?_
  · have h1 : xk = 1 := by simpa using h1
    subst h1
    refine ldP_o H (b := pb) (cs := cs) (t := T.t51) (by repeat (first | exact Pick.here | apply Pick.there)) c0 ?_
    refine call_o H (enable_t lx m S.1 S.2.2 hlf) (by repeat (first | exact Cut.nil | (apply Cut.cons; (repeat (first | exact Pick.here | apply Pick.there))))) fun vx L' wx hq H => ?_
    obtain ⟨rfl, rfl⟩ := hq
    simp only [List.cons_append, List.nil_append] at H
    refine ⟨rfl, ?_⟩
    refine ldP_o H (i := 1) (b := pb) (cs := cs) (t := T.t51) (by repeat (first | exact Pick.here | apply Pick.there)) c1 ?_
    refine call_o H (rEnable_t dx r S.1 S.2.2 hlf) (by repeat (first | exact Cut.nil | (apply Cut.cons; (repeat (first | exact Pick.here | apply Pick.there))))) fun vx L' wx hq H => ?_
    obtain ⟨rfl, rfl⟩ := hq
    simp only [List.cons_append, List.nil_append] at H
    exact ⟨rfl, hjoin ((enM S.1 S.2.2).1, S.2.1, (enM S.1 S.2.2).2) _ (H.drop (by repeat (first | exact Cut.nil | (apply Cut.cons; (repeat (first | exact Pick.here | apply Pick.there)))))) rfl⟩
  have n1 : xk ≠ 1 := by simpa using h1
  refine cnd_i (fun h1 => ?_) fun h1 => ?_
  · have h1 : xk = 2 := by simpa using h1
    subst h1
    refine ldP_o H (b := pb) (cs := cs) (t := T.t51) (by repeat (first | exact Pick.here | apply Pick.there)) c0 ?_
    refine call_o H (disable_t hT lx m S.1 S.2.2 hlf) (by repeat (first | exact Cut.nil | (apply Cut.cons; (repeat (first | exact Pick.here | apply Pick.there))))) fun vx L' wx hq H => ?_
    obtain ⟨rfl, rfl⟩ := hq
    simp only [List.cons_append, List.nil_append] at H
    refine ⟨rfl, ?_⟩
    refine ldP_o H (i := 1) (b := pb) (cs := cs) (t := T.t51) (by repeat (first | exact Pick.here | apply Pick.there)) c1 ?_
    refine call_o H (rDisable_t dx r S.1 S.2.2 h.ok1 hlf) (by repeat (first | exact Cut.nil | (apply Cut.cons; (repeat (first | exact Pick.here | apply Pick.there))))) fun vx L' wx hq H => ?_
    obtain ⟨rfl, rfl⟩ := hq
    simp only [List.cons_append, List.nil_append] at H
    exact ⟨rfl, hjoin (diM S.1, S.2.1, diB S.2.2 S.1.qa S.1.wt) _ (H.drop (by repeat (first | exact Cut.nil | (apply Cut.cons; (repeat (first | exact Pick.here | apply Pick.there)))))) rfl⟩
  have n2 : xk ≠ 2 := by simpa using h1
  have res : ∀ (S' : LS) wx, X.Own w0 S0 (row pb cs T.t51 :: (lsL lx ly m S' ++ (rsL dx dy r S' ++ [keep W]))) wx → S' = actS S ⟨xk, id, is, two, v⟩ →
      Q (.bool true) wx := by
    rintro _ wx H rfl
    exact hQ wx H
  refine cnd_i (fun h1 => ?_) fun h1 => ?_
  · have h1 : xk = 3 := by simpa using h1
    subst h1
    refine drw_o H fun wx H => ?_
    refine ldP_o H (b := pb) (cs := cs) (t := T.t51) (by repeat (first | exact Pick.here | apply Pick.there)) c0 ?_
    repeat (first | refine ldI_o H (by repeat (first | exact Pick.here | apply Pick.there)) (by rfl) ?_ | refine ldL_o H (by repeat (first | exact Pick.here | apply Pick.there)) (by rfl) ?_ | refine ldB_o H (by repeat (first | exact Pick.here | apply Pick.there)) (by rfl) ?_ | refine ldP_o H (by repeat (first | exact Pick.here | apply Pick.there)) (by rfl) ?_ | refine ldS_o H (by repeat (first | exact Pick.here | apply Pick.there)) (by rfl) ?_)
    refine call_o H (set_t lx m S.1 S.2.2 hlf id hid is) (by repeat (first | exact Cut.nil | (apply Cut.cons; (repeat (first | exact Pick.here | apply Pick.there))))) fun vx L' wx hq H => ?_
    obtain ⟨rfl, rfl⟩ := hq
    simp only [List.cons_append, List.nil_append] at H
    refine ⟨_, _, rfl, ?_⟩
    refine drw_o H fun wx H => ?_
    refine ldP_o H (i := 1) (b := pb) (cs := cs) (t := T.t51) (by repeat (first | exact Pick.here | apply Pick.there)) c1 ?_
    repeat (first | refine ldI_o H (by repeat (first | exact Pick.here | apply Pick.there)) (by rfl) ?_ | refine ldL_o H (by repeat (first | exact Pick.here | apply Pick.there)) (by rfl) ?_ | refine ldB_o H (by repeat (first | exact Pick.here | apply Pick.there)) (by rfl) ?_ | refine ldP_o H (by repeat (first | exact Pick.here | apply Pick.there)) (by rfl) ?_ | refine ldS_o H (by repeat (first | exact Pick.here | apply Pick.there)) (by rfl) ?_)
    refine call_o H (rSet_t dx r S.1 S.2.2 hlf id hid is) (by repeat (first | exact Cut.nil | (apply Cut.cons; (repeat (first | exact Pick.here | apply Pick.there))))) fun vx L' wx hq H => ?_
    obtain ⟨rfl, rfl⟩ := hq
    simp only [List.cons_append, List.nil_append] at H
    refine ⟨_, _, rfl, join_o (cnd_i (fun _ => ?_) fun hh => by simp at hh)⟩
    unfold crierlaw15_does_j1
    rw [beq_self_eq_true]
    exact res (setMs S.1 id is, S.2.1, setMb S.1 S.2.2 id is) _ (H.drop (by repeat (first | exact Cut.nil | (apply Cut.cons; (repeat (first | exact Pick.here | apply Pick.there)))))) rfl
  have n3 : xk ≠ 3 := by simpa using h1
  refine cnd_i (fun h1 => ?_) fun h1 => ?_
  · have h1 : xk = 4 := by simpa using h1
    subst h1
    refine drw_o H fun wx H => ?_
    refine ldP_o H (b := pb) (cs := cs) (t := T.t51) (by repeat (first | exact Pick.here | apply Pick.there)) c0 ?_
    repeat (first | refine ldI_o H (by repeat (first | exact Pick.here | apply Pick.there)) (by rfl) ?_ | refine ldL_o H (by repeat (first | exact Pick.here | apply Pick.there)) (by rfl) ?_ | refine ldB_o H (by repeat (first | exact Pick.here | apply Pick.there)) (by rfl) ?_ | refine ldP_o H (by repeat (first | exact Pick.here | apply Pick.there)) (by rfl) ?_ | refine ldS_o H (by repeat (first | exact Pick.here | apply Pick.there)) (by rfl) ?_)
    refine ldP_o H (i := 1) (b := pb) (cs := cs) (t := T.t51) (by repeat (first | exact Pick.here | apply Pick.there)) c1 ?_
    repeat (first | refine ldI_o H (by repeat (first | exact Pick.here | apply Pick.there)) (by rfl) ?_ | refine ldL_o H (by repeat (first | exact Pick.here | apply Pick.there)) (by rfl) ?_ | refine ldB_o H (by repeat (first | exact Pick.here | apply Pick.there)) (by rfl) ?_ | refine ldP_o H (by repeat (first | exact Pick.here | apply Pick.there)) (by rfl) ?_ | refine ldS_o H (by repeat (first | exact Pick.here | apply Pick.there)) (by rfl) ?_)
    refine call_o H (inv_t lx m S.1 S.2.2 hlf id hid) (by repeat (first | exact Cut.nil | (apply Cut.cons; (repeat (first | exact Pick.here | apply Pick.there))))) fun vx L' wx hq H => ?_
    obtain ⟨rfl, rfl⟩ := hq
    simp only [List.cons_append, List.nil_append] at H
    refine ⟨_, rfl, ?_, ?_, ?_⟩
    · repeat (first | refine ldI_o H (by repeat (first | exact Pick.here | apply Pick.there)) (by rfl) ?_ | refine ldL_o H (by repeat (first | exact Pick.here | apply Pick.there)) (by rfl) ?_ | refine ldB_o H (by repeat (first | exact Pick.here | apply Pick.there)) (by rfl) ?_ | refine ldP_o H (by repeat (first | exact Pick.here | apply Pick.there)) (by rfl) ?_ | refine ldS_o H (by repeat (first | exact Pick.here | apply Pick.there)) (by rfl) ?_)
      rfl
    · exact ldP_o H (i := 1) (b := pb) (cs := cs) (t := T.t51) (by repeat (first | exact Pick.here | apply Pick.there)) c1 rfl
    refine call_o H (rInv_t dx r S.1 S.2.2 hlf id hid) (by repeat (first | exact Cut.nil | (apply Cut.cons; (repeat (first | exact Pick.here | apply Pick.there))))) fun vx L' wx hq H => ?_
    obtain ⟨rfl, rfl⟩ := hq
    simp only [List.cons_append, List.nil_append] at H
    refine ⟨_, rfl, ?_⟩
    rw [beq_self_eq_true]
    exact res (invM S.1 S.2.2 id, S.2.1, S.2.2) _ (H.drop (by repeat (first | exact Cut.nil | (apply Cut.cons; (repeat (first | exact Pick.here | apply Pick.there)))))) rfl
  have n4 : xk ≠ 4 := by simpa using h1
  refine cnd_i (fun h1 => ?_) fun h1 => ?_
  · have h1 : xk = 5 := by simpa using h1
    subst h1
    refine ldP_o H (b := pb) (cs := cs) (t := T.t51) (by repeat (first | exact Pick.here | apply Pick.there)) c0 ?_
    refine call_o H (invAll_t lx m S.1 S.2.2 hlf) (by repeat (first | exact Cut.nil | (apply Cut.cons; (repeat (first | exact Pick.here | apply Pick.there))))) fun vx L' wx hq H => ?_
    obtain ⟨rfl, rfl⟩ := hq
    simp only [List.cons_append, List.nil_append] at H
    refine ⟨rfl, ?_⟩
    refine ldP_o H (i := 1) (b := pb) (cs := cs) (t := T.t51) (by repeat (first | exact Pick.here | apply Pick.there)) c1 ?_
    refine call_o H (rInvAll_t dx r S.1 S.2.2 hlf) (by repeat (first | exact Cut.nil | (apply Cut.cons; (repeat (first | exact Pick.here | apply Pick.there))))) fun vx L' wx hq H => ?_
    obtain ⟨rfl, rfl⟩ := hq
    simp only [List.cons_append, List.nil_append] at H
    exact ⟨rfl, hjoin (allM S.1 S.2.2, S.2.1, S.2.2) _ (H.drop (by repeat (first | exact Cut.nil | (apply Cut.cons; (repeat (first | exact Pick.here | apply Pick.there)))))) rfl⟩
  have n5 : xk ≠ 5 := by simpa using h1
  refine cnd_i (fun h1 => ?_) fun h1 => ?_
  · have h1 : xk = 6 := by simpa using h1
    subst h1
    refine drw_o H fun wx H => ?_
    refine ldP_o H (b := pb) (cs := cs) (t := T.t51) (by repeat (first | exact Pick.here | apply Pick.there)) c0 ?_
    repeat (first | refine ldI_o H (by repeat (first | exact Pick.here | apply Pick.there)) (by rfl) ?_ | refine ldL_o H (by repeat (first | exact Pick.here | apply Pick.there)) (by rfl) ?_ | refine ldB_o H (by repeat (first | exact Pick.here | apply Pick.there)) (by rfl) ?_ | refine ldP_o H (by repeat (first | exact Pick.here | apply Pick.there)) (by rfl) ?_ | refine ldS_o H (by repeat (first | exact Pick.here | apply Pick.there)) (by rfl) ?_)
    rw [u64_byte hv]
    refine call_o H (write_t m S.2.2 0 200 (IntKind.i64.wrap (id - 8192)) 1 v) (by repeat (first | exact Cut.nil | (apply Cut.cons; (repeat (first | exact Pick.here | apply Pick.there))))) fun vx L' wx hq H => ?_
    obtain ⟨rfl, rfl⟩ := hq
    simp only [List.cons_append, List.nil_append] at H
    refine ⟨_, rfl, ?_⟩
    refine drw_o H fun wx H => ?_
    refine ldP_o H (i := 1) (b := pb) (cs := cs) (t := T.t51) (by repeat (first | exact Pick.here | apply Pick.there)) c1 ?_
    repeat (first | refine ldI_o H (by repeat (first | exact Pick.here | apply Pick.there)) (by rfl) ?_ | refine ldL_o H (by repeat (first | exact Pick.here | apply Pick.there)) (by rfl) ?_ | refine ldB_o H (by repeat (first | exact Pick.here | apply Pick.there)) (by rfl) ?_ | refine ldP_o H (by repeat (first | exact Pick.here | apply Pick.there)) (by rfl) ?_ | refine ldS_o H (by repeat (first | exact Pick.here | apply Pick.there)) (by rfl) ?_)
    rw [u64_byte hv]
    refine call_o H (refWrite_t r S.2.2 0 200 (IntKind.i64.wrap (id - 8192)) 1 v (by omega)) (by repeat (first | exact Cut.nil | (apply Cut.cons; (repeat (first | exact Pick.here | apply Pick.there))))) fun vx L' wx hq H => ?_
    obtain ⟨rfl, rfl⟩ := hq
    simp only [List.cons_append, List.nil_append] at H
    exact ⟨_, rfl, hjoin (S.1, S.2.1, writeM S.2.2 0 200 (IntKind.i64.wrap (id - 8192)) 1 v) _ (H.drop (by repeat (first | exact Cut.nil | (apply Cut.cons; (repeat (first | exact Pick.here | apply Pick.there)))))) rfl⟩
  have n6 : xk ≠ 6 := by simpa using h1
  refine cnd_i (fun h1 => join_o ?_) fun h1 => ?_
  · have h1 : xk = 7 := by simpa using h1
    subst h1
    refine drw_o H fun wx H => ?_
    refine ldP_o H (b := pb) (cs := cs) (t := T.t51) (by repeat (first | exact Pick.here | apply Pick.there)) c0 ?_
    repeat (first | refine ldI_o H (by repeat (first | exact Pick.here | apply Pick.there)) (by rfl) ?_ | refine ldL_o H (by repeat (first | exact Pick.here | apply Pick.there)) (by rfl) ?_ | refine ldB_o H (by repeat (first | exact Pick.here | apply Pick.there)) (by rfl) ?_ | refine ldP_o H (by repeat (first | exact Pick.here | apply Pick.there)) (by rfl) ?_ | refine ldS_o H (by repeat (first | exact Pick.here | apply Pick.there)) (by rfl) ?_)
    refine ix_i (show 1 - k < 2 by omega) ?_
    rw [b2]
    refine ldP_o H (b := pb) (cs := cs) (t := T.t51) (by repeat (first | exact Pick.here | apply Pick.there)) c3 ?_
    refine ldP_o H (i := 1) (b := pb) (cs := cs) (t := T.t51) (by repeat (first | exact Pick.here | apply Pick.there)) c1 ?_
    repeat (first | refine ldI_o H (by repeat (first | exact Pick.here | apply Pick.there)) (by rfl) ?_ | refine ldL_o H (by repeat (first | exact Pick.here | apply Pick.there)) (by rfl) ?_ | refine ldB_o H (by repeat (first | exact Pick.here | apply Pick.there)) (by rfl) ?_ | refine ldP_o H (by repeat (first | exact Pick.here | apply Pick.there)) (by rfl) ?_ | refine ldS_o H (by repeat (first | exact Pick.here | apply Pick.there)) (by rfl) ?_)
    refine ix_i (show 1 - k < 2 by omega) ?_
    rw [b4]
    refine ldP_o H (b := pb) (cs := cs) (t := T.t51) (by repeat (first | exact Pick.here | apply Pick.there)) c5 ?_
    refine call_o H (move_t lx ly m S h.fit id hid) (by repeat (first | exact Cut.nil | (apply Cut.cons; (repeat (first | exact Pick.here | apply Pick.there))))) fun vx L' wx hq H => ?_
    obtain ⟨rfl, rfl⟩ := hq
    simp only [List.cons_append, List.nil_append] at H
    refine ⟨_, rfl, ?_, ?_, ?_, ?_⟩
    · exact ldP_o H (b := pb) (cs := cs) (t := T.t51) (by repeat (first | exact Pick.here | apply Pick.there)) c5 rfl
    · repeat (first | refine ldI_o H (by repeat (first | exact Pick.here | apply Pick.there)) (by rfl) ?_ | refine ldL_o H (by repeat (first | exact Pick.here | apply Pick.there)) (by rfl) ?_ | refine ldB_o H (by repeat (first | exact Pick.here | apply Pick.there)) (by rfl) ?_ | refine ldP_o H (by repeat (first | exact Pick.here | apply Pick.there)) (by rfl) ?_ | refine ldS_o H (by repeat (first | exact Pick.here | apply Pick.there)) (by rfl) ?_)
      rfl
    · exact ldP_o H (i := 1) (b := pb) (cs := cs) (t := T.t51) (by repeat (first | exact Pick.here | apply Pick.there)) c1 rfl
    refine call_o H (rMove_t dx dy r S h.fit id hid) (by repeat (first | exact Cut.nil | (apply Cut.cons; (repeat (first | exact Pick.here | apply Pick.there))))) fun vx L' wx hq H => ?_
    obtain ⟨rfl, rfl⟩ := hq
    simp only [List.cons_append, List.nil_append] at H
    refine ⟨_, rfl, cnd_i (fun _ => ?_) fun hh => by simp at hh⟩
    refine ldP_o H (b := pb) (cs := cs) (t := T.t51) (by repeat (first | exact Pick.here | apply Pick.there)) c0 ?_
    repeat (first | refine ldI_o H (by repeat (first | exact Pick.here | apply Pick.there)) (by rfl) ?_ | refine ldL_o H (by repeat (first | exact Pick.here | apply Pick.there)) (by rfl) ?_ | refine ldB_o H (by repeat (first | exact Pick.here | apply Pick.there)) (by rfl) ?_ | refine ldP_o H (by repeat (first | exact Pick.here | apply Pick.there)) (by rfl) ?_ | refine ldS_o H (by repeat (first | exact Pick.here | apply Pick.there)) (by rfl) ?_)
    refine call_p H (move_self_t lx m id) .nil fun wx H => ?_
    refine ⟨_, rfl, ?_⟩
    unfold crierlaw15_does_j2
    exact res (mvS S id) _ (H.drop (by repeat (first | exact Cut.nil | (apply Cut.cons; (repeat (first | exact Pick.here | apply Pick.there)))))) rfl
  have n7 : xk ≠ 7 := by simpa using h1
  refine cnd_i (fun h1 => join_o ?_) fun h1 => ?_
  · have h1 : xk = 8 := by simpa using h1
    subst h1
    refine drw_o H fun wx H => ?_
    refine ldP_o H (b := pb) (cs := cs) (t := T.t51) (by repeat (first | exact Pick.here | apply Pick.there)) c0 ?_
    refine ix_i (show 1 - k < 2 by omega) ?_
    rw [b2]
    refine ldP_o H (b := pb) (cs := cs) (t := T.t51) (by repeat (first | exact Pick.here | apply Pick.there)) c3 ?_
    refine ldP_o H (i := 1) (b := pb) (cs := cs) (t := T.t51) (by repeat (first | exact Pick.here | apply Pick.there)) c1 ?_
    refine ix_i (show 1 - k < 2 by omega) ?_
    rw [b4]
    refine ldP_o H (b := pb) (cs := cs) (t := T.t51) (by repeat (first | exact Pick.here | apply Pick.there)) c5 ?_
    refine call_o H (moveAll_t lx ly m S h) (by repeat (first | exact Cut.nil | (apply Cut.cons; (repeat (first | exact Pick.here | apply Pick.there))))) fun vx L' wx hq H => ?_
    obtain ⟨rfl, rfl⟩ := hq
    simp only [List.cons_append, List.nil_append] at H
    refine ⟨_, rfl, ?_, ?_, ?_⟩
    · exact ldP_o H (b := pb) (cs := cs) (t := T.t51) (by repeat (first | exact Pick.here | apply Pick.there)) c5 rfl
    · exact ldP_o H (i := 1) (b := pb) (cs := cs) (t := T.t51) (by repeat (first | exact Pick.here | apply Pick.there)) c1 rfl
    refine call_o H (rMoveAll_t dx dy r S h) (by repeat (first | exact Cut.nil | (apply Cut.cons; (repeat (first | exact Pick.here | apply Pick.there))))) fun vx L' wx hq H => ?_
    obtain ⟨rfl, rfl⟩ := hq
    simp only [List.cons_append, List.nil_append] at H
    refine ⟨_, rfl, cnd_i (fun _ => ?_) fun hh => by simp at hh⟩
    refine ldP_o H (b := pb) (cs := cs) (t := T.t51) (by repeat (first | exact Pick.here | apply Pick.there)) c0 ?_
    have hok := (mvAll_ok h (waitL S.1 S.2.2)).1
    refine call_p H (moveAll_self_t lx m (mvAll S (waitL S.1 S.2.2)).1.1 (mvAll S (waitL S.1 S.2.2)).1.2.2 hok.ok1 hok.fit.f) (by repeat (first | exact Cut.nil | (apply Cut.cons; (repeat (first | exact Pick.here | apply Pick.there))))) fun wx H => ?_
    refine ⟨_, rfl, ?_⟩
    unfold crierlaw15_does_j3
    exact res (mvAll S (waitL S.1 S.2.2)).1 _ (H.drop (by repeat (first | exact Cut.nil | (apply Cut.cons; (repeat (first | exact Pick.here | apply Pick.there)))))) rfl
  have n8 : xk ≠ 8 := by simpa using h1
  refine hjoin S _ (H.drop (by repeat (first | exact Cut.nil | (apply Cut.cons; (repeat (first | exact Pick.here | apply Pick.there)))))) ?_
  unfold actS
  rw [if_neg n1, if_neg n2, if_neg n3, if_neg n4, if_neg n5, if_neg n6, if_neg n7, if_neg n8]
def swapS (S : LS) : LS := (S.2.1, S.1, S.2.2)
theorem swap_ok {S : LS} (h : LsOk S) : LsOk (swapS S) := ⟨⟨h.fit.g, h.fit.f⟩, h.ok2, h.ok1, h.rng, h.len, h.apt.symm⟩
def stepS (S : LS) (x : Act15) : LS := if x.two then swapS (actS (swapS S) x) else actS S x
theorem stepS_ok {S : LS} (h : LsOk S) (x : Act15) : LsOk (stepS S x) ∧ (stepS S x).2.2.length = S.2.2.length := by
  unfold stepS
  split
  · exact ⟨swap_ok (actS_ok (swap_ok h) x).1, (actS_ok (swap_ok h) x).2⟩
  · exact actS_ok h x
structure Pr where
  (m r l0 l1 d0 d1 : Nat)
def Pr.cells (p : Pr) : List Value := [ptrV p.m, ptrV p.r, ptrV p.l0, ptrV p.l1, ptrV p.d0, ptrV p.d1, .bool true]
abbrev prL (pb : Nat) (p : Pr) (S : LS) (W : World) : List It := row pb p.cells T.t51 :: (lsL p.l0 p.l1 p.m S ++ (rsL p.d0 p.d1 p.r S ++ [keep W]))
theorem does_t {W : World} (hT : TabAt W) (pb : Nat) (p : Pr) (S : LS) (h : LsOk S) (x : Act15) (hx : x.Good) : Tri P F.crierlaw15_does [ptrV pb, .agg x.cells.toArray] (prL pb p S W) fun v L' => v = .bool true ∧ L' = prL pb p (stepS S x) W := by
  intro w Sp hS
  refine crierlaw15_does_cv ?_
  unfold crierlaw15_does
  have H := Own.start hS
  refine alc_o H fun b7 wx H => join_o ?_
  unfold stepS
  refine ldB_o (n := x.two) H .here (by rfl) ?_
  cases ht : x.two
  · refine cnd_i (fun h => by cases h) fun _ => ?_
    exact does_j4_t hT pb b7 p.l0 p.l1 p.m p.d0 p.d1 p.r p.cells 0 (by omega) rfl rfl rfl rfl rfl rfl S h x hx H fun w' H => ⟨_, ⟨rfl, rfl⟩, H⟩
  · refine cnd_i (fun _ => ?_) (fun h => by cases h)
    have H : X.Own w Sp (row b7 x.cells T.t70 :: row pb p.cells T.t51 :: (lsL p.l1 p.l0 p.m (swapS S) ++ (rsL p.d1 p.d0 p.r (swapS S) ++ [keep W]))) wx := H.drop (by repeat (first | exact Cut.nil | (apply Cut.cons; (repeat (first | exact Pick.here | apply Pick.there)))))
    exact does_j4_t hT pb b7 p.l1 p.l0 p.m p.d1 p.d0 p.r p.cells 1 (by omega) rfl rfl rfl rfl rfl rfl (swapS S) (swap_ok h) x hx H fun w' H => ⟨_, ⟨rfl, rfl⟩, H.drop (by repeat (first | exact Cut.nil | (apply Cut.cons; (repeat (first | exact Pick.here | apply Pick.there)))))⟩
end Go.Proofs.YtgjddhpblpfneaaDoor
