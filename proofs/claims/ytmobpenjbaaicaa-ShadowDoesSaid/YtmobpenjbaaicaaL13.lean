/-
  shadow: the events gone through; a device's.
-/
import Derived.Test.YtmobpenjbaaicaaL12
import Derived.Test.YtmobpenjbaaicaaA7
namespace Go.Proofs.Ytmobpenjbaaicaa
open Go Go.RowKit X
set_option maxRecDepth 100000
set_option linter.unusedVariables false
set_option linter.unusedSimpArgs false
set_option maxHeartbeats 1000000
def evs (A : List (Int × Int)) : List (List Value) := A.map fun x => [evV (x.1 / 16) (x.1 % 16), .int .i64 x.2]
theorem evs_len (A : List (Int × Int)) : ∀ x ∈ evs A, x.length = 2 := by
  intro x hx
  obtain ⟨y, _, rfl⟩ := List.mem_map.1 hx
  rfl
def allV (g : Nat) : Value := .func (.func F.shadow_Shadow_All_1) [].toArray [bptr g].toArray
theorem all_enters : enters P F.shadow_Shadow_All_1 = true := by kernel_rfl
/-- what a loop through all holds -/
structure AllP where
  (a g h : Nat) (p : Option Addr) (c : Nat) (q : Option Addr) (c2 : Nat)
def allE (z : AllP) (A : List (Int × Int)) : List It := row z.a [thrV z.g z.h] T.t49 :: thrE z.g z.h z.p z.c z.q z.c2 A
theorem all_sh_t (b n k : Nat) (many : Int) (A B : List (Int × Int)) : Tri P F.shadow_Shadow_All [bptr b] (shL b n k many A B) fun v L' => ∃ z : AllP, v = allV z.a ∧ L' = allE z A ++ shL b n k many A B := by
  intro w S hS
  refine shadow_Shadow_All_cv ?_
  unfold shadow_Shadow_All
  have H := Own.start hS
  dsimp only [nn]
  repeat (first | refine ldI_o H (by repeat (first | exact Pick.here | apply Pick.there)) (by rfl) ?_ | refine ldL_o H (by repeat (first | exact Pick.here | apply Pick.there)) (by rfl) ?_ | refine ldB_o H (by repeat (first | exact Pick.here | apply Pick.there)) (by rfl) ?_ | refine ldP_o H (by repeat (first | exact Pick.here | apply Pick.there)) (by rfl) ?_ | refine ldS_o H (by repeat (first | exact Pick.here | apply Pick.there)) (by rfl) ?_)
  refine call_o H (all_book_t n A) (by repeat (first | exact Cut.nil | (apply Cut.cons; (repeat (first | exact Pick.here | apply Pick.there))))) fun vx L' wx hq H => ?_
  obtain ⟨g, h, p, c, q, c2, rfl, rfl⟩ := hq
  unfold thrE at H
  simp only [List.cons_append, List.nil_append] at H
  refine ⟨_, rfl, alc_o H fun b7 wx H => ?_⟩
  unfold thrV
  dsimp only [oneK]
  refine st1_o H (by repeat (first | exact Rep.here | apply Rep.there)) (by simp) fun wx H => ?_
  exact ⟨_, ⟨⟨b7, g, h, p, c, q, c2⟩, rfl, rfl⟩, H.drop (by unfold allE thrE; exact (by repeat (first | exact Cut.nil | (apply Cut.cons; (repeat (first | exact Pick.here | apply Pick.there))))))⟩
theorem pairs_at {A : List (Int × Int)} {k : Nat} {x : List Value} (h : (pairs A)[k]? = some x) : ∃ u : Int × Int, A[k]? = some u ∧ x = [.int .i64 u.1, .int .i64 u.2] := by
  unfold pairs at h
  rw [List.getElem?_map] at h
  cases hu : A[k]? with
  | none => rw [hu] at h; cases h
  | some u => rw [hu] at h; exact ⟨u, rfl, by cases h; rfl⟩
theorem all_it (z : AllP) (A : List (Int × Int)) (hl : A.length < 800000) (hA : ∀ u ∈ A, 0 ≤ u.1 ∧ u.1 < 9223372036854775808) :
    Iter P F.shadow_Shadow_All_1 [bptr z.a] (allE z A) (evs A) := by
  intro y w0 S0 L0 w Q I D hy H h0 hstep hend hstop
  obtain ⟨fn, fa, fc, rfl⟩ := hy
  obtain ⟨a, g, h, p, c, q, c2⟩ := z
  refine shadow_Shadow_All_1_cv ?_
  unfold shadow_Shadow_All_1
  dsimp only [oneK]
  refine alc_o H fun b3 wx H => ?_
  have eA : ∀ (L F : List It), (L ++ [row a [thrV g h] T.t49]) ++ (thrE g h p c q c2 A ++ F) = L ++ (allE ⟨a, g, h, p, c, q, c2⟩ A ++ F) := by
    intro L F; simp [allE]
  have eB : ∀ (L : List It), (L ++ [row a [thrV g h] T.t49]) ++ thrE g h p c q c2 A = L ++ allE ⟨a, g, h, p, c, q, c2⟩ A := by
    intro L; simp [allE]
  refine ldV_o H (.there (pick_right (F := allE ⟨a, g, h, p, c, q, c2⟩ A) .here L0)) rfl ?_
  have H : X.Own w0 S0 ((row b3 [.func fn fa fc] T.t72 :: (L0 ++ [row a [thrV g h] T.t49])) ++ thrE g h p c q c2 A) wx := by
    rw [List.cons_append, eB]; exact H
  refine rf_o (fun k Li => ∃ L, I k L ∧ Li = row b3 [.func fn fa fc] T.t72 :: (L ++ [row a [thrV g h] T.t49])) (fun c Li => c = .ret ∧ ∃ L, D L ∧ Li = row b3 [.func fn fa fc] T.t72 :: (L ++ [row a [thrV g h] T.t49]))
    thr_enters (thr_it g h p c q c2 A hl) (pairs_len A) H ⟨L0, h0, rfl⟩ ?_ ?_ ?_
  · rintro k x _ F l r d wx Q2 hx ⟨L, hI, rfl⟩ H hgo hdone
    obtain ⟨u, hu, rfl⟩ := pairs_at hx
    unfold shadow_Shadow_All_1_r0
    dsimp only [X.b2]
    refine ⟨_, rfl, _, rfl, rec_o H .here fun wx H => ?_⟩
    refine drw_o H fun wx H => ?_
    refine ldV_o H (.there (.there .here)) rfl ?_
    have hr := hA u (List.mem_of_getElem? hu)
    refine call_p H (unkeyed_t u.1 hr) .nil fun wx H => ?_
    refine ⟨_, _, rfl, ldV_o H (.there (.there .here)) rfl rfl, ?_⟩
    rw [List.cons_append, eA L F] at H
    refine yield_o (A := [recI l r .busy none, defI d, row b3 [.func fn fa fc] T.t72]) hstep H (by rw [evs, List.getElem?_map, hu]; rfl) hI fun bo L' wx hL' H => ⟨bo, rfl, ?_⟩
    have H : X.Own w0 S0 (recI l r .busy none :: defI d :: ((row b3 [.func fn fa fc] T.t72 :: (L' ++ [row a [thrV g h] T.t49])) ++ (thrE g h p c q c2 A ++ F))) wx := by
      rw [List.cons_append, eA]; exact H
    cases bo
    · exact cnd_i (fun _ => rec_o H .here fun wx H => hdone .ret _ wx ⟨rfl, L', by simpa using hL', rfl⟩ H) (fun h => by cases h)
    · exact cnd_i (fun h => by cases h) fun _ => rec_o H .here fun wx H => hgo _ wx ⟨L', by simpa using hL', rfl⟩ H
  · rintro d _ wx ⟨L, hI, rfl⟩ H
    dsimp only [jmpX]
    refine take_o H .here fun wx H => hend L wx ?_ ?_
    · have : (evs A).length = (pairs A).length := by simp [evs, pairs]
      rw [this]; exact hI
    · rw [List.cons_append, eB] at H
      exact H.rest (L1 := [row b3 [.func fn fa fc] T.t72]) (.cons .here .nil)
  · rintro d _ _ wx ⟨rfl, L, hD, rfl⟩ H
    dsimp only [jmpX]
    refine take_o H .here fun wx H => hstop L wx hD ?_
    rw [List.cons_append, eB] at H
    exact H.rest (L1 := [row b3 [.func fn fa fc] T.t72]) (.cons .here .nil)
/-! ### A device's -/
structure OfP where
  (b dv : Nat) (z : AllP)
def ofV (o : OfP) : Value := .func (.func F.shadow_Shadow_Of_1) [].toArray [bptr o.b, bptr o.dv].toArray
def ofE (o : OfP) (dev : Int) (A : List (Int × Int)) : List It := row o.b [allV o.z.a] T.t42 :: row o.dv [.int .i64 dev] T.t3 :: allE o.z A
def ofL (A : List (Int × Int)) (dev : Int) : List (Int × Int) := (A.filter fun u => u.1 / 16 == dev).map fun u => (u.1 % 16, u.2)
theorem ofL_len (A : List (Int × Int)) (dev : Int) : ∀ x ∈ pairs (ofL A dev), x.length = 2 := pairs_len _
theorem of_enters : enters P F.shadow_Shadow_Of_1 = true := by kernel_rfl
theorem of_sh_t (b n k : Nat) (many : Int) (A B : List (Int × Int)) (dev : Int) : Tri P F.shadow_Shadow_Of [bptr b, .int .i64 dev] (shL b n k many A B) fun v L' => ∃ o : OfP, v = ofV o ∧ L' = ofE o dev A ++ shL b n k many A B := by
  intro w S hS
  refine shadow_Shadow_Of_cv ?_
  unfold shadow_Shadow_Of
  have H := Own.start hS
  refine alc_o H fun b3 wx H => ?_
  refine call_o H (all_sh_t b n k many A B) (by repeat (first | exact Cut.nil | (apply Cut.cons; (repeat (first | exact Pick.here | apply Pick.there))))) fun vx L' wx hq H => ?_
  obtain ⟨z, rfl, rfl⟩ := hq
  unfold allE thrE at H
  simp only [List.cons_append, List.nil_append] at H
  refine ⟨_, rfl, alc_o H fun b8 wx H => ?_⟩
  unfold allV
  dsimp only [oneK]
  refine st1_o H (by repeat (first | exact Rep.here | apply Rep.there)) (by simp) fun wx H => ?_
  exact ⟨_, ⟨⟨b8, b3, z⟩, rfl, rfl⟩, H.drop (by unfold ofE allE thrE; exact (by repeat (first | exact Cut.nil | (apply Cut.cons; (repeat (first | exact Pick.here | apply Pick.there))))))⟩
theorem evs_at {A : List (Int × Int)} {k : Nat} {x : List Value} (h : (evs A)[k]? = some x) : ∃ u : Int × Int, A[k]? = some u ∧ x = [evV (u.1 / 16) (u.1 % 16), .int .i64 u.2] := by
  unfold evs at h
  rw [List.getElem?_map] at h
  cases hu : A[k]? with
  | none => rw [hu] at h; cases h
  | some u => rw [hu] at h; exact ⟨u, rfl, by cases h; rfl⟩
theorem of_it (o : OfP) (dev : Int) (A : List (Int × Int)) (hl : A.length < 800000) (hA : ∀ u ∈ A, 0 ≤ u.1 ∧ u.1 < 9223372036854775808) :
    Iter P F.shadow_Shadow_Of_1 [bptr o.b, bptr o.dv] (ofE o dev A) (pairs (ofL A dev)) := by
  intro y w0 S0 L0 w Q I D hy H h0 hstep hend hstop
  obtain ⟨fn, fa, fc, rfl⟩ := hy
  obtain ⟨b, dv, z⟩ := o
  refine shadow_Shadow_Of_1_cv ?_
  unfold shadow_Shadow_Of_1
  dsimp only [oneK]
  refine alc_o H fun b4 wx H => ?_
  have eA : ∀ (L F : List It), (L ++ [row b [allV z.a] T.t42, row dv [.int .i64 dev] T.t3]) ++ (allE z A ++ F) = L ++ (ofE ⟨b, dv, z⟩ dev A ++ F) := by
    intro L F; simp [ofE]
  have eB : ∀ (L : List It), (L ++ [row b [allV z.a] T.t42, row dv [.int .i64 dev] T.t3]) ++ allE z A = L ++ ofE ⟨b, dv, z⟩ dev A := by
    intro L; simp [ofE]
  refine ldV_o H (.there (pick_right (F := ofE ⟨b, dv, z⟩ dev A) .here L0)) rfl ?_
  have H : X.Own w0 S0 ((row b4 [.func fn fa fc] T.t70 :: (L0 ++ [row b [allV z.a] T.t42, row dv [.int .i64 dev] T.t3])) ++ allE z A) wx := by
    rw [List.cons_append, eB]; exact H
  refine rf_o (fun k Li => ∃ L, I ((A.take k).filter fun u => u.1 / 16 == dev).length L ∧ Li = row b4 [.func fn fa fc] T.t70 :: (L ++ [row b [allV z.a] T.t42, row dv [.int .i64 dev] T.t3])) (fun c Li => c = .ret ∧ ∃ L, D L ∧ Li = row b4 [.func fn fa fc] T.t70 :: (L ++ [row b [allV z.a] T.t42, row dv [.int .i64 dev] T.t3]))
    all_enters (all_it z A hl hA) (evs_len A) H ⟨L0, by simpa using h0, rfl⟩ ?_ ?_ ?_
  · rintro k x _ F l r d wx Q2 hx ⟨L, hI, rfl⟩ H hgo hdone
    obtain ⟨u, hu, rfl⟩ := evs_at hx
    have hnext := filter_next (p := fun u : Int × Int => u.1 / 16 == dev) hu
    unfold shadow_Shadow_Of_1_r1
    dsimp only [X.b2]
    refine ⟨_, _, rfl, _, rfl, alc_o H fun b17 wx H => ?_⟩
    refine st1_o H (by repeat (first | exact Rep.here | apply Rep.there)) (by simp) fun wx H => ?_
    refine st1_o H (by repeat (first | exact Rep.here | apply Rep.there)) (by simp) fun wx H => ?_
    simp only [List.set_cons_zero, List.set_cons_succ] at H
    refine rec_o H (.there .here) fun wx H => join_o ?_
    have fin : ∀ (bo : Bool) L' wx, (if bo then I ((A.take (k + 1)).filter fun u => u.1 / 16 == dev).length L' else D L') →
        X.Own w0 S0 ([row b17 [.int .i64 (u.1 / 16), .int .i64 (u.1 % 16)] T.t24, recI l r .busy none, defI d, row b4 [.func fn fa fc] T.t70] ++ (L' ++ (ofE ⟨b, dv, z⟩ dev A ++ F))) wx → shadow_Shadow_Of_1_j0 l r Q2 (!bo) wx := by
      intro bo L' wx hL' H
      have H : X.Own w0 S0 (recI l r .busy none :: defI d :: ((row b4 [.func fn fa fc] T.t70 :: (L' ++ [row b [allV z.a] T.t42, row dv [.int .i64 dev] T.t3])) ++ (allE z A ++ F))) wx := by
        rw [List.cons_append, eA]; exact H.rest (L1 := [row b17 _ _]) (.cons .here .nil)
      unfold shadow_Shadow_Of_1_j0
      cases bo
      · exact cnd_i (fun _ => rec_o H .here fun wx H => hdone .ret _ wx ⟨rfl, L', by simpa using hL', rfl⟩ H) (fun h => by cases h)
      · exact cnd_i (fun h => by cases h) fun _ => rec_o H .here fun wx H => hgo _ wx ⟨L', by simpa using hL', rfl⟩ H
    refine ldI_o H .here (by rfl) ?_
    rw [List.cons_append, eA L F] at H
    refine ldI_o H (.there (.there (.there (.there (pick_right (.there .here) L))))) (by rfl) ?_
    refine cnd_i (fun hc => ?_) fun hc => ?_
    · refine ldV_o H (.there (.there (.there .here))) rfl ?_
      refine ldI_o H .here (by rfl) ?_
      refine yield_o (A := [row b17 [.int .i64 (u.1 / 16), .int .i64 (u.1 % 16)] T.t24, recI l r .busy none, defI d, row b4 [.func fn fa fc] T.t70]) hstep H ?_ hI fun bo L' wx hL' H => ⟨bo, rfl, ?_⟩
      · have := filter_at (p := fun u : Int × Int => u.1 / 16 == dev) hu hc
        unfold pairs ofL
        rw [List.getElem?_map, List.getElem?_map, this]; rfl
      · refine fin bo L' wx ?_ H
        rw [hnext]
        simp only [hc, if_true]
        exact hL'
    · refine fin true L wx ?_ H
      rw [hnext]
      simp only [hc, if_true]
      exact hI
  · rintro d _ wx ⟨L, hI, rfl⟩ H
    dsimp only [jmpX]
    refine take_o H .here fun wx H => hend L wx ?_ ?_
    · have : (evs A).length = A.length := by simp [evs]
      rw [this, List.take_length] at hI
      have : (pairs (ofL A dev)).length = (A.filter fun u => u.1 / 16 == dev).length := by simp [pairs, ofL]
      rw [this]; exact hI
    · rw [List.cons_append, eB] at H
      exact H.rest (L1 := [row b4 [.func fn fa fc] T.t70]) (.cons .here .nil)
  · rintro d _ _ wx ⟨rfl, L, hD, rfl⟩ H
    dsimp only [jmpX]
    refine take_o H .here fun wx H => hstop L wx hD ?_
    rw [List.cons_append, eB] at H
    exact H.rest (L1 := [row b4 [.func fn fa fc] T.t70]) (.cons .here .nil)
end Go.Proofs.Ytmobpenjbaaicaa
