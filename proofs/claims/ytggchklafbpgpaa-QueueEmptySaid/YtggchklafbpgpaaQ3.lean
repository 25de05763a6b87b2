/-
  queue: going through the commands that wait; filling.
-/
import Derived.Test.YtggchklafbpgpaaQ2
import Derived.Test.YtggchklafbpgpaaA7
import Derived.Test.YtggchklafbpgpaaA6
namespace Go.Proofs.Ytggchklafbpgpaa
open Go Go.RowKit X
set_option maxRecDepth 100000
set_option linter.unusedVariables false
set_option linter.unusedSimpArgs false
set_option maxHeartbeats 1000000
theorem Own.back {w w0 : World} {S0 : Nat → Prop} {L L' : List It} {i : It} (H : X.Own w0 S0 (i :: L') w) (hp : Pick L i L') : X.Own w0 S0 L w := let ⟨S, h1, h2⟩ := H; ⟨S, hp.iff.2 h1, h2⟩
theorem Pick.left {i : It} {L L' : List It} (h : Pick L i L') (R : List It) : Pick (L ++ R) i (L' ++ R) := by
  induction h with
  | here => exact .here
  | there _ ih => exact .there ih
def nth (s r : Int) : Nat → Int
  | 0 => r
  | k + 1 => Int.tmod (W (nth s r k + 32)) s
def Qu.cnt (q : Qu) : Nat := q.left.toNat
/-! ### the ring's places -/
def ringE (g0 g1 g2 : Nat) (s r w : Int) : List It := [row g0 [.int .i64 s, .int .i64 32] tRing, row g1 [.int .i64 r] tInt, row g2 [.int .i64 w] tInt]
def ringEV (g0 g1 g2 : Nat) : Value := .func (.func F.ring_Ring_Each_1) [].toArray [ptr g0, ptr g1, ptr g2].toArray
theorem ringEach_t (s r w' : Int) : Tri P F.ring_Ring_Each [ringV s 32, .int .i64 r, .int .i64 w'] [] fun v L' => ∃ g0 g1 g2, v = ringEV g0 g1 g2 ∧ L' = ringE g0 g1 g2 s r w' := by
  intro w S hS
  refine ring_Ring_Each_cv ?_
  unfold ring_Ring_Each
  have H := Own.start hS
  refine alc_o H fun b5 wx H => alc_o H fun b7 wx H => alc_o H fun b9 wx H => ?_
  exact ⟨_, ⟨b5, b7, b9, rfl, rfl⟩, H.perm (L1 := ringE b5 b7 b9 s r w') (F := []) (by unfold ringE; exact (by repeat (first | exact Cut.nil | (apply Cut.cons; (repeat (first | exact Pick.here | apply Pick.there))))))⟩
def placesL (q : Qu) : List (List Value) := (List.range q.cnt).map fun k => [.int .i64 (nth q.s q.r k)]
theorem places_len (q : Qu) : ∀ x ∈ placesL q, x.length = 1 := by
  intro x hx
  obtain ⟨k, _, rfl⟩ := List.mem_map.1 hx
  rfl
theorem places_at {q : Qu} {k : Nat} {x : List Value} (h : (placesL q)[k]? = some x) : k < q.cnt ∧ x = [.int .i64 (nth q.s q.r k)] := by
  unfold placesL at h
  rw [List.getElem?_map] at h
  cases hu : (List.range q.cnt)[k]? with
  | none => rw [hu] at h; cases h
  | some u =>
    rw [hu] at h
    obtain ⟨h1, h2⟩ := List.getElem?_eq_some_iff.1 hu
    rw [List.getElem_range] at h2
    rw [List.length_range] at h1
    subst h2
    exact ⟨h1, by cases h; rfl⟩
theorem left_facts (q : Qu) : q.left ≤ 9223372036854775807 ∧ -9223372036854775808 ≤ q.left ∧ (0 < q.left → q.s ≠ 0) := by
  unfold Qu.left Qu.both
  split
  · rename_i h
    have hb := right_pos (may_right (by simp only [Bool.and_eq_true] at h; exact h.1))
    exact ⟨(W_range _).2, (W_range _).1, fun _ => by omega⟩
  · omega
theorem ring_it (g0 g1 g2 : Nat) (q : Qu) : Iter P F.ring_Ring_Each_1 [ptr g0, ptr g1, ptr g2] (ringE g0 g1 g2 q.s q.r q.w) (placesL q) := by
  intro y w0 S0 L0 w Q I D hy H h0 hstep hend hstop
  obtain ⟨fn, fa, fc, rfl⟩ := hy
  refine ring_Ring_Each_1_cv ?_
  unfold ring_Ring_Each_1
  have H := own_comm H
  unfold ringE at H
  simp only [List.cons_append, List.nil_append] at H
  rw [add_lit]
  refine ldI_o H .here rfl (ldI_o H .here rfl (ldI_o H (.there .here) rfl (ldI_o H (.there (.there .here)) rfl ?_)))
  refine call_p H (pl_t (left_plain q.s 32 q.r q.w)) .nil fun wx H => ?_
  have hlen : (placesL q).length = q.cnt := by simp [placesL]
  have e : ∃ e, (if (mayB q.s 32 q.r && mayB q.s 32 q.w) = true then tupV (leftV q.s 32 q.r q.w) 0 else tupV 0 1) = .tuple [.int .i64 q.left, .int .i64 e].toArray := by
    unfold Qu.left Qu.both
    split <;> exact ⟨_, rfl⟩
  obtain ⟨e, he⟩ := e
  rw [he]
  obtain ⟨hf1, hf2, hf3⟩ := left_facts q
  refine ⟨_, _, rfl, ldI_o H (.there .here) rfl ?_⟩
  refine loop_o (fun (st : Int × Int) L' => ∃ (k : Nat) (L : List It), k ≤ q.cnt ∧ st = (q.left - k, nth q.s q.r k) ∧ I k L ∧ L' = ringE g0 g1 g2 q.s q.r q.w ++ L) (fun (st : Int × Int) => st.1.toNat) H
    ⟨0, L0, by omega, by simp [nth], h0, rfl⟩ ?_
  rintro _ _ wx ⟨k, L, hk, rfl, hI, rfl⟩ H
  unfold ring_Ring_Each_1_l0
  refine cnd_i (fun h => ?_) fun h => ?_
  · have h := of_decide_eq_true h
    dsimp only at h
    have hkM : k < q.cnt := by unfold Qu.cnt; omega
    have hx : (placesL q)[k]? = some [.int .i64 (nth q.s q.r k)] := by simp [placesL, hkM]
    have H' : X.Own w0 S0 (L ++ (ringE g0 g1 g2 q.s q.r q.w ++ [])) wx := by rw [List.append_nil]; exact own_comm H
    refine callVal_mono (hstep k _ L [] wx hx hI H') ?_
    rintro _ w' ⟨bo, rfl, L', hL', H'⟩
    rw [List.append_nil] at H'
    refine ⟨_, rfl, ?_⟩
    cases bo
    · exact cnd_i (fun _ => hstop _ _ hL' H') (fun h => by cases h)
    · refine cnd_i (fun h => by cases h) fun _ => ?_
      have H' := own_comm H'
      have H2 := H'
      unfold ringE at H'
      simp only [List.cons_append, List.nil_append] at H'
      rw [add_lit]
      refine ldI_o H' .here rfl (ldI_o H' .here rfl ⟨hf3 (by omega), ?_⟩)
      have e1 : IntKind.i64.wrap (q.left - (k : Int) - 1) = q.left - ((k + 1 : Nat) : Int) := by rw [W_id (by omega) (by omega)]; omega
      dsimp only
      rw [e1]
      exact ⟨⟨_, ⟨k + 1, L', by omega, rfl, by simpa using hL', rfl⟩, H2⟩, by show (q.left - ((k + 1 : Nat) : Int)).toNat < (q.left - (k : Int)).toNat; omega⟩
  · have h := of_decide_eq_false h
    dsimp only at h
    have : k = q.cnt := by unfold Qu.cnt at *; omega
    subst this
    exact hend _ _ (by rw [hlen]; exact hI) (own_comm H)
theorem ring_enters : enters P F.ring_Ring_Each_1 = true := by kernel_rfl
/-! ### the queue's commands -/
def eachE (g h m : Nat) (q : Qu) (bs : List Int) : List It := [row g q.cells tQ, row h [ptr m] tPm, memI m bs]
def eachQV (g h : Nat) : Value := .func (.func F.queue_Queue_Each_1) [].toArray [ptr g, ptr h].toArray
theorem Each_t (m : Nat) (q : Qu) (bs : List Int) : Tri P F.queue_Queue_Each [quV q, ptr m] [memI m bs] fun v L' => ∃ g h, v = eachQV g h ∧ L' = eachE g h m q bs := by
  intro w S hS
  refine queue_Queue_Each_cv ?_
  unfold queue_Queue_Each
  have H := Own.start hS
  refine alc_o H fun b6 wx H => alc_o H fun b8 wx H => ?_
  exact ⟨_, ⟨b6, b8, rfl, rfl⟩, H.perm (L1 := eachE b6 b8 m q bs) (F := []) (by unfold eachE; exact (by repeat (first | exact Cut.nil | (apply Cut.cons; (repeat (first | exact Pick.here | apply Pick.there))))))⟩
def comsL (q : Qu) (bs : List Int) : List (List Value) := (List.range q.cnt).map fun k => [cmV (loadM bs q.a q.s (nth q.s q.r k)).1, .int .i64 (loadM bs q.a q.s (nth q.s q.r k)).2]
theorem coms_len (q : Qu) (bs : List Int) : ∀ x ∈ comsL q bs, x.length = 2 := by
  intro x hx
  obtain ⟨k, _, rfl⟩ := List.mem_map.1 hx
  rfl
theorem coms_at {q : Qu} {bs : List Int} {k : Nat} {x : List Value} (h : (comsL q bs)[k]? = some x) : k < q.cnt ∧ x = [cmV (loadM bs q.a q.s (nth q.s q.r k)).1, .int .i64 (loadM bs q.a q.s (nth q.s q.r k)).2] := by
  unfold comsL at h
  rw [List.getElem?_map] at h
  cases hu : (List.range q.cnt)[k]? with
  | none => rw [hu] at h; cases h
  | some u =>
    rw [hu] at h
    obtain ⟨h1, h2⟩ := List.getElem?_eq_some_iff.1 hu
    rw [List.getElem_range] at h2
    rw [List.length_range] at h1
    subst h2
    exact ⟨h1, by cases h; rfl⟩
theorem each_it (g h m : Nat) (q : Qu) (bs : List Int) : Iter P F.queue_Queue_Each_1 [ptr g, ptr h] (eachE g h m q bs) (comsL q bs) := by
  intro y w0 S0 L0 w Q I D hy H h0 hstep hend hstop
  obtain ⟨fn, fa, fc, rfl⟩ := hy
  refine queue_Queue_Each_1_cv ?_
  unfold queue_Queue_Each_1
  dsimp only [oneK]
  refine alc_o H fun b4 wx H => ?_
  refine drw_o H fun wx H => ?_
  have hp : Pick (row b4 [.func fn fa fc] tFn2 :: (L0 ++ eachE g h m q bs)) (row g q.cells tQ) (row b4 [.func fn fa fc] tFn2 :: (L0 ++ [row h [ptr m] tPm, memI m bs])) := .there (pick_right (F := eachE g h m q bs) .here L0)
  simp only [add_lit]
  refine ldI_o H hp rfl (ldI_o H hp rfl (ldI_o H hp rfl (ldI_o H hp rfl (ldI_o H hp rfl (ldI_o H hp rfl ?_)))))
  refine call_p H (ring_t q) .nil fun wx H => ?_
  refine ⟨_, _, rfl, ldI_o H hp rfl rfl, ldI_o H hp rfl rfl, ?_⟩
  refine call_o H (ringEach_t q.s q.r q.w) .nil fun vx L' wx hq H => ?_
  obtain ⟨g0, g1, g2, rfl, rfl⟩ := hq
  refine ⟨_, rfl, ?_⟩
  have hlen : (comsL q bs).length = (placesL q).length := by simp [placesL, comsL]
  have H := own_comm H
  refine rf_o (L0 := row b4 [.func fn fa fc] tFn2 :: (L0 ++ eachE g h m q bs)) (fun k Li => ∃ L, I k L ∧ Li = row b4 [.func fn fa fc] tFn2 :: (L ++ eachE g h m q bs)) (fun c Li => c = .ret ∧ ∃ L, D L ∧ Li = row b4 [.func fn fa fc] tFn2 :: (L ++ eachE g h m q bs))
    ring_enters (ring_it g0 g1 g2 q) (places_len q) H ⟨L0, h0, rfl⟩ ?_ ?_ ?_
  · rintro k x _ F l r d wx Q2 hx ⟨L, hI, rfl⟩ H hgo hdone
    obtain ⟨hk, rfl⟩ := places_at hx
    unfold queue_Queue_Each_1_r0
    dsimp only [X.b1]
    refine ⟨_, rfl, rec_o H .here fun wx H => ?_⟩
    refine drw_o H fun wx H => ?_
    have eq : ∀ (z : It) (L R : List It), z :: defI d :: ((row b4 [.func fn fa fc] tFn2 :: (L ++ eachE g h m q bs)) ++ R) = [z, defI d, row b4 [.func fn fa fc] tFn2] ++ (L ++ (eachE g h m q bs ++ R)) := by intro z L R; simp
    rw [eq] at H
    have pk : ∀ (i : It) (F' : List It), Pick (eachE g h m q bs) i F' → Pick ([recI l r .busy none, defI d, row b4 [.func fn fa fc] tFn2] ++ (L ++ (eachE g h m q bs ++ (ringE g0 g1 g2 q.s q.r q.w ++ F)))) i ([recI l r .busy none, defI d, row b4 [.func fn fa fc] tFn2] ++ (L ++ (F' ++ (ringE g0 g1 g2 q.s q.r q.w ++ F)))) :=
      fun i F' hp => .there (.there (.there (pick_right (Pick.left hp _) L)))
    refine ldV_o H (.there (.there .here)) rfl ?_
    refine ldP_o H (pk _ _ (.there .here)) rfl (ldI_o H (pk _ _ .here) rfl (ldI_o H (pk _ _ .here) rfl ?_))
    refine call_p H (Load_t m bs q.a q.s (nth q.s q.r k)) (.cons (pk _ _ (.there (.there .here))) .nil) fun wx H => ?_
    have hx2 : (comsL q bs)[k]? = some [cmV (loadM bs q.a q.s (nth q.s q.r k)).1, .int .i64 (loadM bs q.a q.s (nth q.s q.r k)).2] := by simp [comsL, hk]
    unfold loadV
    generalize loadM bs q.a q.s (nth q.s q.r k) = z at hx2 ⊢
    refine ⟨_, _, _, _, _, _, _, _, _, _, rfl, ldV_o H (.there (.there .here)) rfl rfl, ?_⟩
    refine yield_o (A := [recI l r .busy none, defI d, row b4 [.func fn fa fc] tFn2]) hstep H hx2 hI fun bo L' wx hL' H => ⟨bo, rfl, ?_⟩
    rw [← eq] at H
    cases bo
    · exact cnd_i (fun _ => rec_o H .here fun wx H => hdone .ret _ wx ⟨rfl, L', by simpa using hL', rfl⟩ H) (fun h => by cases h)
    · exact cnd_i (fun h => by cases h) fun _ => rec_o H .here fun wx H => hgo _ wx ⟨L', by simpa using hL', rfl⟩ H
  · rintro d _ wx ⟨L, hI, rfl⟩ H
    dsimp only [jmpX]
    refine take_o H .here fun wx H => hend L wx ?_ ?_
    · rw [hlen]; exact hI
    · rw [List.cons_append] at H
      have := H.rest (L1 := [row b4 [.func fn fa fc] tFn2]) (.cons .here .nil)
      exact own_left this
  · rintro d _ _ wx ⟨rfl, L, hD, rfl⟩ H
    dsimp only [jmpX]
    refine take_o H .here fun wx H => hstop L wx hD ?_
    rw [List.cons_append] at H
    have := H.rest (L1 := [row b4 [.func fn fa fc] tFn2]) (.cons .here .nil)
    exact own_left this
theorem each_enters : enters P F.queue_Queue_Each_1 = true := by kernel_rfl
end Go.Proofs.Ytggchklafbpgpaa
