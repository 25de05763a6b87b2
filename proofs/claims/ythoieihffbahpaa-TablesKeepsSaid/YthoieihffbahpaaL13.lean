/-
  tables: TablesRoutes.
-/
import Derived.Test.YthoieihffbahpaaL12
import Derived.Test.YthoieihffbahpaaM9
namespace Go.Proofs.Ythoieihffbahpaa
open Go Go.RowKit X
set_option maxRecDepth 100000
set_option linter.unusedVariables false
set_option maxHeartbeats 2000000
def rouC (r : Int × Int × Bool) : List Value := [.int .i64 r.1, .int .i64 r.2.1, .bool r.2.2]
theorem rou_cells {w : World} {q : Option Addr} {rs : List (Int × Int × Bool)} (h : Slots w q 3 (rs.map rouC)) {k : Nat} (hk : k < rs.length) :
    ∃ a, q = some a ∧ w.cell? (a.add (k * 3)) = some (.int .i64 rs[k].1) ∧ w.cell? ((a.add (k * 3)).add 1) = some (.int .i64 rs[k].2.1) ∧ w.cell? ((a.add (k * 3)).add 2) = some (.bool rs[k].2.2) := by
  obtain ⟨a, ha, hc⟩ := h k (rouC rs[k]) (by simp [hk])
  have h0 := hc 0 _ rfl
  rw [add_zero'] at h0
  exact ⟨a, ha, h0, hc 1 _ rfl, hc 2 _ rfl⟩
theorem rouL_mono {bs : List Int} {v : Bool} {b a : Int} {e e' : Nat} (h : e ≤ e') : (rouL bs v b a e).length ≤ (rouL bs v b a e').length := by
  induction e' with
  | zero => rw [show e = 0 by omega]; exact Nat.le_refl _
  | succ n ih =>
    by_cases hn : e = n + 1
    · subst hn; exact Nat.le_refl _
    · rw [rouL_succ, List.length_append]
      have := ih (by omega)
      omega
theorem rouL_at {bs : List Int} {v : Bool} {b a : Int} {x : List Value} : ∀ {M j : Nat}, (rouL bs v b a M)[j]? = some x → ∃ e, e < M ∧ rouF bs v b a e = some x ∧ (rouL bs v b a e).length = j
  | 0, j, h => by cases h
  | M + 1, j, h => by
    rw [rouL_succ] at h
    by_cases hj : j < (rouL bs v b a M).length
    · rw [List.getElem?_append_left hj] at h
      obtain ⟨e, h1, h2⟩ := rouL_at h
      exact ⟨e, by omega, h2⟩
    · rw [List.getElem?_append_right (by omega)] at h
      cases hf : rouF bs v b a M with
      | none => rw [hf] at h; cases h
      | some y =>
        rw [hf] at h
        have hlt := (List.getElem?_eq_some_iff.1 h).1
        simp only [Option.toList_some, List.length_cons, List.length_nil] at hlt
        have e0 : j - (rouL bs v b a M).length = 0 := by omega
        rw [e0] at h
        simp only [Option.toList_some, List.getElem?_cons_zero, Option.some.injEq] at h
        exact ⟨M, by omega, by rw [hf, h], by omega⟩
theorem evN5 {b : Int} (h : b ≤ 5) : evN b ≤ 64 := by
  unfold evN
  have hk : (evK b).toNat ≤ 5 := by unfold evK; split <;> split <;> omega
  have : (2 : Nat) ^ (evK b).toNat ≤ 2 ^ 5 := Nat.pow_le_pow_right (by omega) hk
  have h2 : (2 : Int) ^ (evK b).toNat ≤ 32 := by exact_mod_cast this
  omega
theorem route_ok {bs : List Int} {b a : Int} (h0 : 0 ≤ a) (h1 : a + 8 * evN b ≤ bs.length) (h2 : bs.length ≤ 4096) {k : Int} (k0 : 0 ≤ k) (k1 : k < evN b) : (routeM bs true b a k).2 = 0 := by
  have hh : holdsB bs.length (a + 8 * k) 8 = true := holdsB_iff.2 (by omega)
  have e : evM bs.length true b a k = (a + 8 * k, 0) := by
    unfold evM
    rw [if_neg (by simp; omega), W_id (by omega) (by omega), hh, if_neg (by simp)]
  unfold routeM
  rw [e, if_neg (by simp)]
  split <;> rfl
theorem tablesRoutes_cv {W : World} {p q : Option Addr} {c1 c2 : Nat} {sz : Int} {dv : Bool} {bi a : Int} {evs : List Int} {rs : List (Int × Int × Bool)} (hp : Sl W p (ints .u8 evs)) (hq : Slots W q 3 (rs.map rouC))
    (hevs : ∀ x ∈ evs, 0 ≤ x ∧ x < 256) (ha : -9223372036854775808 ≤ a ∧ a < 9223372036854775808) (hl : evs.length ≤ 9223372036854775807) :
    CV P F.crierlaw18_TablesRoutes [.int .i64 sz, .agg [.bool dv, .int .i64 bi, .int .i64 a].toArray, .slice p evs.length c1, .slice q rs.length c2] W fun v w' => v = .bool true ∧ Below W.heap.size W w' := by
  refine crierlaw18_TablesRoutes_cv ?_
  unfold crierlaw18_TablesRoutes
  have H := keep_start W
  refine alc_o H fun b11 wx H => alc_o H fun b13 wx H => ?_
  refine call_p H (awake_t) (by repeat (first | exact Cut.nil | (apply Cut.cons; (repeat (first | exact Pick.here | apply Pick.there))))) fun wx H => ?_
  refine ⟨_, rfl, cnd_i (fun h => by cases h) fun _ => ?_⟩
  refine call_o H (lawNewX_t sz) (by repeat (first | exact Cut.nil | (apply Cut.cons; (repeat (first | exact Pick.here | apply Pick.there))))) fun vx L' wx hq H => ?_
  obtain ⟨b, b', rfl, rfl⟩ := hq
  simp only [List.cons_append, List.nil_append] at H
  have hN := lawN_le sz
  generalize lawN sz = N at *
  refine ⟨_, _, rfl, alc_o H fun b24 wx H => ?_⟩
  refine st1_o H (by repeat (first | exact Rep.here | apply Rep.there)) (by simp) fun wx H => ?_
  simp only [List.set_cons_zero, List.set_cons_succ] at H
  refine join_o ?_
  refine drw_o H fun wx H => ?_
  have out : ∀ wx, X.Own W (fun k => k < W.heap.size) [row b24 [ptr b] T.t25, memI b (List.replicate N 0), memI b' (List.replicate N 0), row b13 [.bool false] T.t4, row b11 [.bool dv, .int .i64 bi, .int .i64 a] T.t36, keep W] wx →
      crierlaw18_TablesRoutes_j7 p evs.length q rs.length (fun v w' => v = .bool true ∧ Below W.heap.size W w') b11 b13 true b24 true wx := by
    intro wx H
    unfold crierlaw18_TablesRoutes_j7
    refine cnd_i (fun _ => join_o (cnd_i (fun _ => ?_) (fun h => by cases h))) (fun h => by cases h)
    repeat (first | refine ldI_o H (by repeat (first | exact Pick.here | apply Pick.there)) (by rfl) ?_ | refine ldL_o H (by repeat (first | exact Pick.here | apply Pick.there)) (by rfl) ?_ | refine ldB_o H (by repeat (first | exact Pick.here | apply Pick.there)) (by rfl) ?_ | refine ldP_o H (by repeat (first | exact Pick.here | apply Pick.there)) (by rfl) ?_ | refine ldS_o H (by repeat (first | exact Pick.here | apply Pick.there)) (by rfl) ?_)
    refine st1_o H (by repeat (first | exact Rep.here | apply Rep.there)) (by simp) fun wx H => ?_
    show crierlaw18_TablesRoutes_j0 _ _ _
    unfold crierlaw18_TablesRoutes_j0
    repeat (first | refine ldI_o H (by repeat (first | exact Pick.here | apply Pick.there)) (by rfl) ?_ | refine ldL_o H (by repeat (first | exact Pick.here | apply Pick.there)) (by rfl) ?_ | refine ldB_o H (by repeat (first | exact Pick.here | apply Pick.there)) (by rfl) ?_ | refine ldP_o H (by repeat (first | exact Pick.here | apply Pick.there)) (by rfl) ?_ | refine ldS_o H (by repeat (first | exact Pick.here | apply Pick.there)) (by rfl) ?_)
    exact ⟨rfl, keep_done H (by repeat (first | exact Pick.here | apply Pick.there))⟩
  refine cnd_i (fun h => by cases h) fun _ => ?_
  refine ldP_o H (by repeat (first | exact Pick.here | apply Pick.there)) (by rfl) (cnd_i (fun h => by cases h) fun _ => ldI_o H (by repeat (first | exact Pick.here | apply Pick.there)) (by rfl) (cnd_i (fun _ => out _ H) fun h1 => ldI_o H (by repeat (first | exact Pick.here | apply Pick.there)) (by rfl) (cnd_i (fun _ => out _ H) fun h2 => ?_)))
  have h1 := of_decide_eq_false h1
  have h2 := of_decide_eq_false h2
  repeat (first | refine ldI_o H (by repeat (first | exact Pick.here | apply Pick.there)) (by rfl) ?_ | refine ldL_o H (by repeat (first | exact Pick.here | apply Pick.there)) (by rfl) ?_ | refine ldB_o H (by repeat (first | exact Pick.here | apply Pick.there)) (by rfl) ?_ | refine ldP_o H (by repeat (first | exact Pick.here | apply Pick.there)) (by rfl) ?_ | refine ldS_o H (by repeat (first | exact Pick.here | apply Pick.there)) (by rfl) ?_)
  refine call_p H (size_t b (List.replicate N 0)) (by repeat (first | exact Cut.nil | (apply Cut.cons; (repeat (first | exact Pick.here | apply Pick.there))))) fun wx H => ?_
  refine ⟨_, rfl, ldB_o H (by repeat (first | exact Pick.here | apply Pick.there)) (by rfl) (ldI_o H (by repeat (first | exact Pick.here | apply Pick.there)) (by rfl) (ldI_o H (by repeat (first | exact Pick.here | apply Pick.there)) (by rfl) rfl)), ldI_o H (by repeat (first | exact Pick.here | apply Pick.there)) (by rfl) rfl, ?_⟩
  refine call_p H (tri_plain (events_plain dv bi a)) (by repeat (first | exact Cut.nil | (apply Cut.cons; (repeat (first | exact Pick.here | apply Pick.there))))) fun wx H => ?_
  refine ⟨_, rfl, ldI_o H (by repeat (first | exact Pick.here | apply Pick.there)) (by rfl) rfl, ?_⟩
  have hev := evN_range bi
  have hev5 := evN5 (b := bi) (by omega)
  rw [List.length_replicate, W_id (n := 8 * evN bi) (by omega) (by omega), W_id (n := (N : Int) - 8 * evN bi) (by omega) (by omega)]
  cases h3 : decide (a > (N : Int) - 8 * evN bi)
  case true => exact out _ H
  have h3 := of_decide_eq_false h3
  clear out
  unfold crierlaw18_TablesRoutes_j7
  refine cnd_i (fun h => by cases h) fun _ => ?_
  refine st1_o H (by repeat (first | exact Rep.here | apply Rep.there)) (by simp) fun wx H => ?_
  simp only [List.set_cons_zero, List.set_cons_succ] at H
  -- the routes are set
  refine loop_o (fun (st : Int) L => ∃ (k : Nat) (bs : List Int), k ≤ evs.length ∧ st = k ∧ (∀ x ∈ bs, 0 ≤ x ∧ x < 256) ∧ bs.length = N ∧ L = [memI b bs, row b24 [ptr b] T.t25, memI b' (List.replicate N 0), row b13 [.bool false] T.t4, row b11 [.bool true, .int .i64 bi, .int .i64 a] T.t36, keep W]) (fun (st : Int) => ((evs.length : Int) - st).toNat)
    (H.drop (L1 := [memI b (List.replicate N 0), row b24 [ptr b] T.t25, memI b' (List.replicate N 0), row b13 [.bool false] T.t4, row b11 [.bool true, .int .i64 bi, .int .i64 a] T.t36, keep W]) (by repeat (first | exact Cut.nil | (apply Cut.cons; (repeat (first | exact Pick.here | apply Pick.there))))))
    ⟨0, _, by omega, rfl, fun x hx => by rw [(List.mem_replicate.1 hx).2]; omega, by rw [List.length_replicate], rfl⟩ ?_
  rintro _ _ wx ⟨k, bs, hk, rfl, hbr, hbl, rfl⟩ H
  unfold crierlaw18_TablesRoutes_l6
  refine join_o (and2 (J := fun x w => crierlaw18_TablesRoutes_j5 _ _ _ _ _ _ _ _ _ _ x w) ?_)
  unfold crierlaw18_TablesRoutes_j5
  refine cnd_i (fun h => ?_) fun h => ?_
  · simp only [Bool.and_eq_true, decide_eq_true_eq] at h
    obtain ⟨g1, g2⟩ := h
    have k1 : k < evs.length := by omega
    have k2 : k < rs.length := by omega
    refine drw_o H fun wx H => ?_
    repeat (first | refine ldI_o H (by repeat (first | exact Pick.here | apply Pick.there)) (by rfl) ?_ | refine ldL_o H (by repeat (first | exact Pick.here | apply Pick.there)) (by rfl) ?_ | refine ldB_o H (by repeat (first | exact Pick.here | apply Pick.there)) (by rfl) ?_ | refine ldP_o H (by repeat (first | exact Pick.here | apply Pick.there)) (by rfl) ?_ | refine ldS_o H (by repeat (first | exact Pick.here | apply Pick.there)) (by rfl) ?_)
    refine ⟨⟨by omega, g1⟩, ?_⟩
    rw [Int.toNat_natCast]
    obtain ⟨a1, rfl, hcell⟩ := H.rd (i := keep W) (by repeat (first | exact Pick.here | apply Pick.there)) (keep_sl hp) k _ (ints_get k1)
    refine ⟨_, by rw [Nat.mul_one]; exact hcell, ⟨by omega, g2⟩, ?_⟩
    rw [Int.toNat_natCast]
    obtain ⟨a2, rfl, e1, e2, e3⟩ := rou_cells (Own.rdS H (i := keep W) (by repeat (first | exact Pick.here | apply Pick.there)) (keep_slots hq)) k2
    refine ⟨_, e1, _, e2, _, e3, ?_⟩
    have hc := hevs _ (List.getElem_mem k1)
    rw [W_id (n := evs[k]) (by omega) (by omega)]
    refine call_o H (setRoute_t b bs true bi a evs[k] rs[k].1 rs[k].2.1 rs[k].2.2) (by repeat (first | exact Cut.nil | (apply Cut.cons; (repeat (first | exact Pick.here | apply Pick.there))))) fun vx L' wx hq H => ?_
    obtain ⟨rfl, rfl⟩ := hq
    simp only [List.cons_append, List.nil_append] at H
    refine ⟨_, rfl, ⟨_, ⟨k + 1, _, by omega, ?_, setM_range hbr _ _ _ _ _ _ _, by rw [setM_length, hbl], rfl⟩, H⟩, ?_⟩
    · rw [W_id (by omega) (by omega)]; push_cast; rfl
    · rw [W_id (by omega) (by omega)]; omega
  refine alc_o H fun b62 wx H => alc_o H fun b64 wx H => ?_
  refine st1_o H (by repeat (first | exact Rep.here | apply Rep.there)) (by simp) fun wx H => ?_
  refine st1_o H (by repeat (first | exact Rep.here | apply Rep.there)) (by simp) fun wx H => ?_
  simp only [List.set_cons_zero] at H
  repeat (first | refine ldI_o H (by repeat (first | exact Pick.here | apply Pick.there)) (by rfl) ?_ | refine ldL_o H (by repeat (first | exact Pick.here | apply Pick.there)) (by rfl) ?_ | refine ldB_o H (by repeat (first | exact Pick.here | apply Pick.there)) (by rfl) ?_ | refine ldP_o H (by repeat (first | exact Pick.here | apply Pick.there)) (by rfl) ?_ | refine ldS_o H (by repeat (first | exact Pick.here | apply Pick.there)) (by rfl) ?_)
  refine call_o H (routes_t true bi a b bs) (by repeat (first | exact Cut.nil | (apply Cut.cons; (repeat (first | exact Pick.here | apply Pick.there))))) fun vx L' wx hq H => ?_
  obtain ⟨g5, g7, rfl, rfl⟩ := hq
  refine ⟨_, rfl, ?_⟩
  have hM : (rouM bi : Int) = evN bi := by unfold rouM; split <;> omega
  have hok : ∀ k : Nat, k < rouM bi → (routeM bs true bi a k).2 = 0 := fun k hk => route_ok (by omega) (by omega) (by omega) (by omega) (by omega)
  have hlen : ∀ x ∈ rouL bs true bi a (rouM bi), x.length = 2 := by
    intro x hx
    obtain ⟨j, hj⟩ := List.mem_iff_getElem?.1 hx
    obtain ⟨e, _, h2, _⟩ := rouL_at hj
    unfold rouF at h2
    split at h2
    · cases h2; rfl
    · cases h2
  have hT64 : (rouL bs true bi a (rouM bi)).length ≤ 64 := by
    have : (rouL bs true bi a (rouM bi)).length ≤ rouM bi := by
      have := List.length_filterMap_le (rouF bs true bi a) (List.range (rouM bi))
      rw [List.length_range] at this; exact this
    omega
  have H := H.drop (L1 := [row b64 [.int .i64 0] T.t3, row b62 [.int .i64 (-1)] T.t3, row b24 [ptr b] T.t25, row b13 [.bool false] T.t4, row b11 [.bool true, .int .i64 bi, .int .i64 a] T.t36, keep W] ++ rouE g5 g7 true bi a b bs) (by unfold rouE; simp only [List.cons_append, List.nil_append]; exact (by repeat (first | exact Cut.nil | (apply Cut.cons; (repeat (first | exact Pick.here | apply Pick.there))))))
  unfold funV
  refine rf_o (fun k L => ∃ last : Int, (last = -1 ∨ ∃ e : Nat, e < 64 ∧ last = e ∧ (rouL bs true bi a e).length < k) ∧ k ≤ (rouL bs true bi a (rouM bi)).length ∧ L = [row b64 [.int .i64 (k : Int)] T.t3, row b62 [.int .i64 last] T.t3, row b24 [ptr b] T.t25, row b13 [.bool false] T.t4, row b11 [.bool true, .int .i64 bi, .int .i64 a] T.t36, keep W])
    (fun c L => False) rou_enters (routes_it g5 g7 true bi a b bs hbr hok) hlen H ⟨-1, .inl rfl, by omega, rfl⟩ ?_ ?_ ?_
  · rintro k x _ F l r d wx Q hx ⟨last, hlast, hkl, rfl⟩ H hgo hdone
    have hk := (List.getElem?_eq_some_iff.1 hx).1
    obtain ⟨e, he, hf, hj⟩ := rouL_at hx
    unfold rouF at hf
    split at hf
    case isFalse => cases hf
    rename_i hv
    cases hf
    unfold crierlaw18_TablesRoutes_r2
    dsimp only [X.b2]
    refine ⟨_, rfl, _, _, _, rfl, ?_⟩
    unfold rouE at H
    simp only [List.cons_append, List.nil_append] at H
    refine alc_o H fun b86 wx H => ?_
    refine st1_o H (by repeat (first | exact Rep.here | apply Rep.there)) (by simp) fun wx H => ?_
    refine st1_o H (by repeat (first | exact Rep.here | apply Rep.there)) (by simp) fun wx H => ?_
    refine st1_o H (by repeat (first | exact Rep.here | apply Rep.there)) (by simp) fun wx H => ?_
    simp only [List.set_cons_zero, List.set_cons_succ] at H
    refine rec_o H (by repeat (first | exact Rep.here | apply Rep.there)) fun wx H => ?_
    repeat (first | refine ldI_o H (by repeat (first | exact Pick.here | apply Pick.there)) (by rfl) ?_ | refine ldL_o H (by repeat (first | exact Pick.here | apply Pick.there)) (by rfl) ?_ | refine ldB_o H (by repeat (first | exact Pick.here | apply Pick.there)) (by rfl) ?_ | refine ldP_o H (by repeat (first | exact Pick.here | apply Pick.there)) (by rfl) ?_ | refine ldS_o H (by repeat (first | exact Pick.here | apply Pick.there)) (by rfl) ?_)
    refine call_p H (route_t b bs hbr true bi a (e : Int)) (by repeat (first | exact Cut.nil | (apply Cut.cons; (repeat (first | exact Pick.here | apply Pick.there))))) fun wx H => ?_
    refine ⟨_, _, _, _, rfl, alc_o H fun b102 wx H => ?_⟩
    refine st1_o H (by repeat (first | exact Rep.here | apply Rep.there)) (by simp) fun wx H => ?_
    refine st1_o H (by repeat (first | exact Rep.here | apply Rep.there)) (by simp) fun wx H => ?_
    refine st1_o H (by repeat (first | exact Rep.here | apply Rep.there)) (by simp) fun wx H => ?_
    simp only [List.set_cons_zero, List.set_cons_succ] at H
    refine join_o (ldI_o H (by repeat (first | exact Pick.here | apply Pick.there)) (by rfl) (cnd_i (fun h => ?_) fun h => ?_))
    · have h := of_decide_eq_true h
      rcases hlast with rfl | ⟨e', he', rfl, hlt⟩
      · omega
      · have := rouL_mono (bs := bs) (v := true) (b := bi) (a := a) (e := e) (e' := e') (by omega)
        omega
    rw [hok e he]
    refine cnd_i (fun h => by cases h) fun _ => ?_
    repeat (first | refine ldI_o H (by repeat (first | exact Pick.here | apply Pick.there)) (by rfl) ?_ | refine ldL_o H (by repeat (first | exact Pick.here | apply Pick.there)) (by rfl) ?_ | refine ldB_o H (by repeat (first | exact Pick.here | apply Pick.there)) (by rfl) ?_ | refine ldP_o H (by repeat (first | exact Pick.here | apply Pick.there)) (by rfl) ?_ | refine ldS_o H (by repeat (first | exact Pick.here | apply Pick.there)) (by rfl) ?_)
    refine rou_ne ?_
    rw [hv]
    rw [show (!((routeM bs true bi a e).1.1 == (routeM bs true bi a e).1.1 && ((routeM bs true bi a e).1.2.1 == (routeM bs true bi a e).1.2.1 && true == true))) = false by simp]
    refine cnd_i (fun h => by cases h) fun _ => ?_
    repeat (first | refine ldI_o H (by repeat (first | exact Pick.here | apply Pick.there)) (by rfl) ?_ | refine ldL_o H (by repeat (first | exact Pick.here | apply Pick.there)) (by rfl) ?_ | refine ldB_o H (by repeat (first | exact Pick.here | apply Pick.there)) (by rfl) ?_ | refine ldP_o H (by repeat (first | exact Pick.here | apply Pick.there)) (by rfl) ?_ | refine ldS_o H (by repeat (first | exact Pick.here | apply Pick.there)) (by rfl) ?_)
    unfold crierlaw18_TablesRoutes_j1
    refine cnd_i (fun h => by cases h) fun _ => ?_
    refine st1_o H (by repeat (first | exact Rep.here | apply Rep.there)) (by simp) fun wx H => ?_
    repeat (first | refine ldI_o H (by repeat (first | exact Pick.here | apply Pick.there)) (by rfl) ?_ | refine ldL_o H (by repeat (first | exact Pick.here | apply Pick.there)) (by rfl) ?_ | refine ldB_o H (by repeat (first | exact Pick.here | apply Pick.there)) (by rfl) ?_ | refine ldP_o H (by repeat (first | exact Pick.here | apply Pick.there)) (by rfl) ?_ | refine ldS_o H (by repeat (first | exact Pick.here | apply Pick.there)) (by rfl) ?_)
    refine st1_o H (by repeat (first | exact Rep.here | apply Rep.there)) (by simp) fun wx H => ?_
    simp only [List.set_cons_zero, List.set_cons_succ] at H
    refine rec_o H (by repeat (first | exact Rep.here | apply Rep.there)) fun wx H => ?_
    have H := H.rest (Cut.cons .here .nil)
    have H := H.rest (Cut.cons .here .nil)
    rw [W_id (n := (k : Int) + 1) (by omega) (by omega)] at H
    refine hgo [row b64 [.int .i64 ((k + 1 : Nat) : Int)] T.t3, row b62 [.int .i64 (e : Int)] T.t3, row b24 [ptr b] T.t25, row b13 [.bool false] T.t4, row b11 [.bool true, .int .i64 bi, .int .i64 a] T.t36, keep W] wx ⟨e, .inr ⟨e, by omega, rfl, by omega⟩, by omega, rfl⟩ ?_
    rw [show ((k + 1 : Nat) : Int) = (k : Int) + 1 by push_cast; rfl]
    exact H
  · rintro d _ wx ⟨last, _, _, rfl⟩ H
    dsimp only [jmpX]
    unfold rouE at H
    simp only [List.cons_append, List.nil_append] at H
    generalize hT : (rouL bs true bi a (rouM bi)).length = Tn at *
    refine loop_o (fun (st : Int) L => ∃ k : Nat, k ≤ rouM bi ∧ st = k ∧ L = [row b64 [.int .i64 ((Tn : Int) - (rouL bs true bi a k).length)] T.t3, defI d, row b62 [.int .i64 last] T.t3, row b24 [ptr b] T.t25, row b13 [.bool false] T.t4, row b11 [.bool true, .int .i64 bi, .int .i64 a] T.t36, memI b bs, keep W]) (fun (st : Int) => ((rouM bi : Int) - st).toNat)
      (H.drop (L1 := [row b64 [.int .i64 (Tn : Int)] T.t3, defI d, row b62 [.int .i64 last] T.t3, row b24 [ptr b] T.t25, row b13 [.bool false] T.t4, row b11 [.bool true, .int .i64 bi, .int .i64 a] T.t36, memI b bs, keep W]) (by repeat (first | exact Cut.nil | (apply Cut.cons; (repeat (first | exact Pick.here | apply Pick.there)))))) ⟨0, by omega, rfl, by simp [rouL]⟩ ?_
    rintro _ _ wx ⟨k, hk, rfl, rfl⟩ H
    unfold crierlaw18_TablesRoutes_l4
    repeat (first | refine ldI_o H (by repeat (first | exact Pick.here | apply Pick.there)) (by rfl) ?_ | refine ldL_o H (by repeat (first | exact Pick.here | apply Pick.there)) (by rfl) ?_ | refine ldB_o H (by repeat (first | exact Pick.here | apply Pick.there)) (by rfl) ?_ | refine ldP_o H (by repeat (first | exact Pick.here | apply Pick.there)) (by rfl) ?_ | refine ldS_o H (by repeat (first | exact Pick.here | apply Pick.there)) (by rfl) ?_)
    refine call_p H (tri_plain (events_plain true bi a)) (by repeat (first | exact Cut.nil | (apply Cut.cons; (repeat (first | exact Pick.here | apply Pick.there))))) fun wx H => ?_
    refine ⟨_, rfl, cnd_i (fun h => join_o ?_) fun h => ?_⟩
    · have h := of_decide_eq_true h
      have hkM : k < rouM bi := by omega
      repeat (first | refine ldI_o H (by repeat (first | exact Pick.here | apply Pick.there)) (by rfl) ?_ | refine ldL_o H (by repeat (first | exact Pick.here | apply Pick.there)) (by rfl) ?_ | refine ldB_o H (by repeat (first | exact Pick.here | apply Pick.there)) (by rfl) ?_ | refine ldP_o H (by repeat (first | exact Pick.here | apply Pick.there)) (by rfl) ?_ | refine ldS_o H (by repeat (first | exact Pick.here | apply Pick.there)) (by rfl) ?_)
      refine call_p H (route_t b bs hbr true bi a (k : Int)) (by repeat (first | exact Cut.nil | (apply Cut.cons; (repeat (first | exact Pick.here | apply Pick.there))))) fun wx H => ?_
      refine ⟨_, _, _, _, rfl, alc_o H fun b153 wx H => ?_⟩
      refine st1_o H (by repeat (first | exact Rep.here | apply Rep.there)) (by simp) fun wx H => ?_
      refine st1_o H (by repeat (first | exact Rep.here | apply Rep.there)) (by simp) fun wx H => ?_
      refine st1_o H (by repeat (first | exact Rep.here | apply Rep.there)) (by simp) fun wx H => ?_
      simp only [List.set_cons_zero, List.set_cons_succ] at H
      rw [hok k hkM]
      have hmono := rouL_mono (bs := bs) (v := true) (b := bi) (a := a) (e := k + 1) (e' := rouM bi) (by omega)
      have hmono0 := rouL_mono (bs := bs) (v := true) (b := bi) (a := a) (e := k) (e' := k + 1) (by omega)
      rw [hT] at hmono
      have fin : ∀ (n : Int) wx, n = (Tn : Int) - (rouL bs true bi a (k + 1)).length → X.Own W (fun k => k < W.heap.size) [row b64 [.int .i64 n] T.t3, defI d, row b62 [.int .i64 last] T.t3, row b24 [ptr b] T.t25, row b13 [.bool false] T.t4, row b11 [.bool true, .int .i64 bi, .int .i64 a] T.t36, memI b bs, keep W] wx → 
          (∃ L', (∃ k' : Nat, k' ≤ rouM bi ∧ IntKind.i64.wrap ((k : Int) + 1) = k' ∧ L' = [row b64 [.int .i64 ((Tn : Int) - (rouL bs true bi a k').length)] T.t3, defI d, row b62 [.int .i64 last] T.t3, row b24 [ptr b] T.t25, row b13 [.bool false] T.t4, row b11 [.bool true, .int .i64 bi, .int .i64 a] T.t36, memI b bs, keep W]) ∧ X.Own W (fun k => k < W.heap.size) L' wx) ∧ ((rouM bi : Int) - IntKind.i64.wrap ((k : Int) + 1)).toNat < ((rouM bi : Int) - (k : Int)).toNat := by
        rintro _ wx rfl H
        rw [W_id (by omega) (by omega)]
        exact ⟨⟨_, ⟨k + 1, by omega, by push_cast; rfl, rfl⟩, H⟩, by omega⟩
      refine cnd_i (fun h => by cases h) fun _ => ?_
      have hs := rouL_succ bs true bi a k
      refine ldB_o H (by repeat (first | exact Pick.here | apply Pick.there)) (by rfl) (cnd_i (fun hv => ?_) fun hv => ?_)
      · repeat (first | refine ldI_o H (by repeat (first | exact Pick.here | apply Pick.there)) (by rfl) ?_ | refine ldL_o H (by repeat (first | exact Pick.here | apply Pick.there)) (by rfl) ?_ | refine ldB_o H (by repeat (first | exact Pick.here | apply Pick.there)) (by rfl) ?_ | refine ldP_o H (by repeat (first | exact Pick.here | apply Pick.there)) (by rfl) ?_ | refine ldS_o H (by repeat (first | exact Pick.here | apply Pick.there)) (by rfl) ?_)
        refine st1_o H (by repeat (first | exact Rep.here | apply Rep.there)) (by simp) fun wx H => ?_
        simp only [List.set_cons_zero] at H
        have hf : (rouL bs true bi a (k + 1)).length = (rouL bs true bi a k).length + 1 := by
          rw [hs]; unfold rouF; rw [if_pos hv]; simp
        show crierlaw18_TablesRoutes_j3 _ _ _
        unfold crierlaw18_TablesRoutes_j3
        refine fin _ _ ?_ (H.drop (by repeat (first | exact Cut.nil | (apply Cut.cons; (repeat (first | exact Pick.here | apply Pick.there))))))
        rw [W_id (by omega) (by omega)]; omega
      · have hf : (rouL bs true bi a (k + 1)).length = (rouL bs true bi a k).length := by
          rw [hs]; unfold rouF; rw [hv]; simp
        show crierlaw18_TablesRoutes_j3 _ _ _
        unfold crierlaw18_TablesRoutes_j3
        refine fin _ _ ?_ (H.drop (by repeat (first | exact Cut.nil | (apply Cut.cons; (repeat (first | exact Pick.here | apply Pick.there))))))
        rw [hf]
    · have h := of_decide_eq_false h
      have : k = rouM bi := by omega
      subst this
      rw [hT, Int.sub_self] at H
      repeat (first | refine ldI_o H (by repeat (first | exact Pick.here | apply Pick.there)) (by rfl) ?_ | refine ldL_o H (by repeat (first | exact Pick.here | apply Pick.there)) (by rfl) ?_ | refine ldB_o H (by repeat (first | exact Pick.here | apply Pick.there)) (by rfl) ?_ | refine ldP_o H (by repeat (first | exact Pick.here | apply Pick.there)) (by rfl) ?_ | refine ldS_o H (by repeat (first | exact Pick.here | apply Pick.there)) (by rfl) ?_)
      refine st1_o H (by repeat (first | exact Rep.here | apply Rep.there)) (by simp) fun wx H => ?_
      refine take_o H (by repeat (first | exact Pick.here | apply Pick.there)) fun wx H => ?_
      repeat (first | refine ldI_o H (by repeat (first | exact Pick.here | apply Pick.there)) (by rfl) ?_ | refine ldL_o H (by repeat (first | exact Pick.here | apply Pick.there)) (by rfl) ?_ | refine ldB_o H (by repeat (first | exact Pick.here | apply Pick.there)) (by rfl) ?_ | refine ldP_o H (by repeat (first | exact Pick.here | apply Pick.there)) (by rfl) ?_ | refine ldS_o H (by repeat (first | exact Pick.here | apply Pick.there)) (by rfl) ?_)
      exact ⟨rfl, keep_done H (by repeat (first | exact Pick.here | apply Pick.there))⟩
  · rintro d c L wx h H
    exact h.elim
end Go.Proofs.Ythoieihffbahpaa
