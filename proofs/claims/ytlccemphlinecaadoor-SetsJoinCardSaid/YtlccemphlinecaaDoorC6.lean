/-
  Sets: all members; the least, the greatest.
-/
import Derived.Test.YtlccemphlinecaaDoorC5
namespace Go.Proofs.YtlccemphlinecaaDoor
open Go Go.RowKit X
set_option maxRecDepth 100000
set_option linter.unusedVariables false
theorem loL_zero (l : List Nat) : loL l 0 = l := by
  unfold loL; rw [List.filter_eq_self]; intro x _; simp
theorem all_t (b : Nat) (l : List Nat) : Tri P F.sets_Set_int_All [ptrV b] [setI b l] fun v L' => ∃ g1 g2 ws p c t t2, mems ws = l ∧ (∀ x ∈ ws, x < 2 ^ 64) ∧ ws.length ≤ 256 ∧ v = fromV g1 g2 ∧ L' = setI b l :: fromE g1 g2 ws p c 0 t t2 := by
  intro w S hS
  refine sets_Set_int_All_cv ?_
  unfold sets_Set_int_All
  have H := Own.start hS
  refine call_o H (from_t b l 0) (by repeat (first | exact Cut.nil | (apply Cut.cons; (repeat (first | exact Pick.here | apply Pick.there))))) fun vx L' wx hq H => ?_
  obtain ⟨g1, g2, ws, p, c, t, t2, h1, h2, h3, rfl, rfl⟩ := hq
  exact ⟨_, rfl, _, ⟨g1, g2, ws, p, c, t, t2, h1, h2, h3, rfl, rfl⟩, H.drop (by repeat (first | exact Cut.nil | (apply Cut.cons; (repeat (first | exact Pick.here | apply Pick.there)))))⟩
theorem i1s_len (l : List Nat) : ∀ x ∈ i1s l, x.length = 1 := by
  intro x hx; obtain ⟨n, _, rfl⟩ := List.mem_map.1 hx; rfl
theorem i1s_get {l : List Nat} {k : Nat} {x : List Value} (h : (i1s l)[k]? = some x) : ∃ h : k < l.length, x = [.int .i64 (l[k] : Nat)] := by
  simp only [i1s, List.getElem?_map, Option.map_eq_some_iff] at h
  obtain ⟨n, h1, rfl⟩ := h
  obtain ⟨h2, h3⟩ := List.getElem?_eq_some_iff.1 h1
  exact ⟨h2, by rw [h3]⟩
theorem i1s_length (l : List Nat) : (i1s l).length = l.length := by simp [i1s]
theorem least_t {W : World} (hT : TabAt W) (b : Nat) (l : List Nat) : Tri P F.sets_Set_int_Least [ptrV b] [setI b l, keep W] fun v L' => v = .tuple [.int .i64 (l.headD 0 : Nat), .bool (!l.isEmpty)].toArray ∧ L' = [setI b l, keep W] := by
  intro w S hS
  refine sets_Set_int_Least_cv ?_
  unfold sets_Set_int_Least
  have H := Own.start hS
  refine alc_o H fun bx wx H => ?_
  refine alc_o H fun bz wx H => ?_
  refine call_o H (all_t b l) (by repeat (first | exact Cut.nil | (apply Cut.cons; (repeat (first | exact Pick.here | apply Pick.there))))) fun vx L' wx hq H => ?_
  obtain ⟨g1, g2, ws, p, c, t, t2, rfl, h2, h3, rfl, rfl⟩ := hq
  refine ⟨_, rfl, ?_⟩
  have H := H.drop (L1 := [row bx [.int .i64 0] T.t3, row bz [.bool false] T.t4, setI b (mems ws)] ++ (fromE g1 g2 ws p c 0 t t2 ++ [keep W])) (by repeat (first | exact Cut.nil | (apply Cut.cons; (repeat (first | exact Pick.here | apply Pick.there)))))
  refine rf_o (fun k L => k = 0 ∧ L = [row bx [.int .i64 0] T.t3, row bz [.bool false] T.t4, setI b (mems ws)])
    (fun c L => c = .ret ∧ ∃ n r, mems ws = n :: r ∧ L = [row bx [.int .i64 (n : Nat)] T.t3, row bz [.bool true] T.t4, setI b (mems ws)]) from_enters (from_it hT h2 h3) (i1s_len _) H ⟨rfl, rfl⟩ ?_ ?_ ?_
  · rintro k x _ F l' r d wx Q hx ⟨rfl, rfl⟩ H hgo hdone
    obtain ⟨hk, rfl⟩ := i1s_get hx
    unfold sets_Set_int_Least_r0
    dsimp only [X.b1]
    refine ⟨_, rfl, rec_o H .here fun wx H => ?_⟩
    simp only [List.cons_append, List.nil_append] at H
    refine st1_o H (by repeat (first | exact Rep.here | apply Rep.there)) (by simp) fun wx H => ?_
    refine st1_o H (by repeat (first | exact Rep.here | apply Rep.there)) (by simp) fun wx H => ?_
    simp only [loL_zero] at H hk
    cases hm : mems ws with
    | nil => rw [hm] at hk; simp at hk
    | cons n rs =>
      have e : (mems ws)[0] = n := by simp only [hm]; rfl
      rw [e] at H
      exact rec_o H .here fun wx H => hdone .ret [row bx [.int .i64 (n : Nat)] T.t3, row bz [.bool true] T.t4, setI b (mems ws)] wx ⟨rfl, n, rs, hm, rfl⟩ H
  · rintro d _ wx ⟨hl, rfl⟩ H
    rw [i1s_length, loL_zero] at hl
    have hm : mems ws = [] := List.eq_nil_of_length_eq_zero hl
    dsimp only [jmpX]
    simp only [List.cons_append, List.nil_append] at H
    refine st1_o H (by repeat (first | exact Rep.here | apply Rep.there)) (by simp) fun wx H => ?_
    refine st1_o H (by repeat (first | exact Rep.here | apply Rep.there)) (by simp) fun wx H => ?_
    refine take_o H (by repeat (first | exact Pick.here | apply Pick.there)) fun wx H => ?_
    repeat (first | refine ldI_o H (by repeat (first | exact Pick.here | apply Pick.there)) (by rfl) ?_ | refine ldL_o H (by repeat (first | exact Pick.here | apply Pick.there)) (by rfl) ?_ | refine ldB_o H (by repeat (first | exact Pick.here | apply Pick.there)) (by rfl) ?_ | refine ldP_o H (by repeat (first | exact Pick.here | apply Pick.there)) (by rfl) ?_ | refine ldS_o H (by repeat (first | exact Pick.here | apply Pick.there)) (by rfl) ?_)
    rw [hm] at H ⊢
    exact ⟨_, ⟨rfl, rfl⟩, H.drop (by repeat (first | exact Cut.nil | (apply Cut.cons; (repeat (first | exact Pick.here | apply Pick.there)))))⟩
  · rintro d _ _ wx ⟨rfl, n, rs, hm, rfl⟩ H
    dsimp only [jmpX]
    refine take_o H .here fun wx H => ?_
    simp only [List.cons_append, List.nil_append] at H
    repeat (first | refine ldI_o H (by repeat (first | exact Pick.here | apply Pick.there)) (by rfl) ?_ | refine ldL_o H (by repeat (first | exact Pick.here | apply Pick.there)) (by rfl) ?_ | refine ldB_o H (by repeat (first | exact Pick.here | apply Pick.there)) (by rfl) ?_ | refine ldP_o H (by repeat (first | exact Pick.here | apply Pick.there)) (by rfl) ?_ | refine ldS_o H (by repeat (first | exact Pick.here | apply Pick.there)) (by rfl) ?_)
    rw [hm] at H ⊢
    exact ⟨_, ⟨rfl, rfl⟩, H.drop (by repeat (first | exact Cut.nil | (apply Cut.cons; (repeat (first | exact Pick.here | apply Pick.there)))))⟩
theorem up_last {l : List Nat} (h : Up l) {a : Nat} (ha : a ∈ l) (hx : ∀ x ∈ l, x ≤ a) : ∃ r, l = r ++ [a] := by
  induction l with
  | nil => cases ha
  | cons y r ih =>
    have h' := List.pairwise_cons.1 h
    rcases List.mem_cons.1 ha with rfl | ha
    · cases r with
      | nil => exact ⟨[], rfl⟩
      | cons z r => have := h'.1 z (by simp); have := hx z (by simp); omega
    · obtain ⟨s, hs⟩ := ih h'.2 ha fun x hx' => hx x (List.mem_cons_of_mem _ hx')
      exact ⟨y :: s, by rw [hs]; rfl⟩
theorem most_t (b : Nat) (l : List Nat) : Tri P F.sets_Set_int_Most [ptrV b] [setI b l] fun v L' => v = .tuple [.int .i64 (l.getLastD 0 : Nat), .bool (!l.isEmpty)].toArray ∧ L' = [setI b l] := by
  intro w S hS
  refine sets_Set_int_Most_cv ?_
  unfold sets_Set_int_Most
  have H := Own.start hS
  obtain ⟨ws, p, c, t, rfl, h2, h3, H⟩ := set_open H (by repeat (first | exact Pick.here | apply Pick.there))
  repeat (first | refine ldI_o H (by repeat (first | exact Pick.here | apply Pick.there)) (by rfl) ?_ | refine ldL_o H (by repeat (first | exact Pick.here | apply Pick.there)) (by rfl) ?_ | refine ldB_o H (by repeat (first | exact Pick.here | apply Pick.there)) (by rfl) ?_ | refine ldP_o H (by repeat (first | exact Pick.here | apply Pick.there)) (by rfl) ?_ | refine ldS_o H (by repeat (first | exact Pick.here | apply Pick.there)) (by rfl) ?_)
  refine loop_o (fun (st : Int) L => ∃ k : Nat, k ≤ ws.length ∧ st = (k : Int) - 1 ∧ mems ws = mems (ws.take k) ∧ L = [row b [.slice p ws.length c] t, own tWord 1 (.slice p ws.length c) ws.length (u64s ws)]) (fun (st : Int) => (st + 1).toNat) H ⟨ws.length, by omega, by rw [W_id (by omega) (by omega)], by rw [List.take_length], rfl⟩ ?_
  rintro _ _ wx ⟨k, hk, rfl, hm, rfl⟩ H
  unfold sets_Set_int_Most_l0
  refine cnd_i (fun h => ?_) fun h => ?_
  · have h := of_decide_eq_true h
    obtain ⟨j, rfl⟩ : ∃ j, k = j + 1 := ⟨k - 1, by omega⟩
    have ej : ((j + 1 : Nat) : Int) - 1 = (j : Int) := by push_cast; omega
    have hj : j < ws.length := by omega
    rw [ej]
    repeat (first | refine ldI_o H (by repeat (first | exact Pick.here | apply Pick.there)) (by rfl) ?_ | refine ldL_o H (by repeat (first | exact Pick.here | apply Pick.there)) (by rfl) ?_ | refine ldB_o H (by repeat (first | exact Pick.here | apply Pick.there)) (by rfl) ?_ | refine ldP_o H (by repeat (first | exact Pick.here | apply Pick.there)) (by rfl) ?_ | refine ldS_o H (by repeat (first | exact Pick.here | apply Pick.there)) (by rfl) ?_)
    refine ⟨⟨by omega, by omega⟩, ?_⟩
    rw [Int.toNat_natCast]
    refine old_o H (by repeat (first | exact Pick.here | apply Pick.there)) (u64s_get hj) (cnd_i (fun hne => ?_) fun he => ?_)
    · have h0 : ws[j] ≠ 0 := by simpa using hne
      have hx := h2 _ (List.getElem_mem hj)
      refine (lz_cv hx wx).mono ?_
      rintro _ w' ⟨L, rfl, hL, hL64, hB⟩
      have H := H.grow hB
      obtain ⟨g1, g2, g3, g4⟩ := hL.top h0 hx
      refine ⟨_, rfl, _, ⟨?_, rfl⟩, set_shut H rfl rfl rfl h2 h3⟩
      obtain ⟨r, hr⟩ := up_last (wbits_up ws[j]) (a := L - 1) ((mem_wbits hx).2 g3) (fun x hx' => by
        have := (mem_wbits hx).1 hx'
        apply Decidable.byContradiction
        intro hn
        rw [g4 x (by omega)] at this; cases this)
      rw [hm, mems_take h2 hj, hr, List.map_append, ← List.append_assoc]
      rw [W_id (n := 64 * (j : Int)) (by omega) (by omega), W_id (n := 64 * (j : Int) + 63) (by omega) (by omega), W_id (by omega) (by omega)]
      have e : 64 * (j : Int) + 63 - (64 - (L : Int)) = ((64 * j + (L - 1) : Nat) : Int) := by omega
      rw [e]
      simp
    · have h0 : ws[j] = 0 := by simpa using he
      refine ⟨⟨_, ⟨j, by omega, by rw [W_id (by omega) (by omega)], ?_, rfl⟩, H⟩, ?_⟩
      · rw [hm, mems_take h2 hj, h0, wbits_zero]; simp
      · rw [W_id (by omega) (by omega)]
        show ((j : Int) - 1 + 1).toNat < ((j : Int) + 1).toNat
        omega
  · have h := of_decide_eq_false h
    have : k = 0 := by omega
    subst this
    refine ⟨_, ⟨?_, rfl⟩, set_shut H rfl rfl rfl h2 h3⟩
    rw [hm]; rfl
end Go.Proofs.YtlccemphlinecaaDoor
