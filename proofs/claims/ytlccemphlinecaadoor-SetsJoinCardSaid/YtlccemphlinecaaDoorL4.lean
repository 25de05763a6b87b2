/-
  sets: the law's lists; whether a set is what the document's list is.
-/
import Derived.Test.YtlccemphlinecaaDoorL3
namespace Go.Proofs.YtlccemphlinecaaDoor
open Go Go.RowKit X
set_option maxRecDepth 100000
set_option linter.unusedVariables false
theorem set_facts {w w0 : World} {S0 : Nat → Prop} {L F : List It} {b : Nat} {l : List Nat} (H : X.Own w0 S0 L w) (hp : Pick L (setI b l) F) : Up l ∧ (∀ x ∈ l, x < 16384) ∧ l.length ≤ 16384 := by
  obtain ⟨ws, p, c, t, rfl, _, h3, _⟩ := set_open H hp
  exact ⟨mems_up ws, fun x hx => by have := mems_lt hx; omega, by have := mems_length ws; omega⟩
theorem il_nil {w w0 : World} {S0 : Nat → Prop} {L : List It} (H : X.Own w0 S0 L w) : X.Own w0 S0 (ilI none 0 [] :: L) w := own_nil H
section
variable {W : World} (hT : TabAt W)
theorem take_snoc {l : List Nat} {k : Nat} (h : k < l.length) : natI (l.take k) ++ [((l[k] : Nat) : Int)] = natI (l.take (k + 1)) := by
  unfold natI; rw [List.take_succ_eq_append_getElem h, List.map_append]; rfl
include hT in
theorem list_t (b : Nat) (l : List Nat) : Tri P F.crierlaw01_List [ptrV b] [setI b l, keep W] fun v L' => ∃ p c, v = .slice p l.length c ∧ L' = [ilI p c (natI l), setI b l, keep W] := by
  intro w S hS
  refine crierlaw01_List_cv ?_
  unfold crierlaw01_List
  have H := Own.start hS
  obtain ⟨_, _, hlen⟩ := set_facts H (b := b) (l := l) (by repeat (first | exact Pick.here | apply Pick.there))
  refine alc_o H fun bx wx H => ?_
  refine call_o H (all_t b l) (by repeat (first | exact Cut.nil | (apply Cut.cons; (repeat (first | exact Pick.here | apply Pick.there))))) fun vx L' wx hq H => ?_
  obtain ⟨g1, g2, ws, p, c, t, t2, rfl, h2, h3, rfl, rfl⟩ := hq
  refine ⟨_, rfl, join_o ?_⟩
  have H := il_nil H
  have H := H.drop (L1 := [ilI none 0 [], row bx [.slice none 0 0] T.t22, setI b (mems ws)] ++ (fromE g1 g2 ws p c 0 t t2 ++ [keep W])) (by repeat (first | exact Cut.nil | (apply Cut.cons; (repeat (first | exact Pick.here | apply Pick.there)))))
  refine rf_o (fun k L => ∃ p c, k ≤ (mems ws).length ∧ L = [ilI p c (natI ((mems ws).take k)), row bx [.slice p (natI ((mems ws).take k)).length c] T.t22, setI b (mems ws)])
    (fun c L => False) from_enters (from_it hT h2 h3) (i1s_len _) H ⟨none, 0, by omega, rfl⟩ ?_ ?_ ?_
  · rintro k x _ F l' r d wx Q hx ⟨po, co, hk', rfl⟩ H hgo hdone
    obtain ⟨hk, rfl⟩ := i1s_get hx
    simp only [loL_zero] at hk ⊢
    unfold crierlaw01_List_r1
    dsimp only [X.b1]
    refine ⟨_, rfl, rec_o H .here fun wx H => ?_⟩
    simp only [List.cons_append, List.nil_append] at H
    repeat (first | refine ldI_o H (by repeat (first | exact Pick.here | apply Pick.there)) (by rfl) ?_ | refine ldL_o H (by repeat (first | exact Pick.here | apply Pick.there)) (by rfl) ?_ | refine ldB_o H (by repeat (first | exact Pick.here | apply Pick.there)) (by rfl) ?_ | refine ldP_o H (by repeat (first | exact Pick.here | apply Pick.there)) (by rfl) ?_ | refine ldS_o H (by repeat (first | exact Pick.here | apply Pick.there)) (by rfl) ?_)
    refine push_o H (by repeat (first | exact Pick.here | apply Pick.there)) (by rw [natI_length]; simp; omega) fun p' c' wx H => ?_
    rw [take_snoc hk] at H ⊢
    refine st1_o H (by repeat (first | exact Rep.here | apply Rep.there)) (by simp) fun wx H => ?_
    repeat (first | refine ldI_o H (by repeat (first | exact Pick.here | apply Pick.there)) (by rfl) ?_ | refine ldL_o H (by repeat (first | exact Pick.here | apply Pick.there)) (by rfl) ?_ | refine ldB_o H (by repeat (first | exact Pick.here | apply Pick.there)) (by rfl) ?_ | refine ldP_o H (by repeat (first | exact Pick.here | apply Pick.there)) (by rfl) ?_ | refine ldS_o H (by repeat (first | exact Pick.here | apply Pick.there)) (by rfl) ?_)
    refine cnd_i (fun h => ?_) fun h => ?_
    · have h := of_decide_eq_true h
      rw [natI_length] at h; simp at h; omega
    · have H := H.perm (L1 := [recI l' r .busy none, defI d, ilI p' c' (natI ((mems ws).take (k + 1))), row bx [.slice p' (natI ((mems ws).take (k + 1))).length c'] T.t22, setI b (mems ws)]) (by repeat (first | exact Cut.nil | (apply Cut.cons; (repeat (first | exact Pick.here | apply Pick.there)))))
      exact rec_o H .here fun wx H => hgo [ilI p' c' (natI ((mems ws).take (k + 1))), row bx [.slice p' (natI ((mems ws).take (k + 1))).length c'] T.t22, setI b (mems ws)] wx ⟨p', c', by omega, rfl⟩ H
  · rintro d _ wx ⟨po, co, hk, rfl⟩ H
    dsimp only [jmpX]
    rw [i1s_length, loL_zero, List.take_length] at H
    unfold crierlaw01_List_j0
    simp only [List.cons_append, List.nil_append] at H
    repeat (first | refine ldI_o H (by repeat (first | exact Pick.here | apply Pick.there)) (by rfl) ?_ | refine ldL_o H (by repeat (first | exact Pick.here | apply Pick.there)) (by rfl) ?_ | refine ldB_o H (by repeat (first | exact Pick.here | apply Pick.there)) (by rfl) ?_ | refine ldP_o H (by repeat (first | exact Pick.here | apply Pick.there)) (by rfl) ?_ | refine ldS_o H (by repeat (first | exact Pick.here | apply Pick.there)) (by rfl) ?_)
    refine take_o H (by repeat (first | exact Pick.here | apply Pick.there)) fun wx H => ?_
    rw [natI_length]
    have H : X.Own w S [ilI po co (natI (mems ws)), setI b (mems ws), keep W] wx := H.drop (by repeat (first | exact Cut.nil | (apply Cut.cons; (repeat (first | exact Pick.here | apply Pick.there)))))
    exact ⟨_, ⟨po, co, rfl, rfl⟩, H⟩
  · rintro d _ _ wx h
    cases h
theorem pairs_snoc {l : List (Nat × Nat)} {k : Nat} (h : k < l.length) : natI (flat2 (l.take k)) ++ [((l[k].1 : Nat) : Int), ((l[k].2 : Nat) : Int)] = natI (flat2 (l.take (k + 1))) := by
  unfold natI flat2; rw [List.take_succ_eq_append_getElem h, List.flatMap_append, List.map_append]; rfl
theorem i2s_len (l : List (Nat × Nat)) : ∀ x ∈ i2s l, x.length = 2 := by
  intro x hx; obtain ⟨n, _, rfl⟩ := List.mem_map.1 hx; rfl
theorem i2s_get {l : List (Nat × Nat)} {k : Nat} {x : List Value} (h : (i2s l)[k]? = some x) : ∃ h : k < l.length, x = [.int .i64 (l[k].1 : Nat), .int .i64 (l[k].2 : Nat)] := by
  simp only [i2s, List.getElem?_map, Option.map_eq_some_iff] at h
  obtain ⟨n, h1, rfl⟩ := h
  obtain ⟨h2, h3⟩ := List.getElem?_eq_some_iff.1 h1
  exact ⟨h2, by rw [h3]⟩
theorem i2s_length (l : List (Nat × Nat)) : (i2s l).length = l.length := by simp [i2s]
include hT in
theorem lawRuns_t (b : Nat) (l : List Nat) : Tri P F.crierlaw01_Runs [ptrV b] [setI b l, keep W] fun v L' => ∃ p c, v = .slice p (natI (flat2 (runsL l))).length c ∧ L' = [ilI p c (natI (flat2 (runsL l))), setI b l, keep W] := by
  intro w S hS
  refine crierlaw01_Runs_cv ?_
  unfold crierlaw01_Runs
  have H := Own.start hS
  obtain ⟨hup, hbd, hlen⟩ := set_facts H (b := b) (l := l) (by repeat (first | exact Pick.here | apply Pick.there))
  have hcnt := runsL_count hup hbd
  refine alc_o H fun bx wx H => ?_
  refine call_o H (runs_t b l) (by repeat (first | exact Cut.nil | (apply Cut.cons; (repeat (first | exact Pick.here | apply Pick.there))))) fun vx L' wx hq H => ?_
  obtain ⟨g5, g1, g2, ws, p, c, t, t2, t5, rfl, h2, h3, rfl, rfl⟩ := hq
  refine ⟨_, rfl, join_o ?_⟩
  have H := il_nil H
  have H := H.drop (L1 := [ilI none 0 [], row bx [.slice none 0 0] T.t22, setI b (mems ws)] ++ (runsE g5 g1 g2 ws p c t t2 t5 ++ [keep W])) (by repeat (first | exact Cut.nil | (apply Cut.cons; (repeat (first | exact Pick.here | apply Pick.there)))))
  refine rf_o (fun k L => ∃ p c, k ≤ (runsL (mems ws)).length ∧ L = [ilI p c (natI (flat2 ((runsL (mems ws)).take k))), row bx [.slice p (natI (flat2 ((runsL (mems ws)).take k))).length c] T.t22, setI b (mems ws)])
    (fun c L => False) runs_enters (runs_it hT h2 h3) (i2s_len _) H ⟨none, 0, by omega, rfl⟩ ?_ ?_ ?_
  · rintro k x _ F l' r d wx Q hx ⟨po, co, hk', rfl⟩ H hgo hdone
    obtain ⟨hk, rfl⟩ := i2s_get hx
    unfold crierlaw01_Runs_r1
    dsimp only [X.b2]
    refine ⟨_, rfl, _, rfl, rec_o H .here fun wx H => ?_⟩
    simp only [List.cons_append, List.nil_append] at H
    repeat (first | refine ldI_o H (by repeat (first | exact Pick.here | apply Pick.there)) (by rfl) ?_ | refine ldL_o H (by repeat (first | exact Pick.here | apply Pick.there)) (by rfl) ?_ | refine ldB_o H (by repeat (first | exact Pick.here | apply Pick.there)) (by rfl) ?_ | refine ldP_o H (by repeat (first | exact Pick.here | apply Pick.there)) (by rfl) ?_ | refine ldS_o H (by repeat (first | exact Pick.here | apply Pick.there)) (by rfl) ?_)
    have hle : (natI (flat2 ((runsL (mems ws)).take k))).length ≤ 16385 := by rw [natI_length, flat2_length]; simp; omega
    refine alc_o H fun bz wx H => ?_
    refine app_o appInts (by omega) H (.there (.there (.there .here))) (Sl.row (H.row .here)) rfl (by simp [Value.oneCell']) (by unfold maxLen; omega) (by omega) fun p' c' wx H => ?_
    have e1 : own tInt 1 (.slice p' ((natI (flat2 ((runsL (mems ws)).take k))).length + 2) c') ((natI (flat2 ((runsL (mems ws)).take k))).length + 2) (i64s (natI (flat2 ((runsL (mems ws)).take k))) ++ [.int .i64 ((runsL (mems ws))[k].1 : Nat), .int .i64 ((runsL (mems ws))[k].2 : Nat)]) = ilI p' c' (natI (flat2 ((runsL (mems ws)).take (k + 1)))) := by
      unfold ilI; rw [← pairs_snoc hk, i64s_append, List.length_append]; rfl
    rw [e1] at H
    have el : (natI (flat2 ((runsL (mems ws)).take k))).length + 2 = (natI (flat2 ((runsL (mems ws)).take (k + 1)))).length := by rw [← pairs_snoc hk]; simp
    rw [el]
    have H := H.rest (L1 := [row bz _ _]) (.cons (.there .here) .nil)
    refine st1_o H (by repeat (first | exact Rep.here | apply Rep.there)) (by simp) fun wx H => ?_
    repeat (first | refine ldI_o H (by repeat (first | exact Pick.here | apply Pick.there)) (by rfl) ?_ | refine ldL_o H (by repeat (first | exact Pick.here | apply Pick.there)) (by rfl) ?_ | refine ldB_o H (by repeat (first | exact Pick.here | apply Pick.there)) (by rfl) ?_ | refine ldP_o H (by repeat (first | exact Pick.here | apply Pick.there)) (by rfl) ?_ | refine ldS_o H (by repeat (first | exact Pick.here | apply Pick.there)) (by rfl) ?_)
    refine cnd_i (fun h => ?_) fun h => ?_
    · have h := of_decide_eq_true h
      rw [natI_length, flat2_length] at h; simp at h; omega
    · have H := H.perm (L1 := [recI l' r .busy none, defI d, ilI p' c' (natI (flat2 ((runsL (mems ws)).take (k + 1)))), row bx [.slice p' (natI (flat2 ((runsL (mems ws)).take (k + 1)))).length c'] T.t22, setI b (mems ws)]) (by repeat (first | exact Cut.nil | (apply Cut.cons; (repeat (first | exact Pick.here | apply Pick.there)))))
      exact rec_o H .here fun wx H => hgo [ilI p' c' (natI (flat2 ((runsL (mems ws)).take (k + 1)))), row bx [.slice p' (natI (flat2 ((runsL (mems ws)).take (k + 1)))).length c'] T.t22, setI b (mems ws)] wx ⟨p', c', by omega, rfl⟩ H
  · rintro d _ wx ⟨po, co, hk, rfl⟩ H
    dsimp only [jmpX]
    rw [i2s_length, List.take_length] at H
    unfold crierlaw01_Runs_j0
    simp only [List.cons_append, List.nil_append] at H
    repeat (first | refine ldI_o H (by repeat (first | exact Pick.here | apply Pick.there)) (by rfl) ?_ | refine ldL_o H (by repeat (first | exact Pick.here | apply Pick.there)) (by rfl) ?_ | refine ldB_o H (by repeat (first | exact Pick.here | apply Pick.there)) (by rfl) ?_ | refine ldP_o H (by repeat (first | exact Pick.here | apply Pick.there)) (by rfl) ?_ | refine ldS_o H (by repeat (first | exact Pick.here | apply Pick.there)) (by rfl) ?_)
    refine take_o H (by repeat (first | exact Pick.here | apply Pick.there)) fun wx H => ?_
    have H : X.Own w S [ilI po co (natI (flat2 (runsL (mems ws)))), setI b (mems ws), keep W] wx := H.drop (by repeat (first | exact Cut.nil | (apply Cut.cons; (repeat (first | exact Pick.here | apply Pick.there)))))
    exact ⟨_, ⟨po, co, rfl, rfl⟩, H⟩
  · rintro d _ _ wx h
    cases h
include hT in
theorem lawFrom_t (b : Nat) (l : List Nat) (m most : Int) : Tri P F.crierlaw01_from [ptrV b, .int .i64 m, .int .i64 most] [setI b l, keep W] fun v L' => ∃ p c, v = .slice p ((loL l m).take most.toNat).length c ∧ L' = [ilI p c (natI ((loL l m).take most.toNat)), setI b l, keep W] := by
  intro w S hS
  refine crierlaw01_from_cv ?_
  unfold crierlaw01_from
  have H := Own.start hS
  obtain ⟨_, _, hlen⟩ := set_facts H (b := b) (l := l) (by repeat (first | exact Pick.here | apply Pick.there))
  have hlen2 : (loL l m).length ≤ 16384 := Nat.le_trans (List.length_filter_le _ _) hlen
  refine alc_o H fun bm wx H => ?_
  refine alc_o H fun bx wx H => ?_
  refine call_o H (from_t b l m) (by repeat (first | exact Cut.nil | (apply Cut.cons; (repeat (first | exact Pick.here | apply Pick.there))))) fun vx L' wx hq H => ?_
  obtain ⟨g1, g2, ws, p, c, t, t2, rfl, h2, h3, rfl, rfl⟩ := hq
  refine ⟨_, rfl, join_o ?_⟩
  have H := il_nil H
  have H := H.drop (L1 := [ilI none 0 [], row bx [.slice none 0 0] T.t22, row bm [.int .i64 most] T.t3, setI b (mems ws)] ++ (fromE g1 g2 ws p c m t t2 ++ [keep W])) (by repeat (first | exact Cut.nil | (apply Cut.cons; (repeat (first | exact Pick.here | apply Pick.there)))))
  have fin : ∀ d wx po co (out : List Nat), out = (loL (mems ws) m).take most.toNat → X.Own w S (defI d :: ([ilI po co (natI out), row bx [.slice po (natI out).length co] T.t22, row bm [.int .i64 most] T.t3, setI b (mems ws)] ++ (fromE g1 g2 ws p c m t t2 ++ [keep W]))) wx →
      crierlaw01_from_j0 (fun v w' => ∃ L', (∃ p c, v = .slice p ((loL (mems ws) m).take most.toNat).length c ∧ L' = [ilI p c (natI ((loL (mems ws) m).take most.toNat)), setI b (mems ws), keep W]) ∧ X.Own w S L' w') bx wx ([{ target := .collected d, args := #[] }] ++ []) := by
    rintro d wx po co out rfl H
    unfold crierlaw01_from_j0
    simp only [List.cons_append, List.nil_append] at H
    repeat (first | refine ldI_o H (by repeat (first | exact Pick.here | apply Pick.there)) (by rfl) ?_ | refine ldL_o H (by repeat (first | exact Pick.here | apply Pick.there)) (by rfl) ?_ | refine ldB_o H (by repeat (first | exact Pick.here | apply Pick.there)) (by rfl) ?_ | refine ldP_o H (by repeat (first | exact Pick.here | apply Pick.there)) (by rfl) ?_ | refine ldS_o H (by repeat (first | exact Pick.here | apply Pick.there)) (by rfl) ?_)
    refine take_o H (by repeat (first | exact Pick.here | apply Pick.there)) fun wx H => ?_
    rw [natI_length]
    have H : X.Own w S [ilI po co (natI ((loL (mems ws) m).take most.toNat)), setI b (mems ws), keep W] wx := H.drop (by repeat (first | exact Cut.nil | (apply Cut.cons; (repeat (first | exact Pick.here | apply Pick.there)))))
    exact ⟨_, ⟨po, co, rfl, rfl⟩, H⟩
  refine rf_o (fun k L => ∃ p c, k ≤ (loL (mems ws) m).length ∧ (k : Int) ≤ max 0 most ∧ L = [ilI p c (natI ((loL (mems ws) m).take k)), row bx [.slice p (natI ((loL (mems ws) m).take k)).length c] T.t22, row bm [.int .i64 most] T.t3, setI b (mems ws)])
    (fun c L => c = .exit 0 ∧ ∃ p c, L = [ilI p c (natI ((loL (mems ws) m).take most.toNat)), row bx [.slice p (natI ((loL (mems ws) m).take most.toNat)).length c] T.t22, row bm [.int .i64 most] T.t3, setI b (mems ws)]) from_enters (from_it hT h2 h3) (i1s_len _) H ⟨none, 0, by omega, by omega, rfl⟩ ?_ ?_ ?_
  · rintro k x _ F l' r d wx Q hx ⟨po, co, hk', hkm, rfl⟩ H hgo hdone
    obtain ⟨hk, rfl⟩ := i1s_get hx
    unfold crierlaw01_from_r1
    dsimp only [X.b1]
    refine ⟨_, rfl, rec_o H .here fun wx H => ?_⟩
    simp only [List.cons_append, List.nil_append] at H
    have hle : (natI ((loL (mems ws) m).take k)).length = k := by rw [natI_length]; simp; omega
    repeat (first | refine ldI_o H (by repeat (first | exact Pick.here | apply Pick.there)) (by rfl) ?_ | refine ldL_o H (by repeat (first | exact Pick.here | apply Pick.there)) (by rfl) ?_ | refine ldB_o H (by repeat (first | exact Pick.here | apply Pick.there)) (by rfl) ?_ | refine ldP_o H (by repeat (first | exact Pick.here | apply Pick.there)) (by rfl) ?_ | refine ldS_o H (by repeat (first | exact Pick.here | apply Pick.there)) (by rfl) ?_)
    refine cnd_i (fun h => ?_) fun h => ?_
    · have h := of_decide_eq_true h
      rw [hle] at h
      have e : k = most.toNat := by omega
      rw [e] at H
      exact rec_o H .here fun wx H => hdone (.exit 0) [ilI po co (natI ((loL (mems ws) m).take most.toNat)), row bx [.slice po (natI ((loL (mems ws) m).take most.toNat)).length co] T.t22, row bm [.int .i64 most] T.t3, setI b (mems ws)] wx ⟨rfl, po, co, rfl⟩ H
    · have h := of_decide_eq_false h
      rw [hle] at h
      repeat (first | refine ldI_o H (by repeat (first | exact Pick.here | apply Pick.there)) (by rfl) ?_ | refine ldL_o H (by repeat (first | exact Pick.here | apply Pick.there)) (by rfl) ?_ | refine ldB_o H (by repeat (first | exact Pick.here | apply Pick.there)) (by rfl) ?_ | refine ldP_o H (by repeat (first | exact Pick.here | apply Pick.there)) (by rfl) ?_ | refine ldS_o H (by repeat (first | exact Pick.here | apply Pick.there)) (by rfl) ?_)
      refine push_o H (by repeat (first | exact Pick.here | apply Pick.there)) (by rw [hle]; omega) fun p' c' wx H => ?_
      rw [take_snoc hk] at H ⊢
      refine st1_o H (by repeat (first | exact Rep.here | apply Rep.there)) (by simp) fun wx H => ?_
      have H := H.perm (L1 := [recI l' r .busy none, defI d, ilI p' c' (natI ((loL (mems ws) m).take (k + 1))), row bx [.slice p' (natI ((loL (mems ws) m).take (k + 1))).length c'] T.t22, row bm [.int .i64 most] T.t3, setI b (mems ws)]) (by repeat (first | exact Cut.nil | (apply Cut.cons; (repeat (first | exact Pick.here | apply Pick.there)))))
      exact rec_o H .here fun wx H => hgo [ilI p' c' (natI ((loL (mems ws) m).take (k + 1))), row bx [.slice p' (natI ((loL (mems ws) m).take (k + 1))).length c'] T.t22, row bm [.int .i64 most] T.t3, setI b (mems ws)] wx ⟨p', c', by omega, by omega, rfl⟩ H
  · rintro d _ wx ⟨po, co, hk, hkm, rfl⟩ H
    dsimp only [jmpX]
    rw [i1s_length] at H hkm
    refine fin d wx po co _ ?_ H
    rw [List.take_length, List.take_of_length_le (by omega)]
  · rintro d _ _ wx ⟨rfl, po, co, rfl⟩ H
    dsimp only [jmpX]
    exact ⟨fun _ => fin d wx po co _ rfl H, fun h => absurd rfl h⟩
end
end Go.Proofs.YtlccemphlinecaaDoor
