/-
  tables: the document's acts: they come to an end, and the memory keeps its shape.
-/
import Derived.Test.YthoieihffbahpaaL15
namespace Go.Proofs.Ythoieihffbahpaa
open Go Go.RowKit X
set_option maxRecDepth 100000
set_option linter.unusedVariables false
set_option linter.unusedSimpArgs false
set_option maxHeartbeats 1000000
theorem table_t (a s pg : Int) : Tri P F.crierlaw18_table [tabV a s pg] [] fun v L' => v = tabV a s pg ∧ L' = [] := by
  intro w S hS
  refine crierlaw18_table_cv ?_
  unfold crierlaw18_table
  have H := Own.start hS
  refine alc_o H fun b4 wx H => alc_o H fun b6 wx H => ?_
  repeat (first | refine ldI_o H (by repeat (first | exact Pick.here | apply Pick.there)) (by rfl) ?_ | refine ldL_o H (by repeat (first | exact Pick.here | apply Pick.there)) (by rfl) ?_ | refine ldB_o H (by repeat (first | exact Pick.here | apply Pick.there)) (by rfl) ?_ | refine ldP_o H (by repeat (first | exact Pick.here | apply Pick.there)) (by rfl) ?_ | refine ldS_o H (by repeat (first | exact Pick.here | apply Pick.there)) (by rfl) ?_)
  refine st1_o H (by repeat (first | exact Rep.here | apply Rep.there)) (by simp) fun wx H => ?_
  refine st1_o H (by repeat (first | exact Rep.here | apply Rep.there)) (by simp) fun wx H => ?_
  refine st1_o H (by repeat (first | exact Rep.here | apply Rep.there)) (by simp) fun wx H => ?_
  simp only [List.set_cons_zero, List.set_cons_succ] at H
  repeat (first | refine ldI_o H (by repeat (first | exact Pick.here | apply Pick.there)) (by rfl) ?_ | refine ldL_o H (by repeat (first | exact Pick.here | apply Pick.there)) (by rfl) ?_ | refine ldB_o H (by repeat (first | exact Pick.here | apply Pick.there)) (by rfl) ?_ | refine ldP_o H (by repeat (first | exact Pick.here | apply Pick.there)) (by rfl) ?_ | refine ldS_o H (by repeat (first | exact Pick.here | apply Pick.there)) (by rfl) ?_)
  exact ⟨_, ⟨rfl, rfl⟩, H.drop (by repeat (first | exact Cut.nil | (apply Cut.cons; (repeat (first | exact Pick.here | apply Pick.there)))))⟩
theorem told_t (v : Bool) (b a : Int) : Tri P F.crierlaw18_told [devV v b a] [] fun x L' => x = devV v b a ∧ L' = [] := by
  intro w S hS
  refine crierlaw18_told_cv ?_
  unfold crierlaw18_told
  have H := Own.start hS
  refine alc_o H fun b4 wx H => alc_o H fun b6 wx H => ?_
  repeat (first | refine ldI_o H (by repeat (first | exact Pick.here | apply Pick.there)) (by rfl) ?_ | refine ldL_o H (by repeat (first | exact Pick.here | apply Pick.there)) (by rfl) ?_ | refine ldB_o H (by repeat (first | exact Pick.here | apply Pick.there)) (by rfl) ?_ | refine ldP_o H (by repeat (first | exact Pick.here | apply Pick.there)) (by rfl) ?_ | refine ldS_o H (by repeat (first | exact Pick.here | apply Pick.there)) (by rfl) ?_)
  refine st1_o H (by repeat (first | exact Rep.here | apply Rep.there)) (by simp) fun wx H => ?_
  refine st1_o H (by repeat (first | exact Rep.here | apply Rep.there)) (by simp) fun wx H => ?_
  refine st1_o H (by repeat (first | exact Rep.here | apply Rep.there)) (by simp) fun wx H => ?_
  simp only [List.set_cons_zero, List.set_cons_succ] at H
  repeat (first | refine ldI_o H (by repeat (first | exact Pick.here | apply Pick.there)) (by rfl) ?_ | refine ldL_o H (by repeat (first | exact Pick.here | apply Pick.there)) (by rfl) ?_ | refine ldB_o H (by repeat (first | exact Pick.here | apply Pick.there)) (by rfl) ?_ | refine ldP_o H (by repeat (first | exact Pick.here | apply Pick.there)) (by rfl) ?_ | refine ldS_o H (by repeat (first | exact Pick.here | apply Pick.there)) (by rfl) ?_)
  exact ⟨_, ⟨rfl, rfl⟩, H.drop (by repeat (first | exact Cut.nil | (apply Cut.cons; (repeat (first | exact Pick.here | apply Pick.there)))))⟩
theorem dplace18_t (p : Nat) (bs : List Int) (hn : bs.length ≤ 131072) (v : Bool) (b a ev : Int) : Tri P F.crierref18_Device_place [devV v b a, ptr p, .int .i64 ev] [memI p bs] fun r L' => (∃ x e : Int, r = .tuple [.int .i64 x, .int .i64 e].toArray ∧ (e = 0 → 0 ≤ x ∧ x + 8 ≤ bs.length)) ∧ L' = [memI p bs] := by
  intro w S hS
  refine crierref18_Device_place_cv ?_
  unfold crierref18_Device_place
  have H := Own.start hS
  refine alc_o H fun b6 wx H => join_o ?_
  have out : ∀ x wx, X.Own w S [row b6 [.bool v, .int .i64 b, .int .i64 a] T.t91, memI p bs] wx → crierref18_Device_place_j1 (some ⟨p, 0, none⟩) ev (fun r w' => ∃ L', ((∃ x e : Int, r = .tuple [.int .i64 x, .int .i64 e].toArray ∧ (e = 0 → 0 ≤ x ∧ x + 8 ≤ bs.length)) ∧ L' = [memI p bs]) ∧ X.Own w S L' w') b6 x wx := by
    intro x wx H
    unfold crierref18_Device_place_j1
    refine cnd_i (fun _ => ⟨_, ⟨⟨0, 182, rfl, fun h => by omega⟩, rfl⟩, H.drop (by repeat (first | exact Cut.nil | (apply Cut.cons; (repeat (first | exact Pick.here | apply Pick.there)))))⟩) fun _ => ldI_o H (by repeat (first | exact Pick.here | apply Pick.there)) (by rfl) (join_o ?_)
    have fin : ∀ y wx, X.Own w S [memI p bs] wx → (y = false → 0 ≤ IntKind.i64.wrap (a + IntKind.i64.wrap (8 * ev)) ∧ IntKind.i64.wrap (a + IntKind.i64.wrap (8 * ev)) + 8 ≤ bs.length) → crierref18_Device_place_j0 ev (fun r w' => ∃ L', ((∃ x e : Int, r = .tuple [.int .i64 x, .int .i64 e].toArray ∧ (e = 0 → 0 ≤ x ∧ x + 8 ≤ bs.length)) ∧ L' = [memI p bs]) ∧ X.Own w S L' w') a y wx := by
      intro y wx H hy
      unfold crierref18_Device_place_j0
      exact cnd_i (fun _ => ⟨_, ⟨⟨0, 180, rfl, fun h => by omega⟩, rfl⟩, H⟩) fun h => ⟨_, ⟨⟨_, 0, rfl, fun _ => hy h⟩, rfl⟩, H⟩
    refine cnd_i (fun _ => fin _ _ (H.drop (by repeat (first | exact Cut.nil | (apply Cut.cons; (repeat (first | exact Pick.here | apply Pick.there)))))) (fun h => by cases h)) fun h1 => ?_
    have h1 := of_decide_eq_false h1
    obtain ⟨d, c, rest, tb, td, H, hc, hr, hl⟩ := mem_open H (b := p) (bs := bs) (by repeat (first | exact Pick.here | apply Pick.there))
    dsimp only [nn]
    refine ldL_o H .here (by rfl) (fin _ _ ?_ ?_)
    · exact (mem_shut H rfl hc hr hl).drop (by repeat (first | exact Cut.nil | (apply Cut.cons; (repeat (first | exact Pick.here | apply Pick.there)))))
    · intro h
      have h := of_decide_eq_false h
      rw [W_id (n := (bs.length : Int) - 8) (by omega) (by omega)] at h
      omega
  refine ldB_o H (by repeat (first | exact Pick.here | apply Pick.there)) (by rfl) (cnd_i (fun _ => out _ _ H) fun _ => cnd_i (fun _ => out _ _ H) fun _ => ?_)
  repeat (first | refine ldI_o H (by repeat (first | exact Pick.here | apply Pick.there)) (by rfl) ?_ | refine ldL_o H (by repeat (first | exact Pick.here | apply Pick.there)) (by rfl) ?_ | refine ldB_o H (by repeat (first | exact Pick.here | apply Pick.there)) (by rfl) ?_ | refine ldP_o H (by repeat (first | exact Pick.here | apply Pick.there)) (by rfl) ?_ | refine ldS_o H (by repeat (first | exact Pick.here | apply Pick.there)) (by rfl) ?_)
  refine call_o H (events18_t v b a) (by repeat (first | exact Cut.nil | (apply Cut.cons; (repeat (first | exact Pick.here | apply Pick.there))))) fun vx L' wx hq H => ?_
  obtain ⟨⟨n, rfl, _⟩, rfl⟩ := hq
  simp only [List.cons_append, List.nil_append] at H
  exact ⟨_, rfl, out _ _ H⟩
abbrev DocQ (p : Nat) (bs : List Int) (r : Value) (L' : List It) : Prop := (∃ e : Int, r = .int .i64 e) ∧ ∃ bs' : List Int, bs'.length = bs.length ∧ L' = [memI p bs']
theorem lead18_t (p : Nat) (bs : List Int) (hn : bs.length ≤ 131072) (a s pg id at' : Int) : Tri P F.crierref18_Table_Lead [tabV a s pg, ptr p, .int .i64 id, .int .i64 at'] [memI p bs] (DocQ p bs) := by
  intro w S hS
  refine crierref18_Table_Lead_cv ?_
  unfold crierref18_Table_Lead
  have H := Own.start hS
  refine alc_o H fun b7 wx H => ?_
  repeat (first | refine ldI_o H (by repeat (first | exact Pick.here | apply Pick.there)) (by rfl) ?_ | refine ldL_o H (by repeat (first | exact Pick.here | apply Pick.there)) (by rfl) ?_ | refine ldB_o H (by repeat (first | exact Pick.here | apply Pick.there)) (by rfl) ?_ | refine ldP_o H (by repeat (first | exact Pick.here | apply Pick.there)) (by rfl) ?_ | refine ldS_o H (by repeat (first | exact Pick.here | apply Pick.there)) (by rfl) ?_)
  refine call_o H (right18_t p bs a s pg) (by repeat (first | exact Cut.nil | (apply Cut.cons; (repeat (first | exact Pick.here | apply Pick.there))))) fun vx L' wx hq H => ?_
  obtain ⟨⟨e, rfl, he⟩, rfl⟩ := hq
  simp only [List.cons_append, List.nil_append] at H
  refine ⟨_, rfl, cnd_i (fun _ => ⟨_, ⟨⟨_, rfl⟩, bs, rfl, rfl⟩, H.drop (by repeat (first | exact Cut.nil | (apply Cut.cons; (repeat (first | exact Pick.here | apply Pick.there)))))⟩) fun h => join_o ?_⟩
  have hp := he (by simpa using h)
  have out : ∀ x wx, (x = false → pg ≠ 0) → X.Own w S [memI p bs, row b7 [.int .i64 a, .int .i64 s, .int .i64 pg] T.t87] wx → crierref18_Table_Lead_j0 (some ⟨p, 0, none⟩) id at' (fun r w' => ∃ L', DocQ p bs r L' ∧ X.Own w S L' w') b7 x wx := by
    intro x wx hx H
    unfold crierref18_Table_Lead_j0
    refine cnd_i (fun _ => ⟨_, ⟨⟨_, rfl⟩, bs, rfl, rfl⟩, H.drop (by repeat (first | exact Cut.nil | (apply Cut.cons; (repeat (first | exact Pick.here | apply Pick.there)))))⟩) fun h => ?_
    have hp := hp.resolve_left (hx h)
    have ediv : IntKind.i64.wrap (Int.tdiv pg 8) = pg / 8 := by rw [Int.tdiv_eq_ediv_of_nonneg (by omega), W_id (by omega) (by omega)]
    refine drw_o H fun wx H => ?_
    repeat (first | refine ldI_o H (by repeat (first | exact Pick.here | apply Pick.there)) (by rfl) ?_ | refine ldL_o H (by repeat (first | exact Pick.here | apply Pick.there)) (by rfl) ?_ | refine ldB_o H (by repeat (first | exact Pick.here | apply Pick.there)) (by rfl) ?_ | refine ldP_o H (by repeat (first | exact Pick.here | apply Pick.there)) (by rfl) ?_ | refine ldS_o H (by repeat (first | exact Pick.here | apply Pick.there)) (by rfl) ?_)
    refine ⟨by omega, ?_⟩
    rw [ediv]
    refine ⟨by omega, ?_⟩
    refine call_o H (entry18_t p bs hn a s (IntKind.i64.wrap (Int.tdiv id (pg / 8)))) (by repeat (first | exact Cut.nil | (apply Cut.cons; (repeat (first | exact Pick.here | apply Pick.there))))) fun vx L' wx hq H => ?_
    obtain ⟨⟨x, ok, rfl, hx⟩, rfl⟩ := hq
    simp only [List.cons_append, List.nil_append] at H
    refine ⟨_, _, rfl, cnd_i (fun _ => ⟨_, ⟨⟨_, rfl⟩, bs, rfl, rfl⟩, H.drop (by repeat (first | exact Cut.nil | (apply Cut.cons; (repeat (first | exact Pick.here | apply Pick.there)))))⟩) fun hok => ?_⟩
    obtain ⟨x0, x1⟩ := hx (by simpa using hok)
    refine call_o H (put18_t p bs x _ x0 x1) (by repeat (first | exact Cut.nil | (apply Cut.cons; (repeat (first | exact Pick.here | apply Pick.there))))) fun vx L' wx hq H => ?_
    obtain ⟨rfl, bs', hl, rfl⟩ := hq
    simp only [List.cons_append, List.nil_append] at H
    exact ⟨rfl, _, ⟨⟨_, rfl⟩, bs', hl, rfl⟩, H.drop (by repeat (first | exact Cut.nil | (apply Cut.cons; (repeat (first | exact Pick.here | apply Pick.there)))))⟩
  refine ldI_o H (by repeat (first | exact Pick.here | apply Pick.there)) (by rfl) (cnd_i (fun _ => out _ _ (fun h => by cases h) H) fun h0 => cnd_i (fun _ => out _ _ (fun h => by cases h) H) fun _ => cnd_i (fun _ => out _ _ (fun h => by cases h) H) fun _ => ldI_o H (by repeat (first | exact Pick.here | apply Pick.there)) (by rfl) ?_)
  refine call_p H (refHolds_t p bs at' pg) (by repeat (first | exact Cut.nil | (apply Cut.cons; (repeat (first | exact Pick.here | apply Pick.there))))) fun wx H => ?_
  exact ⟨_, rfl, out _ _ (fun _ => by simpa using h0) H⟩
theorem put18d_t (p : Nat) (bs : List Int) (hn : bs.length ≤ 131072) (a s pg id : Int) (v : Bool) (bi at' : Int) : Tri P F.crierref18_Table_Put [tabV a s pg, ptr p, .int .i64 id, devV v bi at'] [memI p bs] (DocQ p bs) := by
  intro w S hS
  refine crierref18_Table_Put_cv ?_
  unfold crierref18_Table_Put
  have H := Own.start hS
  refine alc_o H fun b9 wx H => alc_o H fun b11 wx H => ?_
  repeat (first | refine ldI_o H (by repeat (first | exact Pick.here | apply Pick.there)) (by rfl) ?_ | refine ldL_o H (by repeat (first | exact Pick.here | apply Pick.there)) (by rfl) ?_ | refine ldB_o H (by repeat (first | exact Pick.here | apply Pick.there)) (by rfl) ?_ | refine ldP_o H (by repeat (first | exact Pick.here | apply Pick.there)) (by rfl) ?_ | refine ldS_o H (by repeat (first | exact Pick.here | apply Pick.there)) (by rfl) ?_)
  refine call_o H (right18_t p bs a s pg) (by repeat (first | exact Cut.nil | (apply Cut.cons; (repeat (first | exact Pick.here | apply Pick.there))))) fun vx L' wx hq H => ?_
  obtain ⟨⟨e, rfl, he⟩, rfl⟩ := hq
  simp only [List.cons_append, List.nil_append] at H
  refine ⟨_, rfl, cnd_i (fun _ => ⟨_, ⟨⟨_, rfl⟩, bs, rfl, rfl⟩, H.drop (by repeat (first | exact Cut.nil | (apply Cut.cons; (repeat (first | exact Pick.here | apply Pick.there)))))⟩) fun h => ?_⟩
  have hp := he (by simpa using h)
  repeat (first | refine ldI_o H (by repeat (first | exact Pick.here | apply Pick.there)) (by rfl) ?_ | refine ldL_o H (by repeat (first | exact Pick.here | apply Pick.there)) (by rfl) ?_ | refine ldB_o H (by repeat (first | exact Pick.here | apply Pick.there)) (by rfl) ?_ | refine ldP_o H (by repeat (first | exact Pick.here | apply Pick.there)) (by rfl) ?_ | refine ldS_o H (by repeat (first | exact Pick.here | apply Pick.there)) (by rfl) ?_)
  refine call_o H (place18_t p bs hn a s pg id hp) (by repeat (first | exact Cut.nil | (apply Cut.cons; (repeat (first | exact Pick.here | apply Pick.there))))) fun vx L' wx hq H => ?_
  obtain ⟨⟨x, ok, rfl, hx⟩, rfl⟩ := hq
  simp only [List.cons_append, List.nil_append] at H
  refine ⟨_, _, rfl, cnd_i (fun _ => ⟨_, ⟨⟨_, rfl⟩, bs, rfl, rfl⟩, H.drop (by repeat (first | exact Cut.nil | (apply Cut.cons; (repeat (first | exact Pick.here | apply Pick.there)))))⟩) fun hok => ?_⟩
  obtain ⟨x0, x1⟩ := hx (by simpa using hok)
  refine ldB_o H (by repeat (first | exact Pick.here | apply Pick.there)) (by rfl) (cnd_i (fun _ => ?_) fun _ => join_o ?_)
  · refine call_o H (put18_t p bs x _ x0 x1) (by repeat (first | exact Cut.nil | (apply Cut.cons; (repeat (first | exact Pick.here | apply Pick.there))))) fun vx L' wx hq H => ?_
    obtain ⟨rfl, bs', hl, rfl⟩ := hq
    simp only [List.cons_append, List.nil_append] at H
    exact ⟨rfl, _, ⟨⟨_, rfl⟩, bs', hl, rfl⟩, H.drop (by repeat (first | exact Cut.nil | (apply Cut.cons; (repeat (first | exact Pick.here | apply Pick.there)))))⟩
  · have out : ∀ y, crierref18_Table_Put_j0 (some ⟨p, 0, none⟩) (fun r w' => ∃ L', DocQ p bs r L' ∧ X.Own w S L' w') b11 x y wx := by
      intro y
      unfold crierref18_Table_Put_j0
      refine cnd_i (fun _ => ⟨_, ⟨⟨_, rfl⟩, bs, rfl, rfl⟩, H.drop (by repeat (first | exact Cut.nil | (apply Cut.cons; (repeat (first | exact Pick.here | apply Pick.there)))))⟩) fun _ => ?_
      repeat (first | refine ldI_o H (by repeat (first | exact Pick.here | apply Pick.there)) (by rfl) ?_ | refine ldL_o H (by repeat (first | exact Pick.here | apply Pick.there)) (by rfl) ?_ | refine ldB_o H (by repeat (first | exact Pick.here | apply Pick.there)) (by rfl) ?_ | refine ldP_o H (by repeat (first | exact Pick.here | apply Pick.there)) (by rfl) ?_ | refine ldS_o H (by repeat (first | exact Pick.here | apply Pick.there)) (by rfl) ?_)
      refine call_o H (put18_t p bs x _ x0 x1) (by repeat (first | exact Cut.nil | (apply Cut.cons; (repeat (first | exact Pick.here | apply Pick.there))))) fun vx L' wx hq H => ?_
      obtain ⟨rfl, bs', hl, rfl⟩ := hq
      simp only [List.cons_append, List.nil_append] at H
      exact ⟨rfl, _, ⟨⟨_, rfl⟩, bs', hl, rfl⟩, H.drop (by repeat (first | exact Cut.nil | (apply Cut.cons; (repeat (first | exact Pick.here | apply Pick.there)))))⟩
    exact ldI_o H (by repeat (first | exact Pick.here | apply Pick.there)) (by rfl) (cnd_i (fun _ => out _) fun _ => ldI_o H (by repeat (first | exact Pick.here | apply Pick.there)) (by rfl) (cnd_i (fun _ => out _) fun _ => ldI_o H (by repeat (first | exact Pick.here | apply Pick.there)) (by rfl) (cnd_i (fun _ => out _) fun _ => ldI_o H (by repeat (first | exact Pick.here | apply Pick.there)) (by rfl) ⟨by omega, cnd_i (fun _ => out _) fun _ => ldI_o H (by repeat (first | exact Pick.here | apply Pick.there)) (by rfl) (out _)⟩)))
theorem setRoute18_t (p : Nat) (bs : List Int) (hn : bs.length ≤ 131072) (v : Bool) (b a ev n c : Int) (r : Bool) : Tri P F.crierref18_Device_SetRoute [devV v b a, ptr p, .int .i64 ev, rouV n c r] [memI p bs] (DocQ p bs) := by
  intro w S hS
  refine crierref18_Device_SetRoute_cv ?_
  unfold crierref18_Device_SetRoute
  have H := Own.start hS
  refine alc_o H fun b9 wx H => alc_o H fun b11 wx H => ?_
  repeat (first | refine ldI_o H (by repeat (first | exact Pick.here | apply Pick.there)) (by rfl) ?_ | refine ldL_o H (by repeat (first | exact Pick.here | apply Pick.there)) (by rfl) ?_ | refine ldB_o H (by repeat (first | exact Pick.here | apply Pick.there)) (by rfl) ?_ | refine ldP_o H (by repeat (first | exact Pick.here | apply Pick.there)) (by rfl) ?_ | refine ldS_o H (by repeat (first | exact Pick.here | apply Pick.there)) (by rfl) ?_)
  refine call_o H (dplace18_t p bs hn v b a ev) (by repeat (first | exact Cut.nil | (apply Cut.cons; (repeat (first | exact Pick.here | apply Pick.there))))) fun vx L' wx hq H => ?_
  obtain ⟨⟨x, e, rfl, hx⟩, rfl⟩ := hq
  simp only [List.cons_append, List.nil_append] at H
  refine ⟨_, _, rfl, cnd_i (fun _ => ⟨_, ⟨⟨_, rfl⟩, bs, rfl, rfl⟩, H.drop (by repeat (first | exact Cut.nil | (apply Cut.cons; (repeat (first | exact Pick.here | apply Pick.there)))))⟩) fun h => ?_⟩
  obtain ⟨x0, x1⟩ := hx (by simpa using h)
  refine ldB_o H (by repeat (first | exact Pick.here | apply Pick.there)) (by rfl) (cnd_i (fun _ => ?_) fun _ => join_o ?_)
  · refine call_o H (put18_t p bs x _ x0 x1) (by repeat (first | exact Cut.nil | (apply Cut.cons; (repeat (first | exact Pick.here | apply Pick.there))))) fun vx L' wx hq H => ?_
    obtain ⟨rfl, bs', hl, rfl⟩ := hq
    simp only [List.cons_append, List.nil_append] at H
    exact ⟨rfl, _, ⟨⟨_, rfl⟩, bs', hl, rfl⟩, H.drop (by repeat (first | exact Cut.nil | (apply Cut.cons; (repeat (first | exact Pick.here | apply Pick.there)))))⟩
  · have out : ∀ y, crierref18_Device_SetRoute_j0 (some ⟨p, 0, none⟩) (fun r w' => ∃ L', DocQ p bs r L' ∧ X.Own w S L' w') b11 x y wx := by
      intro y
      unfold crierref18_Device_SetRoute_j0
      refine cnd_i (fun _ => ⟨_, ⟨⟨_, rfl⟩, bs, rfl, rfl⟩, H.drop (by repeat (first | exact Cut.nil | (apply Cut.cons; (repeat (first | exact Pick.here | apply Pick.there)))))⟩) fun _ => ?_
      refine ldI_o H (by repeat (first | exact Pick.here | apply Pick.there)) (by rfl) ⟨by omega, ?_⟩
      repeat (first | refine ldI_o H (by repeat (first | exact Pick.here | apply Pick.there)) (by rfl) ?_ | refine ldL_o H (by repeat (first | exact Pick.here | apply Pick.there)) (by rfl) ?_ | refine ldB_o H (by repeat (first | exact Pick.here | apply Pick.there)) (by rfl) ?_ | refine ldP_o H (by repeat (first | exact Pick.here | apply Pick.there)) (by rfl) ?_ | refine ldS_o H (by repeat (first | exact Pick.here | apply Pick.there)) (by rfl) ?_)
      refine call_o H (put18_t p bs x _ x0 x1) (by repeat (first | exact Cut.nil | (apply Cut.cons; (repeat (first | exact Pick.here | apply Pick.there))))) fun vx L' wx hq H => ?_
      obtain ⟨rfl, bs', hl, rfl⟩ := hq
      simp only [List.cons_append, List.nil_append] at H
      exact ⟨rfl, _, ⟨⟨_, rfl⟩, bs', hl, rfl⟩, H.drop (by repeat (first | exact Cut.nil | (apply Cut.cons; (repeat (first | exact Pick.here | apply Pick.there)))))⟩
    exact ldI_o H (by repeat (first | exact Pick.here | apply Pick.there)) (by rfl) (cnd_i (fun _ => out _) fun _ => ldI_o H (by repeat (first | exact Pick.here | apply Pick.there)) (by rfl) (cnd_i (fun _ => out _) fun _ => ldI_o H (by repeat (first | exact Pick.here | apply Pick.there)) (by rfl) (cnd_i (fun _ => out _) fun _ => ldI_o H (by repeat (first | exact Pick.here | apply Pick.there)) (by rfl) (out _))))
theorem setTarget18_t (p : Nat) (bs : List Int) (hn : bs.length ≤ 131072) (a s c t : Int) (is : Bool) : Tri P F.crierref18_SetTarget [ptr p, winV a s, .int .i64 c, .int .i64 t, .bool is] [memI p bs] (DocQ p bs) := by
  intro w S hS
  refine crierref18_SetTarget_cv ?_
  unfold crierref18_SetTarget
  have H := Own.start hS
  refine alc_o H fun b7 wx H => join_o ?_
  have out1 : ∀ y, crierref18_SetTarget_j1 (some ⟨p, 0, none⟩) c t is (fun r w' => ∃ L', DocQ p bs r L' ∧ X.Own w S L' w') b7 y wx := by
    intro y
    unfold crierref18_SetTarget_j1
    refine cnd_i (fun _ => ⟨_, ⟨⟨_, rfl⟩, bs, rfl, rfl⟩, H.drop (by repeat (first | exact Cut.nil | (apply Cut.cons; (repeat (first | exact Pick.here | apply Pick.there)))))⟩) fun _ => ?_
    repeat (first | refine ldI_o H (by repeat (first | exact Pick.here | apply Pick.there)) (by rfl) ?_ | refine ldL_o H (by repeat (first | exact Pick.here | apply Pick.there)) (by rfl) ?_ | refine ldB_o H (by repeat (first | exact Pick.here | apply Pick.there)) (by rfl) ?_ | refine ldP_o H (by repeat (first | exact Pick.here | apply Pick.there)) (by rfl) ?_ | refine ldS_o H (by repeat (first | exact Pick.here | apply Pick.there)) (by rfl) ?_)
    refine call_o H (entry18_t p bs hn a s c) (by repeat (first | exact Cut.nil | (apply Cut.cons; (repeat (first | exact Pick.here | apply Pick.there))))) fun vx L' wx hq H => ?_
    obtain ⟨⟨x, ok, rfl, hx⟩, rfl⟩ := hq
    simp only [List.cons_append, List.nil_append] at H
    refine ⟨_, _, rfl, cnd_i (fun _ => ⟨_, ⟨⟨_, rfl⟩, bs, rfl, rfl⟩, H.drop (by repeat (first | exact Cut.nil | (apply Cut.cons; (repeat (first | exact Pick.here | apply Pick.there)))))⟩) fun hok => join_o ?_⟩
    obtain ⟨x0, x1⟩ := hx (by simpa using hok)
    refine cnd_i (fun _ => ?_) fun _ => ?_
    · refine call_o H (put18_t p bs x _ x0 x1) (by repeat (first | exact Cut.nil | (apply Cut.cons; (repeat (first | exact Pick.here | apply Pick.there))))) fun vx L' wx hq H => ?_
      obtain ⟨rfl, bs', hl, rfl⟩ := hq
      simp only [List.cons_append, List.nil_append] at H
      refine ⟨rfl, ?_⟩
      show crierref18_SetTarget_j0 _ _
      unfold crierref18_SetTarget_j0
      exact ⟨_, ⟨⟨_, rfl⟩, bs', hl, rfl⟩, H.drop (by repeat (first | exact Cut.nil | (apply Cut.cons; (repeat (first | exact Pick.here | apply Pick.there)))))⟩
    · refine call_o H (put18_t p bs x _ x0 x1) (by repeat (first | exact Cut.nil | (apply Cut.cons; (repeat (first | exact Pick.here | apply Pick.there))))) fun vx L' wx hq H => ?_
      obtain ⟨rfl, bs', hl, rfl⟩ := hq
      simp only [List.cons_append, List.nil_append] at H
      refine ⟨rfl, ?_⟩
      show crierref18_SetTarget_j0 _ _
      unfold crierref18_SetTarget_j0
      exact ⟨_, ⟨⟨_, rfl⟩, bs', hl, rfl⟩, H.drop (by repeat (first | exact Cut.nil | (apply Cut.cons; (repeat (first | exact Pick.here | apply Pick.there)))))⟩
  have out2 : ∀ y, crierref18_SetTarget_j2 (some ⟨p, 0, none⟩) c t is (fun r w' => ∃ L', DocQ p bs r L' ∧ X.Own w S L' w') b7 y wx := by
    intro y
    unfold crierref18_SetTarget_j2
    exact cnd_i (fun _ => ⟨_, ⟨⟨_, rfl⟩, bs, rfl, rfl⟩, H.drop (by repeat (first | exact Cut.nil | (apply Cut.cons; (repeat (first | exact Pick.here | apply Pick.there)))))⟩) fun _ => join_o (cnd_i (fun _ => out1 _) fun _ => out1 _)
  exact cnd_i (fun _ => out2 _) fun _ => out2 _
end Go.Proofs.Ythoieihffbahpaa
