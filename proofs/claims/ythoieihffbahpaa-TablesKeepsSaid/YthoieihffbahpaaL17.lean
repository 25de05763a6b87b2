/-
  tables: an act, of both; a script of acts.
-/
import Derived.Test.YthoieihffbahpaaL16
namespace Go.Proofs.Ythoieihffbahpaa
open Go Go.RowKit X
set_option maxRecDepth 100000
set_option linter.unusedVariables false
set_option linter.unusedSimpArgs false
set_option maxHeartbeats 2000000
structure Act18 where
  (k id at' ev : Int) (dv : Bool) (db da rn rc : Int) (rv : Bool) (wa ws : Int) (is : Bool) (v : Int)
def Act18.cells (x : Act18) : List Value := [.int .i64 x.k, .int .i64 x.id, .int .i64 x.at', .int .i64 x.ev, .bool x.dv, .int .i64 x.db, .int .i64 x.da, .int .i64 x.rn, .int .i64 x.rc, .bool x.rv, .int .i64 x.wa, .int .i64 x.ws, .bool x.is, .int .u64 x.v]
def Act18.Good (x : Act18) : Prop := x.da < 9223372036854775808 ∧ 0 ≤ x.v ∧ x.v < 2 ^ 64
abbrev BothQ (b b' : Nat) (bs bs2 : List Int) (r : Value) (L' : List It) : Prop := (∃ e : Bool, r = .bool e) ∧ ∃ t t2 : List Int, (∀ x ∈ t, 0 ≤ x ∧ x < 256) ∧ t.length = bs.length ∧ t2.length = bs2.length ∧ L' = [memI b t, memI b' t2]
theorem does_t (b b' : Nat) (bs bs2 : List Int) (hr : ∀ x ∈ bs, 0 ≤ x ∧ x < 256) (hn : bs.length ≤ 131072) (hn2 : bs2.length ≤ 131072) (a s pg : Int) (x : Act18) (hx : x.Good) :
    Tri P F.crierlaw18_does [tabV a s pg, ptr b, ptr b', .agg x.cells.toArray] [memI b bs, memI b' bs2] (BothQ b b' bs bs2) := by
  intro w S hS
  obtain ⟨k, id, at', ev, dv, db, da, rn, rc, rv, wa, ws, is, v⟩ := x
  obtain ⟨hda, hv⟩ := hx
  dsimp only at hda hv
  unfold Act18.cells
  refine crierlaw18_does_cv ?_
  unfold crierlaw18_does
  have H := Own.start hS
  refine alc_o H fun b20 wx H => alc_o H fun b22 wx H => ldI_o H .here (by rfl) (cnd_i (fun _ => ?_) fun _ => ?_)
  · refine drw_o H fun wx H => ?_
    repeat (first | refine ldI_o H (by repeat (first | exact Pick.here | apply Pick.there)) (by rfl) ?_ | refine ldL_o H (by repeat (first | exact Pick.here | apply Pick.there)) (by rfl) ?_ | refine ldB_o H (by repeat (first | exact Pick.here | apply Pick.there)) (by rfl) ?_ | refine ldP_o H (by repeat (first | exact Pick.here | apply Pick.there)) (by rfl) ?_ | refine ldS_o H (by repeat (first | exact Pick.here | apply Pick.there)) (by rfl) ?_)
    refine call_o H (lead_t b bs hr hn a s pg id at') (by repeat (first | exact Cut.nil | (apply Cut.cons; (repeat (first | exact Pick.here | apply Pick.there))))) fun vx L' wx hq H => ?_
    obtain ⟨rfl, rfl⟩ := hq
    simp only [List.cons_append, List.nil_append] at H
    have hr' := leadM_range hr a s pg id at'
    have hl' := leadM_length bs a s pg id at'
    generalize leadM bs a s pg id at' = m at *
    refine ⟨_, rfl, ?_, ?_, ?_, ?_⟩
    · repeat (first | refine ldI_o H (by repeat (first | exact Pick.here | apply Pick.there)) (by rfl) ?_ | refine ldL_o H (by repeat (first | exact Pick.here | apply Pick.there)) (by rfl) ?_ | refine ldB_o H (by repeat (first | exact Pick.here | apply Pick.there)) (by rfl) ?_ | refine ldP_o H (by repeat (first | exact Pick.here | apply Pick.there)) (by rfl) ?_ | refine ldS_o H (by repeat (first | exact Pick.here | apply Pick.there)) (by rfl) ?_)
      rfl
    · repeat (first | refine ldI_o H (by repeat (first | exact Pick.here | apply Pick.there)) (by rfl) ?_ | refine ldL_o H (by repeat (first | exact Pick.here | apply Pick.there)) (by rfl) ?_ | refine ldB_o H (by repeat (first | exact Pick.here | apply Pick.there)) (by rfl) ?_ | refine ldP_o H (by repeat (first | exact Pick.here | apply Pick.there)) (by rfl) ?_ | refine ldS_o H (by repeat (first | exact Pick.here | apply Pick.there)) (by rfl) ?_)
      rfl
    · repeat (first | refine ldI_o H (by repeat (first | exact Pick.here | apply Pick.there)) (by rfl) ?_ | refine ldL_o H (by repeat (first | exact Pick.here | apply Pick.there)) (by rfl) ?_ | refine ldB_o H (by repeat (first | exact Pick.here | apply Pick.there)) (by rfl) ?_ | refine ldP_o H (by repeat (first | exact Pick.here | apply Pick.there)) (by rfl) ?_ | refine ldS_o H (by repeat (first | exact Pick.here | apply Pick.there)) (by rfl) ?_)
      rfl
    refine call_o H (table_t a s pg) (by repeat (first | exact Cut.nil | (apply Cut.cons; (repeat (first | exact Pick.here | apply Pick.there))))) fun vx L' wx hq H => ?_
    obtain ⟨rfl, rfl⟩ := hq
    simp only [List.cons_append, List.nil_append] at H
    refine ⟨_, _, _, rfl, ?_, ?_, ?_⟩
    · repeat (first | refine ldI_o H (by repeat (first | exact Pick.here | apply Pick.there)) (by rfl) ?_ | refine ldL_o H (by repeat (first | exact Pick.here | apply Pick.there)) (by rfl) ?_ | refine ldB_o H (by repeat (first | exact Pick.here | apply Pick.there)) (by rfl) ?_ | refine ldP_o H (by repeat (first | exact Pick.here | apply Pick.there)) (by rfl) ?_ | refine ldS_o H (by repeat (first | exact Pick.here | apply Pick.there)) (by rfl) ?_)
      rfl
    · repeat (first | refine ldI_o H (by repeat (first | exact Pick.here | apply Pick.there)) (by rfl) ?_ | refine ldL_o H (by repeat (first | exact Pick.here | apply Pick.there)) (by rfl) ?_ | refine ldB_o H (by repeat (first | exact Pick.here | apply Pick.there)) (by rfl) ?_ | refine ldP_o H (by repeat (first | exact Pick.here | apply Pick.there)) (by rfl) ?_ | refine ldS_o H (by repeat (first | exact Pick.here | apply Pick.there)) (by rfl) ?_)
      rfl
    refine call_o H (lead18_t b' bs2 hn2 a s pg id at') (by repeat (first | exact Cut.nil | (apply Cut.cons; (repeat (first | exact Pick.here | apply Pick.there))))) fun vx L' wx hq H => ?_
    obtain ⟨⟨e, rfl⟩, t2, ht2, rfl⟩ := hq
    simp only [List.cons_append, List.nil_append] at H
    exact ⟨_, rfl, _, ⟨⟨_, rfl⟩, m.1, t2, hr', hl', ht2, rfl⟩, H.drop (by repeat (first | exact Cut.nil | (apply Cut.cons; (repeat (first | exact Pick.here | apply Pick.there)))))⟩
  refine cnd_i (fun _ => ?_) fun _ => ?_
  · refine drw_o H fun wx H => ?_
    repeat (first | refine ldI_o H (by repeat (first | exact Pick.here | apply Pick.there)) (by rfl) ?_ | refine ldL_o H (by repeat (first | exact Pick.here | apply Pick.there)) (by rfl) ?_ | refine ldB_o H (by repeat (first | exact Pick.here | apply Pick.there)) (by rfl) ?_ | refine ldP_o H (by repeat (first | exact Pick.here | apply Pick.there)) (by rfl) ?_ | refine ldS_o H (by repeat (first | exact Pick.here | apply Pick.there)) (by rfl) ?_)
    refine call_o H (put_t b bs hr hn a s pg id dv db da hda) (by repeat (first | exact Cut.nil | (apply Cut.cons; (repeat (first | exact Pick.here | apply Pick.there))))) fun vx L' wx hq H => ?_
    obtain ⟨rfl, rfl⟩ := hq
    simp only [List.cons_append, List.nil_append] at H
    have hr' := putM_range hr a s pg id dv db da
    have hl' := putM_length bs a s pg id dv db da
    generalize putM bs a s pg id dv db da = m at *
    refine ⟨_, rfl, ?_, ?_, ?_, ?_⟩
    · repeat (first | refine ldI_o H (by repeat (first | exact Pick.here | apply Pick.there)) (by rfl) ?_ | refine ldL_o H (by repeat (first | exact Pick.here | apply Pick.there)) (by rfl) ?_ | refine ldB_o H (by repeat (first | exact Pick.here | apply Pick.there)) (by rfl) ?_ | refine ldP_o H (by repeat (first | exact Pick.here | apply Pick.there)) (by rfl) ?_ | refine ldS_o H (by repeat (first | exact Pick.here | apply Pick.there)) (by rfl) ?_)
      rfl
    · repeat (first | refine ldI_o H (by repeat (first | exact Pick.here | apply Pick.there)) (by rfl) ?_ | refine ldL_o H (by repeat (first | exact Pick.here | apply Pick.there)) (by rfl) ?_ | refine ldB_o H (by repeat (first | exact Pick.here | apply Pick.there)) (by rfl) ?_ | refine ldP_o H (by repeat (first | exact Pick.here | apply Pick.there)) (by rfl) ?_ | refine ldS_o H (by repeat (first | exact Pick.here | apply Pick.there)) (by rfl) ?_)
      rfl
    · repeat (first | refine ldI_o H (by repeat (first | exact Pick.here | apply Pick.there)) (by rfl) ?_ | refine ldL_o H (by repeat (first | exact Pick.here | apply Pick.there)) (by rfl) ?_ | refine ldB_o H (by repeat (first | exact Pick.here | apply Pick.there)) (by rfl) ?_ | refine ldP_o H (by repeat (first | exact Pick.here | apply Pick.there)) (by rfl) ?_ | refine ldS_o H (by repeat (first | exact Pick.here | apply Pick.there)) (by rfl) ?_)
      rfl
    refine call_o H (table_t a s pg) (by repeat (first | exact Cut.nil | (apply Cut.cons; (repeat (first | exact Pick.here | apply Pick.there))))) fun vx L' wx hq H => ?_
    obtain ⟨rfl, rfl⟩ := hq
    simp only [List.cons_append, List.nil_append] at H
    refine ⟨_, _, _, rfl, ?_, ?_, ?_⟩
    · repeat (first | refine ldI_o H (by repeat (first | exact Pick.here | apply Pick.there)) (by rfl) ?_ | refine ldL_o H (by repeat (first | exact Pick.here | apply Pick.there)) (by rfl) ?_ | refine ldB_o H (by repeat (first | exact Pick.here | apply Pick.there)) (by rfl) ?_ | refine ldP_o H (by repeat (first | exact Pick.here | apply Pick.there)) (by rfl) ?_ | refine ldS_o H (by repeat (first | exact Pick.here | apply Pick.there)) (by rfl) ?_)
      rfl
    · repeat (first | refine ldI_o H (by repeat (first | exact Pick.here | apply Pick.there)) (by rfl) ?_ | refine ldL_o H (by repeat (first | exact Pick.here | apply Pick.there)) (by rfl) ?_ | refine ldB_o H (by repeat (first | exact Pick.here | apply Pick.there)) (by rfl) ?_ | refine ldP_o H (by repeat (first | exact Pick.here | apply Pick.there)) (by rfl) ?_ | refine ldS_o H (by repeat (first | exact Pick.here | apply Pick.there)) (by rfl) ?_)
      rfl
    refine call_o H (told_t dv db da) (by repeat (first | exact Cut.nil | (apply Cut.cons; (repeat (first | exact Pick.here | apply Pick.there))))) fun vx L' wx hq H => ?_
    obtain ⟨rfl, rfl⟩ := hq
    simp only [List.cons_append, List.nil_append] at H
    refine ⟨_, _, _, rfl, ?_, ?_⟩
    · repeat (first | refine ldI_o H (by repeat (first | exact Pick.here | apply Pick.there)) (by rfl) ?_ | refine ldL_o H (by repeat (first | exact Pick.here | apply Pick.there)) (by rfl) ?_ | refine ldB_o H (by repeat (first | exact Pick.here | apply Pick.there)) (by rfl) ?_ | refine ldP_o H (by repeat (first | exact Pick.here | apply Pick.there)) (by rfl) ?_ | refine ldS_o H (by repeat (first | exact Pick.here | apply Pick.there)) (by rfl) ?_)
      rfl
    refine call_o H (put18d_t b' bs2 hn2 a s pg id dv db da) (by repeat (first | exact Cut.nil | (apply Cut.cons; (repeat (first | exact Pick.here | apply Pick.there))))) fun vx L' wx hq H => ?_
    obtain ⟨⟨e, rfl⟩, t2, ht2, rfl⟩ := hq
    simp only [List.cons_append, List.nil_append] at H
    exact ⟨_, rfl, _, ⟨⟨_, rfl⟩, m.1, t2, hr', hl', ht2, rfl⟩, H.drop (by repeat (first | exact Cut.nil | (apply Cut.cons; (repeat (first | exact Pick.here | apply Pick.there)))))⟩
  refine cnd_i (fun _ => ?_) fun _ => ?_
  · refine drw_o H fun wx H => ?_
    repeat (first | refine ldI_o H (by repeat (first | exact Pick.here | apply Pick.there)) (by rfl) ?_ | refine ldL_o H (by repeat (first | exact Pick.here | apply Pick.there)) (by rfl) ?_ | refine ldB_o H (by repeat (first | exact Pick.here | apply Pick.there)) (by rfl) ?_ | refine ldP_o H (by repeat (first | exact Pick.here | apply Pick.there)) (by rfl) ?_ | refine ldS_o H (by repeat (first | exact Pick.here | apply Pick.there)) (by rfl) ?_)
    refine call_o H (setRoute_t b bs dv db da ev rn rc rv) (by repeat (first | exact Cut.nil | (apply Cut.cons; (repeat (first | exact Pick.here | apply Pick.there))))) fun vx L' wx hq H => ?_
    obtain ⟨rfl, rfl⟩ := hq
    simp only [List.cons_append, List.nil_append] at H
    have hr' := setM_range hr dv db da ev rn rc rv
    have hl' := setM_length bs dv db da ev rn rc rv
    generalize setM bs dv db da ev rn rc rv = m at *
    refine ⟨_, rfl, ?_, ?_, ?_, ?_⟩
    · repeat (first | refine ldI_o H (by repeat (first | exact Pick.here | apply Pick.there)) (by rfl) ?_ | refine ldL_o H (by repeat (first | exact Pick.here | apply Pick.there)) (by rfl) ?_ | refine ldB_o H (by repeat (first | exact Pick.here | apply Pick.there)) (by rfl) ?_ | refine ldP_o H (by repeat (first | exact Pick.here | apply Pick.there)) (by rfl) ?_ | refine ldS_o H (by repeat (first | exact Pick.here | apply Pick.there)) (by rfl) ?_)
      rfl
    · repeat (first | refine ldI_o H (by repeat (first | exact Pick.here | apply Pick.there)) (by rfl) ?_ | refine ldL_o H (by repeat (first | exact Pick.here | apply Pick.there)) (by rfl) ?_ | refine ldB_o H (by repeat (first | exact Pick.here | apply Pick.there)) (by rfl) ?_ | refine ldP_o H (by repeat (first | exact Pick.here | apply Pick.there)) (by rfl) ?_ | refine ldS_o H (by repeat (first | exact Pick.here | apply Pick.there)) (by rfl) ?_)
      rfl
    · repeat (first | refine ldI_o H (by repeat (first | exact Pick.here | apply Pick.there)) (by rfl) ?_ | refine ldL_o H (by repeat (first | exact Pick.here | apply Pick.there)) (by rfl) ?_ | refine ldB_o H (by repeat (first | exact Pick.here | apply Pick.there)) (by rfl) ?_ | refine ldP_o H (by repeat (first | exact Pick.here | apply Pick.there)) (by rfl) ?_ | refine ldS_o H (by repeat (first | exact Pick.here | apply Pick.there)) (by rfl) ?_)
      rfl
    refine call_o H (told_t dv db da) (by repeat (first | exact Cut.nil | (apply Cut.cons; (repeat (first | exact Pick.here | apply Pick.there))))) fun vx L' wx hq H => ?_
    obtain ⟨rfl, rfl⟩ := hq
    simp only [List.cons_append, List.nil_append] at H
    refine ⟨_, _, _, rfl, ?_, ?_, ?_⟩
    · repeat (first | refine ldI_o H (by repeat (first | exact Pick.here | apply Pick.there)) (by rfl) ?_ | refine ldL_o H (by repeat (first | exact Pick.here | apply Pick.there)) (by rfl) ?_ | refine ldB_o H (by repeat (first | exact Pick.here | apply Pick.there)) (by rfl) ?_ | refine ldP_o H (by repeat (first | exact Pick.here | apply Pick.there)) (by rfl) ?_ | refine ldS_o H (by repeat (first | exact Pick.here | apply Pick.there)) (by rfl) ?_)
      rfl
    · repeat (first | refine ldI_o H (by repeat (first | exact Pick.here | apply Pick.there)) (by rfl) ?_ | refine ldL_o H (by repeat (first | exact Pick.here | apply Pick.there)) (by rfl) ?_ | refine ldB_o H (by repeat (first | exact Pick.here | apply Pick.there)) (by rfl) ?_ | refine ldP_o H (by repeat (first | exact Pick.here | apply Pick.there)) (by rfl) ?_ | refine ldS_o H (by repeat (first | exact Pick.here | apply Pick.there)) (by rfl) ?_)
      rfl
    refine call_o H (setRoute18_t b' bs2 hn2 dv db da ev rn rc rv) (by repeat (first | exact Cut.nil | (apply Cut.cons; (repeat (first | exact Pick.here | apply Pick.there))))) fun vx L' wx hq H => ?_
    obtain ⟨⟨e, rfl⟩, t2, ht2, rfl⟩ := hq
    simp only [List.cons_append, List.nil_append] at H
    exact ⟨_, rfl, _, ⟨⟨_, rfl⟩, m.1, t2, hr', hl', ht2, rfl⟩, H.drop (by repeat (first | exact Cut.nil | (apply Cut.cons; (repeat (first | exact Pick.here | apply Pick.there)))))⟩
  refine cnd_i (fun _ => ?_) fun _ => ?_
  · refine drw_o H fun wx H => ?_
    repeat (first | refine ldI_o H (by repeat (first | exact Pick.here | apply Pick.there)) (by rfl) ?_ | refine ldL_o H (by repeat (first | exact Pick.here | apply Pick.there)) (by rfl) ?_ | refine ldB_o H (by repeat (first | exact Pick.here | apply Pick.there)) (by rfl) ?_ | refine ldP_o H (by repeat (first | exact Pick.here | apply Pick.there)) (by rfl) ?_ | refine ldS_o H (by repeat (first | exact Pick.here | apply Pick.there)) (by rfl) ?_)
    refine call_o H (setTarget_t b bs hn wa ws id at' is) (by repeat (first | exact Cut.nil | (apply Cut.cons; (repeat (first | exact Pick.here | apply Pick.there))))) fun vx L' wx hq H => ?_
    obtain ⟨rfl, rfl⟩ := hq
    simp only [List.cons_append, List.nil_append] at H
    have hr' := stgM_range hr wa ws id at' is
    have hl' := stgM_length bs wa ws id at' is
    generalize stgM bs wa ws id at' is = m at *
    refine ⟨_, rfl, ?_, ?_, ?_, ?_, ?_⟩
    · repeat (first | refine ldI_o H (by repeat (first | exact Pick.here | apply Pick.there)) (by rfl) ?_ | refine ldL_o H (by repeat (first | exact Pick.here | apply Pick.there)) (by rfl) ?_ | refine ldB_o H (by repeat (first | exact Pick.here | apply Pick.there)) (by rfl) ?_ | refine ldP_o H (by repeat (first | exact Pick.here | apply Pick.there)) (by rfl) ?_ | refine ldS_o H (by repeat (first | exact Pick.here | apply Pick.there)) (by rfl) ?_)
      rfl
    · repeat (first | refine ldI_o H (by repeat (first | exact Pick.here | apply Pick.there)) (by rfl) ?_ | refine ldL_o H (by repeat (first | exact Pick.here | apply Pick.there)) (by rfl) ?_ | refine ldB_o H (by repeat (first | exact Pick.here | apply Pick.there)) (by rfl) ?_ | refine ldP_o H (by repeat (first | exact Pick.here | apply Pick.there)) (by rfl) ?_ | refine ldS_o H (by repeat (first | exact Pick.here | apply Pick.there)) (by rfl) ?_)
      rfl
    · repeat (first | refine ldI_o H (by repeat (first | exact Pick.here | apply Pick.there)) (by rfl) ?_ | refine ldL_o H (by repeat (first | exact Pick.here | apply Pick.there)) (by rfl) ?_ | refine ldB_o H (by repeat (first | exact Pick.here | apply Pick.there)) (by rfl) ?_ | refine ldP_o H (by repeat (first | exact Pick.here | apply Pick.there)) (by rfl) ?_ | refine ldS_o H (by repeat (first | exact Pick.here | apply Pick.there)) (by rfl) ?_)
      rfl
    · repeat (first | refine ldI_o H (by repeat (first | exact Pick.here | apply Pick.there)) (by rfl) ?_ | refine ldL_o H (by repeat (first | exact Pick.here | apply Pick.there)) (by rfl) ?_ | refine ldB_o H (by repeat (first | exact Pick.here | apply Pick.there)) (by rfl) ?_ | refine ldP_o H (by repeat (first | exact Pick.here | apply Pick.there)) (by rfl) ?_ | refine ldS_o H (by repeat (first | exact Pick.here | apply Pick.there)) (by rfl) ?_)
      rfl
    refine call_o H (setTarget18_t b' bs2 hn2 wa ws id at' is) (by repeat (first | exact Cut.nil | (apply Cut.cons; (repeat (first | exact Pick.here | apply Pick.there))))) fun vx L' wx hq H => ?_
    obtain ⟨⟨e, rfl⟩, t2, ht2, rfl⟩ := hq
    simp only [List.cons_append, List.nil_append] at H
    exact ⟨_, rfl, _, ⟨⟨_, rfl⟩, m.1, t2, hr', hl', ht2, rfl⟩, H.drop (by repeat (first | exact Cut.nil | (apply Cut.cons; (repeat (first | exact Pick.here | apply Pick.there)))))⟩
  refine cnd_i (fun _ => ?_) fun _ => ⟨_, ⟨⟨_, rfl⟩, bs, bs2, hr, rfl, rfl, rfl⟩, H.drop (by repeat (first | exact Cut.nil | (apply Cut.cons; (repeat (first | exact Pick.here | apply Pick.there)))))⟩
  refine call_p H (size_t b bs) (by repeat (first | exact Cut.nil | (apply Cut.cons; (repeat (first | exact Pick.here | apply Pick.there))))) fun wx H => ?_
  refine ⟨_, rfl, alc_o H fun b159 wx H => ?_⟩
  refine st1_o H (by repeat (first | exact Rep.here | apply Rep.there)) (by simp) fun wx H => ?_
  refine st1_o H (by repeat (first | exact Rep.here | apply Rep.there)) (by simp) fun wx H => ?_
  simp only [List.set_cons_zero, List.set_cons_succ] at H
  refine drw_o H fun wx H => ?_
  repeat (first | refine ldI_o H (by repeat (first | exact Pick.here | apply Pick.there)) (by rfl) ?_ | refine ldL_o H (by repeat (first | exact Pick.here | apply Pick.there)) (by rfl) ?_ | refine ldB_o H (by repeat (first | exact Pick.here | apply Pick.there)) (by rfl) ?_ | refine ldP_o H (by repeat (first | exact Pick.here | apply Pick.there)) (by rfl) ?_ | refine ldS_o H (by repeat (first | exact Pick.here | apply Pick.there)) (by rfl) ?_)
  refine call_o H (write_t b bs 0 (bs.length : Int) at' 8 v) (by repeat (first | exact Cut.nil | (apply Cut.cons; (repeat (first | exact Pick.here | apply Pick.there))))) fun vx L' wx hq H => ?_
  obtain ⟨rfl, rfl⟩ := hq
  simp only [List.cons_append, List.nil_append] at H
  have hr' : ∀ x ∈ writeM bs 0 (bs.length : Int) at' 8 v, 0 ≤ x ∧ x < 256 := by
    unfold writeM; split
    · exact wr_range hr _ _ _
    · exact hr
  have hl' : (writeM bs 0 (bs.length : Int) at' 8 v).length = bs.length := by
    unfold writeM; split
    · exact wr_length _ _ _ _
    · rfl
  have hl2 : (writeM bs2 0 (bs.length : Int) at' 8 v).length = bs2.length := by
    unfold writeM; split
    · exact wr_length _ _ _ _
    · rfl
  refine ⟨_, rfl, ?_, ?_, ?_, ?_⟩
  · repeat (first | refine ldI_o H (by repeat (first | exact Pick.here | apply Pick.there)) (by rfl) ?_ | refine ldL_o H (by repeat (first | exact Pick.here | apply Pick.there)) (by rfl) ?_ | refine ldB_o H (by repeat (first | exact Pick.here | apply Pick.there)) (by rfl) ?_ | refine ldP_o H (by repeat (first | exact Pick.here | apply Pick.there)) (by rfl) ?_ | refine ldS_o H (by repeat (first | exact Pick.here | apply Pick.there)) (by rfl) ?_)
    rfl
  · repeat (first | refine ldI_o H (by repeat (first | exact Pick.here | apply Pick.there)) (by rfl) ?_ | refine ldL_o H (by repeat (first | exact Pick.here | apply Pick.there)) (by rfl) ?_ | refine ldB_o H (by repeat (first | exact Pick.here | apply Pick.there)) (by rfl) ?_ | refine ldP_o H (by repeat (first | exact Pick.here | apply Pick.there)) (by rfl) ?_ | refine ldS_o H (by repeat (first | exact Pick.here | apply Pick.there)) (by rfl) ?_)
    rfl
  · repeat (first | refine ldI_o H (by repeat (first | exact Pick.here | apply Pick.there)) (by rfl) ?_ | refine ldL_o H (by repeat (first | exact Pick.here | apply Pick.there)) (by rfl) ?_ | refine ldB_o H (by repeat (first | exact Pick.here | apply Pick.there)) (by rfl) ?_ | refine ldP_o H (by repeat (first | exact Pick.here | apply Pick.there)) (by rfl) ?_ | refine ldS_o H (by repeat (first | exact Pick.here | apply Pick.there)) (by rfl) ?_)
    rfl
  refine call_o H (refWrite_t b' bs2 0 (bs.length : Int) at' 8 v hv) (by repeat (first | exact Cut.nil | (apply Cut.cons; (repeat (first | exact Pick.here | apply Pick.there))))) fun vx L' wx hq H => ?_
  obtain ⟨rfl, rfl⟩ := hq
  simp only [List.cons_append, List.nil_append] at H
  exact ⟨_, rfl, _, ⟨⟨_, rfl⟩, _, _, hr', hl', hl2, rfl⟩, H.drop (by repeat (first | exact Cut.nil | (apply Cut.cons; (repeat (first | exact Pick.here | apply Pick.there)))))⟩
theorem act_cells {w : World} {q : Option Addr} {xs : List Act18} (h : Slots w q 14 (xs.map Act18.cells)) {k : Nat} (hk : k < xs.length) :
    ∃ a, q = some a ∧ w.cell? (a.add (k * 14)) = some (.int .i64 xs[k].k) ∧ ∀ (j : Nat) v, 0 < j → xs[k].cells[j]? = some v → w.cell? ((a.add (k * 14)).add j) = some v := by
  obtain ⟨a, ha, hc⟩ := h k (xs[k].cells) (by simp [hk])
  have h0 := hc 0 _ rfl
  rw [add_zero'] at h0
  exact ⟨a, ha, h0, fun j v _ hv => hc j v hv⟩
theorem played_t {W : World} {q : Option Addr} {c : Nat} {xs : List Act18} (hq : Slots W q 14 (xs.map Act18.cells)) (hg : ∀ x ∈ xs, x.Good) (hl : xs.length ≤ 9223372036854775807) (a s pg sz : Int) :
    Tri P F.crierlaw18_played [tabV a s pg, .int .i64 sz, .slice q xs.length c] [keep W] fun v L' => ∃ b b' bs bs2, v = ptr b ∧ (∀ x ∈ bs, 0 ≤ x ∧ x < 256) ∧ bs.length ≤ 4096 ∧ L' = [memI b bs, memI b' bs2, keep W] := by
  intro w S hS
  refine crierlaw18_played_cv ?_
  unfold crierlaw18_played
  have H := Own.start hS
  refine alc_o H fun b8 wx H => ?_
  refine call_o H (lawNewX_t sz) (by repeat (first | exact Cut.nil | (apply Cut.cons; (repeat (first | exact Pick.here | apply Pick.there))))) fun vx L' wx hq H => ?_
  obtain ⟨b, b', rfl, rfl⟩ := hq
  simp only [List.cons_append, List.nil_append] at H
  have hN := lawN_le sz
  generalize lawN sz = N at *
  refine ⟨_, _, rfl, ?_⟩
  refine loop_o (fun (st : Int) L => ∃ (k : Nat) (bs bs2 : List Int), k ≤ xs.length ∧ st = k ∧ (∀ x ∈ bs, 0 ≤ x ∧ x < 256) ∧ bs.length = N ∧ bs2.length = N ∧ L = [memI b bs, memI b' bs2, row b8 [.int .i64 a, .int .i64 s, .int .i64 pg] T.t32, keep W]) (fun (st : Int) => ((xs.length : Int) - st).toNat) H
    ⟨0, _, _, by omega, rfl, fun x hx => by rw [(List.mem_replicate.1 hx).2]; omega, by rw [List.length_replicate], by rw [List.length_replicate], rfl⟩ ?_
  rintro _ _ wx ⟨k, bs, bs2, hk, rfl, hbr, hbl, hbl2, rfl⟩ H
  unfold crierlaw18_played_l1
  refine join_o (and2 (J := fun x w => crierlaw18_played_j0 _ _ _ _ _ _ _ _ x w) ?_)
  unfold crierlaw18_played_j0
  refine cnd_i (fun h => ?_) fun h => ⟨_, ⟨b, b', bs, bs2, rfl, hbr, by omega, rfl⟩, H.drop (by repeat (first | exact Cut.nil | (apply Cut.cons; (repeat (first | exact Pick.here | apply Pick.there)))))⟩
  simp only [Bool.and_eq_true, decide_eq_true_eq] at h
  have h := h.2
  have k1 : k < xs.length := by omega
  refine drw_o H fun wx H => ?_
  repeat (first | refine ldI_o H (by repeat (first | exact Pick.here | apply Pick.there)) (by rfl) ?_ | refine ldL_o H (by repeat (first | exact Pick.here | apply Pick.there)) (by rfl) ?_ | refine ldB_o H (by repeat (first | exact Pick.here | apply Pick.there)) (by rfl) ?_ | refine ldP_o H (by repeat (first | exact Pick.here | apply Pick.there)) (by rfl) ?_ | refine ldS_o H (by repeat (first | exact Pick.here | apply Pick.there)) (by rfl) ?_)
  refine ⟨⟨by omega, h⟩, ?_⟩
  rw [Int.toNat_natCast]
  obtain ⟨a1, rfl, e0, e⟩ := act_cells (Own.rdS H (i := keep W) (by repeat (first | exact Pick.here | apply Pick.there)) (keep_slots hq)) k1
  refine ⟨_, e0, _, e 1 _ (by omega) rfl, _, e 2 _ (by omega) rfl, _, e 3 _ (by omega) rfl, _, e 4 _ (by omega) rfl, _, e 5 _ (by omega) rfl, _, e 6 _ (by omega) rfl, _, e 7 _ (by omega) rfl, _, e 8 _ (by omega) rfl, _, e 9 _ (by omega) rfl, _, e 10 _ (by omega) rfl, _, e 11 _ (by omega) rfl, _, e 12 _ (by omega) rfl, _, e 13 _ (by omega) rfl, ?_⟩
  refine call_o H (does_t b b' bs bs2 hbr (by omega) (by omega) a s pg xs[k] (hg _ (List.getElem_mem k1))) (by repeat (first | exact Cut.nil | (apply Cut.cons; (repeat (first | exact Pick.here | apply Pick.there))))) fun vx L' wx hq H => ?_
  obtain ⟨⟨bo, rfl⟩, t, t2, h1, h2, h3, rfl⟩ := hq
  simp only [List.cons_append, List.nil_append] at H
  refine ⟨_, rfl, ⟨_, ⟨k + 1, t, t2, by omega, ?_, h1, by omega, by omega, rfl⟩, H⟩, ?_⟩
  · rw [W_id (by omega) (by omega)]; push_cast; rfl
  · rw [W_id (by omega) (by omega)]; omega
end Go.Proofs.Ythoieihffbahpaa
