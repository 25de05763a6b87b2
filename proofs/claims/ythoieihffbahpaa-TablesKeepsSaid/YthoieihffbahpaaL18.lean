/-
  tables: TablesKeeps.
-/
import Derived.Test.YthoieihffbahpaaL17
import Derived.Test.YthoieihffbahpaaS6
namespace Go.Proofs.Ythoieihffbahpaa
open Go Go.RowKit X
set_option maxRecDepth 100000
set_option linter.unusedVariables false
set_option linter.unusedSimpArgs false
set_option maxHeartbeats 2000000
theorem cut_all (bs : List Int) : cut bs 0 bs.length = bs := by simp [cut]
theorem leadM_keeps {bs : List Int} {a s pg id at' : Int} (h : (leadM bs a s pg id at').2 ≠ 0) : (leadM bs a s pg id at').1 = bs := by
  unfold leadM at *
  split
  · rfl
  · rename_i h1
    rw [if_neg h1] at h
    split
    · rfl
    · rename_i h2
      rw [if_neg h2] at h
      split
      · rfl
      · rename_i h3; rw [if_neg h3] at h; exact absurd rfl h
theorem putM_keeps {bs : List Int} {a s pg id : Int} {v : Bool} {b at' : Int} (h : (putM bs a s pg id v b at').2 ≠ 0) : (putM bs a s pg id v b at').1 = bs := by
  unfold putM at *
  split
  · rfl
  · rename_i h1
    rw [if_neg h1] at h
    split
    · rename_i h2; rw [if_pos h2] at h; exact absurd rfl h
    · rename_i h2
      rw [if_neg h2] at h
      split
      · rfl
      · rename_i h3; rw [if_neg h3] at h; exact absurd rfl h
theorem setM_keeps {bs : List Int} {v : Bool} {b a ev n c : Int} {r : Bool} (h : (setM bs v b a ev n c r).2 ≠ 0) : (setM bs v b a ev n c r).1 = bs := by
  unfold setM at *
  split
  · rfl
  · rename_i h1
    rw [if_neg h1] at h
    split
    · rename_i h2; rw [if_pos h2] at h; exact absurd rfl h
    · rename_i h2
      rw [if_neg h2] at h
      split
      · rfl
      · rename_i h3; rw [if_neg h3] at h; exact absurd rfl h
theorem stgM_keeps {bs : List Int} {a s c t : Int} {is : Bool} (h : (stgM bs a s c t is).2 ≠ 0) : (stgM bs a s c t is).1 = bs := by
  unfold stgM at *
  split
  · rfl
  · rename_i h1
    rw [if_neg h1] at h
    split
    · rfl
    · rename_i h2
      rw [if_neg h2] at h
      split
      · rfl
      · rename_i h3; rw [if_neg h3] at h; exact absurd rfl h
theorem tablesKeeps_cv {W : World} {q : Option Addr} {c : Nat} {xs : List Act18} (hq : Slots W q 14 (xs.map Act18.cells)) (hg : ∀ x ∈ xs, x.Good) (hl : xs.length ≤ 9223372036854775807) (a s pg sz : Int) (x : Act18) (hx : x.Good) :
    CV P F.crierlaw18_TablesKeeps [tabV a s pg, .int .i64 sz, .slice q xs.length c, .agg x.cells.toArray] W fun v w' => v = .bool true ∧ Below W.heap.size W w' := by
  obtain ⟨k, id, at', ev, dv, db, da, rn, rc, rv, wa, ws, is, v⟩ := x
  obtain ⟨hda, hv⟩ := hx
  dsimp only at hda hv
  unfold Act18.cells
  refine crierlaw18_TablesKeeps_cv ?_
  unfold crierlaw18_TablesKeeps
  have H := keep_start W
  refine alc_o H fun b22 wx H => alc_o H fun b24 wx H => ?_
  refine call_p H (awake_t) (by repeat (first | exact Cut.nil | (apply Cut.cons; (repeat (first | exact Pick.here | apply Pick.there))))) fun wx H => ?_
  refine ⟨_, rfl, cnd_i (fun h => by cases h) fun _ => ?_⟩
  repeat (first | refine ldI_o H (by repeat (first | exact Pick.here | apply Pick.there)) (by rfl) ?_ | refine ldL_o H (by repeat (first | exact Pick.here | apply Pick.there)) (by rfl) ?_ | refine ldB_o H (by repeat (first | exact Pick.here | apply Pick.there)) (by rfl) ?_ | refine ldP_o H (by repeat (first | exact Pick.here | apply Pick.there)) (by rfl) ?_ | refine ldS_o H (by repeat (first | exact Pick.here | apply Pick.there)) (by rfl) ?_)
  refine call_o H (played_t (c := c) hq hg hl a s pg sz) (by repeat (first | exact Cut.nil | (apply Cut.cons; (repeat (first | exact Pick.here | apply Pick.there))))) fun vx L' wx hq' H => ?_
  obtain ⟨b, b', bs, bs2, rfl, hr, hn4, rfl⟩ := hq'
  simp only [List.cons_append, List.nil_append] at H
  have hn : bs.length ≤ 131072 := by omega
  refine ⟨_, rfl, join_o (cnd_i (fun h => by cases h) fun _ => ?_)⟩
  unfold crierlaw18_TablesKeeps_j2
  refine cnd_i (fun h => by cases h) fun _ => ?_
  refine call_p H (size_t b bs) (by repeat (first | exact Cut.nil | (apply Cut.cons; (repeat (first | exact Pick.here | apply Pick.there))))) fun wx H => ?_
  refine ⟨_, rfl, alc_o H fun b41 wx H => ?_⟩
  refine st1_o H (by repeat (first | exact Rep.here | apply Rep.there)) (by simp) fun wx H => ?_
  refine st1_o H (by repeat (first | exact Rep.here | apply Rep.there)) (by simp) fun wx H => ?_
  simp only [List.set_cons_zero, List.set_cons_succ] at H
  repeat (first | refine ldI_o H (by repeat (first | exact Pick.here | apply Pick.there)) (by rfl) ?_ | refine ldL_o H (by repeat (first | exact Pick.here | apply Pick.there)) (by rfl) ?_ | refine ldB_o H (by repeat (first | exact Pick.here | apply Pick.there)) (by rfl) ?_ | refine ldP_o H (by repeat (first | exact Pick.here | apply Pick.there)) (by rfl) ?_ | refine ldS_o H (by repeat (first | exact Pick.here | apply Pick.there)) (by rfl) ?_)
  refine call_o H (bytes_t b bs 0 (bs.length : Int)) (by repeat (first | exact Cut.nil | (apply Cut.cons; (repeat (first | exact Pick.here | apply Pick.there))))) fun vx L' wx hq H => ?_
  have hh : holdsB bs.length 0 (bs.length : Int) = true := holdsB_iff.2 (by omega)
  rw [if_pos hh] at hq
  obtain ⟨p49, c51, rfl, rfl⟩ := hq
  simp only [List.cons_append, List.nil_append] at H
  have ec : cut bs (Int.toNat 0) (bs.length : Int).toNat = bs := by rw [Int.toNat_natCast]; exact cut_all bs
  rw [ec, Int.toNat_natCast] at H
  rw [Int.toNat_natCast]
  refine ⟨_, _, _, _, rfl, ldI_o H (by repeat (first | exact Pick.here | apply Pick.there)) (by rfl) (join_o ?_)⟩
  have fin : ∀ (e : Int) (bs' : List Int) wx, (e ≠ 0 → bs' = bs) → bs'.length = bs.length → X.Own W (fun k => k < W.heap.size) [memI b bs', row b41 [.int .i64 0, .int .i64 (bs.length : Int)] T.t30, own tByte 1 (.slice p49 bs.length c51) bs.length (u8s bs), keep W] wx →
      crierlaw18_TablesKeeps_j1 (fun v w' => v = .bool true ∧ Below W.heap.size W w') (some ⟨b, 0, none⟩) b41 p49 bs.length c51 e wx := by
    intro e bs' wx he hl' H
    unfold crierlaw18_TablesKeeps_j1
    repeat (first | refine ldI_o H (by repeat (first | exact Pick.here | apply Pick.there)) (by rfl) ?_ | refine ldL_o H (by repeat (first | exact Pick.here | apply Pick.there)) (by rfl) ?_ | refine ldB_o H (by repeat (first | exact Pick.here | apply Pick.there)) (by rfl) ?_ | refine ldP_o H (by repeat (first | exact Pick.here | apply Pick.there)) (by rfl) ?_ | refine ldS_o H (by repeat (first | exact Pick.here | apply Pick.there)) (by rfl) ?_)
    refine call_o H (bytes_t b bs' 0 (bs.length : Int)) (by repeat (first | exact Cut.nil | (apply Cut.cons; (repeat (first | exact Pick.here | apply Pick.there))))) fun vx L' wx hq H => ?_
    have hh : holdsB bs'.length 0 (bs.length : Int) = true := holdsB_iff.2 (by omega)
    rw [if_pos hh] at hq
    obtain ⟨p61, c63, rfl, rfl⟩ := hq
    simp only [List.cons_append, List.nil_append] at H
    have ec : cut bs' (Int.toNat 0) (bs.length : Int).toNat = bs' := by rw [Int.toNat_natCast, ← hl']; exact cut_all bs'
    rw [ec, Int.toNat_natCast] at H
    rw [Int.toNat_natCast]
    refine ⟨_, _, _, _, rfl, join_o (cnd_i (fun _ => ?_) fun h => ?_)⟩
    · unfold crierlaw18_TablesKeeps_j0
      exact ⟨rfl, keep_done H (by repeat (first | exact Pick.here | apply Pick.there))⟩
    · have h : e ≠ 0 := by simpa using h
      have := he h
      subst this
      refine bts_i (xs := bs') (Own.sl (xs := u8s bs') H (p := p49) (n := bs'.length) (c := c51) (e := tByte) (by repeat (first | exact Pick.here | apply Pick.there))).1 rfl (bts_i (xs := bs') (Own.sl (xs := u8s bs') H (p := p61) (n := bs'.length) (c := c63) (e := tByte) (by repeat (first | exact Pick.here | apply Pick.there))).1 rfl ?_)
      unfold crierlaw18_TablesKeeps_j0
      exact ⟨by simp, keep_done H (by repeat (first | exact Pick.here | apply Pick.there))⟩
  refine cnd_i (fun _ => ?_) fun _ => ?_
  · repeat (first | refine ldI_o H (by repeat (first | exact Pick.here | apply Pick.there)) (by rfl) ?_ | refine ldL_o H (by repeat (first | exact Pick.here | apply Pick.there)) (by rfl) ?_ | refine ldB_o H (by repeat (first | exact Pick.here | apply Pick.there)) (by rfl) ?_ | refine ldP_o H (by repeat (first | exact Pick.here | apply Pick.there)) (by rfl) ?_ | refine ldS_o H (by repeat (first | exact Pick.here | apply Pick.there)) (by rfl) ?_)
    refine call_o H (lead_t b bs hr hn a s pg id at') (by repeat (first | exact Cut.nil | (apply Cut.cons; (repeat (first | exact Pick.here | apply Pick.there))))) fun vx L' wx hq H => ?_
    obtain ⟨rfl, rfl⟩ := hq
    simp only [List.cons_append, List.nil_append] at H
    exact ⟨_, rfl, fin _ _ _ leadM_keeps (leadM_length _ _ _ _ _ _) (H.drop (by repeat (first | exact Cut.nil | (apply Cut.cons; (repeat (first | exact Pick.here | apply Pick.there))))))⟩
  refine cnd_i (fun _ => ?_) fun _ => ?_
  · repeat (first | refine ldI_o H (by repeat (first | exact Pick.here | apply Pick.there)) (by rfl) ?_ | refine ldL_o H (by repeat (first | exact Pick.here | apply Pick.there)) (by rfl) ?_ | refine ldB_o H (by repeat (first | exact Pick.here | apply Pick.there)) (by rfl) ?_ | refine ldP_o H (by repeat (first | exact Pick.here | apply Pick.there)) (by rfl) ?_ | refine ldS_o H (by repeat (first | exact Pick.here | apply Pick.there)) (by rfl) ?_)
    refine call_o H (put_t b bs hr hn a s pg id dv db da hda) (by repeat (first | exact Cut.nil | (apply Cut.cons; (repeat (first | exact Pick.here | apply Pick.there))))) fun vx L' wx hq H => ?_
    obtain ⟨rfl, rfl⟩ := hq
    simp only [List.cons_append, List.nil_append] at H
    exact ⟨_, rfl, fin _ _ _ putM_keeps (putM_length _ _ _ _ _ _ _ _) (H.drop (by repeat (first | exact Cut.nil | (apply Cut.cons; (repeat (first | exact Pick.here | apply Pick.there))))))⟩
  refine cnd_i (fun _ => ?_) fun _ => ?_
  · repeat (first | refine ldI_o H (by repeat (first | exact Pick.here | apply Pick.there)) (by rfl) ?_ | refine ldL_o H (by repeat (first | exact Pick.here | apply Pick.there)) (by rfl) ?_ | refine ldB_o H (by repeat (first | exact Pick.here | apply Pick.there)) (by rfl) ?_ | refine ldP_o H (by repeat (first | exact Pick.here | apply Pick.there)) (by rfl) ?_ | refine ldS_o H (by repeat (first | exact Pick.here | apply Pick.there)) (by rfl) ?_)
    refine call_o H (setRoute_t b bs dv db da ev rn rc rv) (by repeat (first | exact Cut.nil | (apply Cut.cons; (repeat (first | exact Pick.here | apply Pick.there))))) fun vx L' wx hq H => ?_
    obtain ⟨rfl, rfl⟩ := hq
    simp only [List.cons_append, List.nil_append] at H
    exact ⟨_, rfl, fin _ _ _ setM_keeps (setM_length _ _ _ _ _ _ _ _) (H.drop (by repeat (first | exact Cut.nil | (apply Cut.cons; (repeat (first | exact Pick.here | apply Pick.there))))))⟩
  refine cnd_i (fun _ => ?_) fun _ => ?_
  · repeat (first | refine ldI_o H (by repeat (first | exact Pick.here | apply Pick.there)) (by rfl) ?_ | refine ldL_o H (by repeat (first | exact Pick.here | apply Pick.there)) (by rfl) ?_ | refine ldB_o H (by repeat (first | exact Pick.here | apply Pick.there)) (by rfl) ?_ | refine ldP_o H (by repeat (first | exact Pick.here | apply Pick.there)) (by rfl) ?_ | refine ldS_o H (by repeat (first | exact Pick.here | apply Pick.there)) (by rfl) ?_)
    refine call_o H (setTarget_t b bs hn wa ws id at' is) (by repeat (first | exact Cut.nil | (apply Cut.cons; (repeat (first | exact Pick.here | apply Pick.there))))) fun vx L' wx hq H => ?_
    obtain ⟨rfl, rfl⟩ := hq
    simp only [List.cons_append, List.nil_append] at H
    exact ⟨_, rfl, fin _ _ _ stgM_keeps (stgM_length _ _ _ _ _ _) (H.drop (by repeat (first | exact Cut.nil | (apply Cut.cons; (repeat (first | exact Pick.here | apply Pick.there))))))⟩
  · exact fin 0 bs _ (fun _ => rfl) rfl (H.drop (by repeat (first | exact Cut.nil | (apply Cut.cons; (repeat (first | exact Pick.here | apply Pick.there))))))
end Go.Proofs.Ythoieihffbahpaa
