/-
  cmd: a command that is put into a memory changes its 32 bytes alone: CmdKeeps.
-/
import Derived.Test.YtggmapokmlbgbaaDoorL1
import Derived.Test.YtggmapokmlbgbaaDoorN1
import Derived.Test.YtggmapokmlbgbaaDoorE5
namespace Go.Proofs.YtggmapokmlbgbaaDoor
open Go Go.RowKit X
set_option maxRecDepth 100000
set_option linter.unusedVariables false
set_option linter.unusedSimpArgs false
set_option maxHeartbeats 1000000
theorem good_of {len : Nat} {a s off : Int} (hl : len ≤ 131072) (h : ¬ (mayE s off 8 ≠ 0 ∨ off > IntKind.i64.wrap (s - 32) ∨ holdsB len a s = false)) : GoodP len a s off := by
  have h1 : mayE s off 8 = 0 := Classical.byContradiction fun h1 => h (.inl h1)
  have h2 : ¬ off > IntKind.i64.wrap (s - 32) := fun h2 => h (.inr (.inl h2))
  have h3 : holdsB len a s = true := by
    cases e : holdsB len a s
    · exact absurd (.inr (.inr e)) h
    · rfl
  obtain ⟨g1, g2, g3, g4⟩ := holdsB_iff.1 h3
  rw [W_id (by omega) (by omega)] at h2
  unfold mayE at h1
  rw [if_neg (by omega), W_id (by omega) (by omega)] at h1
  split at h1
  · cases h1
  · rename_i h5
    split at h1
    · cases h1
    · rename_i h6
      rw [Classical.not_not, Int.tmod_eq_emod_of_nonneg (by omega)] at h5
      exact ⟨g1, by omega, hl, by omega, h5, by omega⟩
theorem store_keeps {bs : List Int} {a s off t : Int} {c : Cm} (hl : bs.length ≤ 131072) (ht : holdsB bs.length t 1 = true) (h : ¬ (storeE bs.length a s off c = 0 ∧ a + off ≤ t ∧ t < a + off + 32)) :
    cut (storeM bs a s off c) t.toNat 1 = cut bs t.toNat 1 := by
  cases he : encM c with
  | none => rw [storeM_none he]
  | some ws =>
    by_cases hc : mayE s off 8 ≠ 0 ∨ off > IntKind.i64.wrap (s - 32) ∨ holdsB bs.length a s = false
    · unfold storeM
      rw [he]
      dsimp only
      rw [if_pos hc]
    · have hg := good_of hl hc
      have e0 : storeE bs.length a s off c = 0 := by rw [storeE_good hg, he]; rfl
      rw [storeM_some he hg]
      obtain ⟨g1, g2, g3, g4⟩ := holdsB_iff.1 ht
      have key : ∀ k, k ≤ 4 → cut (stW bs a s off ws k) t.toNat 1 = cut bs t.toNat 1 := by
        intro k
        induction k with
        | zero => intro _; rfl
        | succ k ih =>
          intro hk
          rw [stW_next hg ws (by omega), cut_wr_ne _ ?_, ih (by omega)]
          obtain ⟨k1, k2, k3, k4, k5, k6⟩ := hg
          omega
      exact key 4 (by omega)
theorem store_in {len : Nat} {a s off : Int} {c : Cm} (hl : len ≤ 131072) (h : storeE len a s off c = 0) : GoodP len a s off := by
  unfold storeE at h
  split at h
  · cases h
  · split at h
    · cases h
    · rename_i hc; exact good_of hl hc
theorem cmdKeeps_cv {W : World} (hT : PowAt W) {p : Option Addr} {m cp : Nat} (hacts : Acts W p m) (hm : m ≤ 9223372036854775807) (n0 a s off : Int) (c : Cm) (t : Int) :
    CV P F.crierlaw16_CmdKeeps [.int .i64 n0, .slice p m cp, winV a s, .int .i64 off, cmV c, .int .i64 t] W fun v w' => v = .bool true ∧ Below W.heap.size W w' := by
  refine crierlaw16_CmdKeeps_cv ?_
  unfold crierlaw16_CmdKeeps
  have H := keep_start W
  refine alc_o H fun b18 wx H => alc_o H fun b20 wx H => ?_
  refine call_p H (awake_t hT) (by repeat (first | exact Cut.nil | (apply Cut.cons; (repeat (first | exact Pick.here | apply Pick.there))))) fun wx H => ?_
  refine ⟨_, rfl, cnd_i (fun h => by cases h) fun _ => ?_⟩
  refine call_o H (lawNew_t n0) (by repeat (first | exact Cut.nil | (apply Cut.cons; (repeat (first | exact Pick.here | apply Pick.there))))) fun vx L' wx hq H => ?_
  obtain ⟨b, b', N, hN, rfl, rfl⟩ := hq
  simp only [List.cons_append, List.nil_append] at H
  refine ⟨_, _, rfl, join_o (cnd_i (fun h => by cases h) fun _ => ?_)⟩
  unfold crierlaw16_CmdKeeps_j3
  refine cnd_i (fun h => by cases h) fun _ => ?_
  refine loop_o (fun (i : Int) L => ∃ (j : Nat) (bs : List Int), i = j ∧ j ≤ m ∧ bs.length = N ∧ L = [memI b bs, row b20 c.cells tCmd, row b18 [.int .i64 a, .int .i64 s] tWin, keep W])
    (fun (i : Int) => ((m : Int) - i).toNat) (H.drop (L1 := [memI b _, row b20 c.cells tCmd, row b18 [.int .i64 a, .int .i64 s] tWin, keep W]) (by repeat (first | exact Cut.nil | (apply Cut.cons; (repeat (first | exact Pick.here | apply Pick.there)))))) ⟨0, _, rfl, by omega, List.length_replicate .., rfl⟩ ?_
  rintro _ _ wx ⟨j, bs, rfl, hj, hbl, rfl⟩ H
  unfold crierlaw16_CmdKeeps_l2
  refine cnd_i (fun h => ?_) fun h => ?_
  · have h := of_decide_eq_true h
    refine ⟨⟨by omega, by omega⟩, ?_⟩
    rw [show ((j : Int)).toNat = j from rfl]
    obtain ⟨ad, k', x', s', o', n', v', q', c2, xs', rfl, hact⟩ := hacts j (by omega)
    obtain ⟨e0, e1, e2, e3, e4, e5, e6, e7, e8, e9⟩ := hact.keep (H.below (by repeat (first | exact Pick.here | apply Pick.there)))
    refine ⟨_, e0, _, e1, _, e2, _, e3, _, e4, _, e5, _, _, _, e6, ?_⟩
    refine call_o H (does_t b bs k' x' s' o' n' v' (keep W) (keep_sl hact.2.2.2.2.2.2.2.1) e8 e9.1) (by repeat (first | exact Cut.nil | (apply Cut.cons; (repeat (first | exact Pick.here | apply Pick.there))))) fun vx L' wx hq H => ?_
    obtain ⟨rfl, rfl⟩ := hq
    simp only [List.cons_append, List.nil_append] at H
    refine ⟨_, rfl, ⟨_, ⟨j + 1, (doM bs k' x' s' o' n' v' xs').1, ?_, by omega, by rw [doM_length]; exact hbl, rfl⟩, H.drop (by repeat (first | exact Cut.nil | (apply Cut.cons; (repeat (first | exact Pick.here | apply Pick.there)))))⟩, ?_⟩
    · rw [W_id (by omega) (by omega)]; rfl
    · rw [W_id (by omega) (by omega)]
      show ((m : Int) - ((j : Int) + 1)).toNat < ((m : Int) - (j : Int)).toNat
      omega
  · have hl0 : bs.length ≤ 131072 := by omega
    refine alc_o H fun b50 wx H => ?_
    refine st1_o H (by repeat (first | exact Rep.here | apply Rep.there)) (by simp) fun wx H => ?_
    refine st1_o H (by repeat (first | exact Rep.here | apply Rep.there)) (by simp) fun wx H => ?_
    repeat (first | refine ldI_o H (by repeat (first | exact Pick.here | apply Pick.there)) (by rfl) ?_ | refine ldL_o H (by repeat (first | exact Pick.here | apply Pick.there)) (by rfl) ?_ | refine ldB_o H (by repeat (first | exact Pick.here | apply Pick.there)) (by rfl) ?_ | refine ldP_o H (by repeat (first | exact Pick.here | apply Pick.there)) (by rfl) ?_ | refine ldS_o H (by repeat (first | exact Pick.here | apply Pick.there)) (by rfl) ?_)
    refine call_o H (bytes_t b bs t 1) (by repeat (first | exact Cut.nil | (apply Cut.cons; (repeat (first | exact Pick.here | apply Pick.there))))) fun vx L' wx hq H => ?_
    by_cases ht : holdsB bs.length t 1 = true
    · rw [if_pos ht] at hq
      obtain ⟨p1, c1, rfl, rfl⟩ := hq
      simp only [List.cons_append, List.nil_append] at H
      refine ⟨_, _, _, _, rfl, ?_⟩
      repeat (first | refine ldI_o H (by repeat (first | exact Pick.here | apply Pick.there)) (by rfl) ?_ | refine ldL_o H (by repeat (first | exact Pick.here | apply Pick.there)) (by rfl) ?_ | refine ldB_o H (by repeat (first | exact Pick.here | apply Pick.there)) (by rfl) ?_ | refine ldP_o H (by repeat (first | exact Pick.here | apply Pick.there)) (by rfl) ?_ | refine ldS_o H (by repeat (first | exact Pick.here | apply Pick.there)) (by rfl) ?_)
      refine call_o H (Store_t b bs a s off c) (by repeat (first | exact Cut.nil | (apply Cut.cons; (repeat (first | exact Pick.here | apply Pick.there))))) fun vx L' wx hq H => ?_
      obtain ⟨rfl, rfl⟩ := hq
      simp only [List.cons_append, List.nil_append] at H
      refine ⟨_, rfl, ?_⟩
      repeat (first | refine ldI_o H (by repeat (first | exact Pick.here | apply Pick.there)) (by rfl) ?_ | refine ldL_o H (by repeat (first | exact Pick.here | apply Pick.there)) (by rfl) ?_ | refine ldB_o H (by repeat (first | exact Pick.here | apply Pick.there)) (by rfl) ?_ | refine ldP_o H (by repeat (first | exact Pick.here | apply Pick.there)) (by rfl) ?_ | refine ldS_o H (by repeat (first | exact Pick.here | apply Pick.there)) (by rfl) ?_)
      refine call_o H (bytes_t b (storeM bs a s off c) t 1) (by repeat (first | exact Cut.nil | (apply Cut.cons; (repeat (first | exact Pick.here | apply Pick.there))))) fun vx L' wx hq H => ?_
      rw [if_pos (by rw [storeM_length]; exact ht)] at hq
      obtain ⟨p2, c2, rfl, rfl⟩ := hq
      simp only [List.cons_append, List.nil_append] at H
      refine ⟨_, _, _, _, rfl, cnd_i (fun h => by cases h) fun _ => join_o ?_⟩
      have hcl : ∀ l : List Int, l.length = bs.length → (cut l t.toNat (1 : Int).toNat).length = 1 := fun l h => cut_length (by rw [h]; rw [holdsB_iff] at ht; simp only [Int.toNat_one]; omega)
      have fin : ∀ x, (x = false → ¬ (storeE bs.length a s off c = 0 ∧ a + off ≤ t ∧ t < a + off + 32)) → crierlaw16_CmdKeeps_j1 (fun r w' => r = .bool true ∧ Below W.heap.size W w') p1 (1 : Int).toNat c1 p2 (1 : Int).toNat c2 0 x wx := by
        intro x hx'
        unfold crierlaw16_CmdKeeps_j1
        refine join_o (cnd_i (fun _ => cnd_i (fun _ => ⟨rfl, keep_done H (by repeat (first | exact Pick.here | apply Pick.there))⟩) fun h => ?_) (fun h => by cases h))
        refine bts_i (H.sl (p := p1) (c := c1) (by repeat (first | exact Pick.here | apply Pick.there))).1 (hcl _ rfl) (bts_i (H.sl (p := p2) (c := c2) (by repeat (first | exact Pick.here | apply Pick.there))).1 (hcl _ (storeM_length ..)) ⟨?_, keep_done H (by repeat (first | exact Pick.here | apply Pick.there))⟩)
        have := store_keeps (c := c) hl0 ht (hx' h)
        rw [show (1 : Int).toNat = 1 from rfl, this]
        simp
      refine cnd_i (fun he => ?_) fun he => fin _ fun _ h => by simp [h.1] at he
      have he : storeE bs.length a s off c = 0 := by simpa using he
      obtain ⟨k1, k2, k3, k4, k5, k6⟩ := store_in hl0 he
      repeat (first | refine ldI_o H (by repeat (first | exact Pick.here | apply Pick.there)) (by rfl) ?_ | refine ldL_o H (by repeat (first | exact Pick.here | apply Pick.there)) (by rfl) ?_ | refine ldB_o H (by repeat (first | exact Pick.here | apply Pick.there)) (by rfl) ?_ | refine ldP_o H (by repeat (first | exact Pick.here | apply Pick.there)) (by rfl) ?_ | refine ldS_o H (by repeat (first | exact Pick.here | apply Pick.there)) (by rfl) ?_)
      rw [W_id (n := a + off) (by omega) (by omega)]
      refine cnd_i (fun h1 => ?_) fun h1 => fin _ fun _ h => ?_
      · repeat (first | refine ldI_o H (by repeat (first | exact Pick.here | apply Pick.there)) (by rfl) ?_ | refine ldL_o H (by repeat (first | exact Pick.here | apply Pick.there)) (by rfl) ?_ | refine ldB_o H (by repeat (first | exact Pick.here | apply Pick.there)) (by rfl) ?_ | refine ldP_o H (by repeat (first | exact Pick.here | apply Pick.there)) (by rfl) ?_ | refine ldS_o H (by repeat (first | exact Pick.here | apply Pick.there)) (by rfl) ?_)
        rw [W_id (n := a + off) (by omega) (by omega), W_id (n := a + off + 32) (by omega) (by omega)]
        exact fin _ fun hh h => by have := of_decide_eq_false hh; omega
      · have := of_decide_eq_false h1; omega
    · rw [if_neg ht] at hq
      obtain ⟨rfl, rfl⟩ := hq
      simp only [List.cons_append, List.nil_append] at H
      refine ⟨_, _, _, _, rfl, ?_⟩
      repeat (first | refine ldI_o H (by repeat (first | exact Pick.here | apply Pick.there)) (by rfl) ?_ | refine ldL_o H (by repeat (first | exact Pick.here | apply Pick.there)) (by rfl) ?_ | refine ldB_o H (by repeat (first | exact Pick.here | apply Pick.there)) (by rfl) ?_ | refine ldP_o H (by repeat (first | exact Pick.here | apply Pick.there)) (by rfl) ?_ | refine ldS_o H (by repeat (first | exact Pick.here | apply Pick.there)) (by rfl) ?_)
      refine call_o H (Store_t b bs a s off c) (by repeat (first | exact Cut.nil | (apply Cut.cons; (repeat (first | exact Pick.here | apply Pick.there))))) fun vx L' wx hq H => ?_
      obtain ⟨rfl, rfl⟩ := hq
      simp only [List.cons_append, List.nil_append] at H
      refine ⟨_, rfl, ?_⟩
      repeat (first | refine ldI_o H (by repeat (first | exact Pick.here | apply Pick.there)) (by rfl) ?_ | refine ldL_o H (by repeat (first | exact Pick.here | apply Pick.there)) (by rfl) ?_ | refine ldB_o H (by repeat (first | exact Pick.here | apply Pick.there)) (by rfl) ?_ | refine ldP_o H (by repeat (first | exact Pick.here | apply Pick.there)) (by rfl) ?_ | refine ldS_o H (by repeat (first | exact Pick.here | apply Pick.there)) (by rfl) ?_)
      refine call_o H (bytes_t b _ t 1) (by repeat (first | exact Cut.nil | (apply Cut.cons; (repeat (first | exact Pick.here | apply Pick.there))))) fun vx L' wx hq H => ?_
      rw [if_neg (by rw [storeM_length]; exact ht)] at hq
      obtain ⟨rfl, rfl⟩ := hq
      simp only [List.cons_append, List.nil_append] at H
      exact ⟨_, _, _, _, rfl, cnd_i (fun _ => ⟨rfl, keep_done H (by repeat (first | exact Pick.here | apply Pick.there))⟩) (fun h => by cases h)⟩
end Go.Proofs.YtggmapokmlbgbaaDoor
