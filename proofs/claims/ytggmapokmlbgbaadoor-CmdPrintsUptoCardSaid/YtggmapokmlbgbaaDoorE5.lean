/-
  cmd: what is read where a command was put, and elsewhere.
-/
import Derived.Test.YtggmapokmlbgbaaDoorE4
namespace Go.Proofs.YtggmapokmlbgbaaDoor
open Go Go.RowKit X
set_option maxRecDepth 100000
set_option linter.unusedVariables false
set_option linter.unusedSimpArgs false
/-- a place for a command, in a window of a memory -/
def GoodP (len : Nat) (a s off : Int) : Prop := 0 ≤ a ∧ a + s ≤ len ∧ len ≤ 131072 ∧ 0 ≤ off ∧ off % 8 = 0 ∧ off + 32 ≤ s
theorem offK_eq {off : Int} (h0 : 0 ≤ off) (h1 : off ≤ 131072) {k : Nat} (hk : k < 4) : offK off k = off + 8 * (k : Int) := by
  unfold offK
  rw [W_id (n := 8 * (k : Int)) (by omega) (by omega), W_id (by omega) (by omega)]
theorem GoodP.holds {len : Nat} {a s off : Int} (h : GoodP len a s off) : holdsB len a s = true := by
  obtain ⟨h1, h2, h3, h4, h5, h6⟩ := h
  rw [holdsB_iff]; omega
theorem GoodP.err {len : Nat} {a s off : Int} (h : GoodP len a s off) {k : Nat} (hk : k < 4) : errE len a s (offK off k) 8 = 0 := by
  have hh := h.holds
  obtain ⟨h1, h2, h3, h4, h5, h6⟩ := h
  rw [offK_eq h4 (by omega) hk]
  unfold errE
  rw [if_pos hh]
  unfold mayE
  rw [if_neg (by omega), if_neg, if_neg]
  · rw [W_id (by omega) (by omega)]; omega
  · rw [Classical.not_not, Int.tmod_eq_emod_of_nonneg (by omega)]; omega
theorem GoodP.may {len : Nat} {a s off : Int} (h : GoodP len a s off) : ¬ (mayE s off 8 ≠ 0 ∨ off > IntKind.i64.wrap (s - 32) ∨ holdsB len a s = false) := by
  have hh := h.holds
  have he := h.err (k := 0) (by omega)
  obtain ⟨h1, h2, h3, h4, h5, h6⟩ := h
  rw [offK_eq h4 (by omega) (by omega)] at he
  unfold errE at he
  rw [if_pos hh] at he
  have e : off + 8 * ((0 : Nat) : Int) = off := by omega
  rw [e] at he
  rw [W_id (by omega) (by omega), hh, he]
  simp
  omega
theorem storeE_good {len : Nat} {a s off : Int} (h : GoodP len a s off) (c : Cm) : storeE len a s off c = if (encM c).isSome then 0 else 160 := by
  unfold storeE
  cases encM c with
  | none => rfl
  | some ws => dsimp only; rw [if_neg h.may]; rfl
theorem storeM_none {bs : List Int} {a s off : Int} {c : Cm} (h : encM c = none) : storeM bs a s off c = bs := by unfold storeM; rw [h]
theorem storeM_some {bs : List Int} {a s off : Int} {c : Cm} {ws : List Int} (h : encM c = some ws) (hg : GoodP bs.length a s off) : storeM bs a s off c = stW bs a s off ws 4 := by
  unfold storeM
  rw [h]
  dsimp only
  rw [if_neg hg.may]
theorem storeM_length (bs : List Int) (a s off : Int) (c : Cm) : (storeM bs a s off c).length = bs.length := by
  unfold storeM
  cases encM c with
  | none => rfl
  | some ws =>
    dsimp only
    split
    · rfl
    · exact stW_length _ _ _ _ _ _
theorem cut_wr_ne {bs : List Int} {k k' n n' : Nat} (v : Int) (h : k' + n' ≤ k ∨ k + n ≤ k') : cut (wr bs k v n) k' n' = cut bs k' n' := by
  apply List.ext_getElem?
  intro j
  simp only [cut, List.getElem?_take, List.getElem?_drop, wr_get]
  by_cases hj : j < n'
  · rw [if_pos hj, if_neg (by omega), if_pos hj]
  · rw [if_neg hj, if_neg hj]
theorem stW_next {bs : List Int} {a s off : Int} (hg : GoodP bs.length a s off) (ws : List Int) {k : Nat} (hk : k < 4) : stW bs a s off ws (k + 1) = wr (stW bs a s off ws k) (a + (off + 8 * (k : Int))).toNat (ws.getD k 0) 8 := by
  rw [stW, writeM, stW_length, if_pos (hg.err hk), offK_eq hg.2.2.2.1 (by obtain ⟨h1, h2, h3, h4, h5, h6⟩ := hg; omega) hk]
  rfl
theorem rd_ne {bs : List Int} {a s off off' : Int} (hg : GoodP bs.length a s off) (hg' : GoodP bs.length a s off') (h : off + 32 ≤ off' ∨ off' + 32 ≤ off) (ws : List Int) {j : Nat} (hj : j < 4) : ∀ k, k ≤ 4 → rd8 (stW bs a s off ws k) a off' j = rd8 bs a off' j
  | 0, _ => rfl
  | k + 1, hk => by
    have ih := rd_ne hg hg' h ws hj k (by omega)
    obtain ⟨h1, h2, h3, h4, h5, h6⟩ := hg
    obtain ⟨g1, g2, g3, g4, g5, g6⟩ := hg'
    rw [stW_next ⟨h1, h2, h3, h4, h5, h6⟩ ws (by omega)]
    unfold rd8 at *
    rw [cut_wr_ne _ (by rw [offK_eq g4 (by omega) hj]; omega)]
    exact ih
theorem rd_eq {bs : List Int} {a s off : Int} (hg : GoodP bs.length a s off) {ws : List Int} (hw : ∀ x ∈ ws, 0 ≤ x ∧ x < 2 ^ 64) (hl : ws.length = 4) {j : Nat} (hj : j < 4) : ∀ k, j < k → k ≤ 4 → rd8 (stW bs a s off ws k) a off j = ws.getD j 0
  | k + 1, h, hk => by
    have hg2 := hg
    obtain ⟨h1, h2, h3, h4, h5, h6⟩ := hg2
    rw [stW_next hg ws (by omega)]
    by_cases e : j = k
    · subst e
      unfold rd8
      rw [offK_eq h4 (by omega) hj, cut_wr _ (by rw [stW_length]; omega)]
      have hx := hw (ws.getD j 0) (by rw [List.getD_eq_getElem?_getD, List.getElem?_eq_getElem (by omega)]; exact List.getElem_mem _)
      rw [le_bytes _ hx.1]
      exact Int.emod_eq_of_lt hx.1 (by have := hx.2; omega)
    · have ih := rd_eq hg hw hl hj k (by omega) (by omega)
      unfold rd8 at *
      rw [cut_wr_ne _ (by rw [offK_eq h4 (by omega) hj]; omega)]
      exact ih
theorem ldOk_good {len : Nat} {a s off : Int} (h : GoodP len a s off) : ldOk len a s off = true := by
  unfold ldOk
  exact List.all_eq_true.2 fun k hk => decide_eq_true (h.err (List.mem_range.1 hk))
theorem load_store {bs : List Int} {a s off : Int} {c : Cm} (hg : GoodP bs.length a s off) {ws : List Int} (h : encM c = some ws) : loadM (storeM bs a s off c) a s off = (c, 0) := by
  obtain ⟨hl, hw⟩ := enc_range h
  rw [storeM_some h hg]
  unfold loadM
  rw [stW_length, ldOk_good hg, if_pos rfl]
  have e : rds (stW bs a s off ws 4) a off 4 = ws := by
    obtain ⟨x0, x1, x2, x3, rfl⟩ := four hl
    unfold rds
    simp only [show (0 < 4) = True by simp, show (1 < 4) = True by simp, show (2 < 4) = True by simp, show (3 < 4) = True by simp, if_true]
    rw [rd_eq hg hw hl (j := 0) (by omega) 4 (by omega) (by omega), rd_eq hg hw hl (j := 1) (by omega) 4 (by omega) (by omega), rd_eq hg hw hl (j := 2) (by omega) 4 (by omega) (by omega), rd_eq hg hw hl (j := 3) (by omega) 4 (by omega) (by omega)]
    rfl
  rw [e, dec_enc h]
theorem load_store_ne {bs : List Int} {a s off off' : Int} (c : Cm) (hg : GoodP bs.length a s off) (hg' : GoodP bs.length a s off') (h : off + 32 ≤ off' ∨ off' + 32 ≤ off) : loadM (storeM bs a s off c) a s off' = loadM bs a s off' := by
  cases he : encM c with
  | none => rw [storeM_none he]
  | some ws =>
    rw [storeM_some he hg]
    unfold loadM
    rw [stW_length]
    have e : rds (stW bs a s off ws 4) a off' 4 = rds bs a off' 4 := by
      unfold rds
      simp only [show (0 < 4) = True by simp, show (1 < 4) = True by simp, show (2 < 4) = True by simp, show (3 < 4) = True by simp, if_true]
      rw [rd_ne hg hg' h ws (j := 0) (by omega) 4 (by omega), rd_ne hg hg' h ws (j := 1) (by omega) 4 (by omega), rd_ne hg hg' h ws (j := 2) (by omega) 4 (by omega), rd_ne hg hg' h ws (j := 3) (by omega) 4 (by omega)]
    rw [e]
end Go.Proofs.YtggmapokmlbgbaaDoor
