/-
  sets: the document's lists of numbers.
-/
import Derived.Test.YtlccemphlinecaaDoorC7
namespace Go.Proofs.YtlccemphlinecaaDoor
open Go Go.RowKit X
set_option maxRecDepth 100000
set_option linter.unusedVariables false
def natI (l : List Nat) : List Int := l.map fun (x : Nat) => (x : Int)
theorem natI_length (l : List Nat) : (natI l).length = l.length := by simp [natI]
theorem natI_get {l : List Nat} {k : Nat} (h : k < l.length) : (i64s (natI l))[k]? = some (.int .i64 (l[k] : Nat)) := by simp [i64s, natI, h]
/-- a list of numbers of one's own -/
def ilI (p : Option Addr) (c : Nat) (xs : List Int) : It := own tInt 1 (.slice p xs.length c) xs.length (i64s xs)
theorem il_sl {p : Option Addr} {c : Nat} {xs : List Int} : ∀ w S, (ilI p c xs).h w S → Sl w p (i64s xs) := own_sl
theorem push_o {w w0 : World} {S0 : Nat → Prop} {L F : List It} {p : Option Addr} {c : Nat} {xs : List Int} {x : Int} {K : Option Addr → Nat → Nat → World → Prop} (H : X.Own w0 S0 L w) (hp : Pick L (ilI p c xs) F) (hn : xs.length ≤ 1000000000)
    (k : ∀ p' c' w', X.Own w0 S0 (ilI p' c' (xs ++ [x]) :: F) w' → K p' (xs ++ [x]).length c' w') :
    alc [.int .i64 x] tInt w fun b w1 => runS P (Builtin.append_ #[tInts, tInts] tInts [.slice p xs.length c, .slice (some ⟨b, 0, none⟩) 1 1].toArray) w1 K := by
  refine alc_o H fun b wx H => ?_
  refine app_o appInts (by omega) H (.there hp) (Sl.row (H.row .here)) rfl (by simp [Value.oneCell']) (by unfold maxLen; omega) (by omega) fun p' c' wx H => ?_
  have H := H.rest (L1 := [row b _ _]) (.cons (.there .here) .nil)
  have := k p' c' wx (by unfold ilI; rw [i64s_append, List.length_append]; exact H)
  rw [List.length_append] at this
  exact this
theorem refHas_t (i : It) {p : Option Addr} {c : Nat} {l : List Nat} (hi : ∀ w S, i.h w S → Sl w p (i64s (natI l))) (hl : l.length ≤ 20000) (m : Int) : Tri P F.crierref01_Has [.slice p l.length c, .int .i64 m] [i] fun v L' => v = .bool (hasL l m) ∧ L' = [i] := by
  intro w S hS
  refine crierref01_Has_cv ?_
  unfold crierref01_Has
  have H := Own.start hS
  refine loop_o (fun (st : Int) L => ∃ k : Nat, k ≤ l.length ∧ st = k ∧ (∀ x ∈ l.take k, (x : Int) ≠ m) ∧ L = [i]) (fun (st : Int) => ((l.length : Int) - st).toNat) H ⟨0, by omega, rfl, by simp, rfl⟩ ?_
  rintro _ _ wx ⟨k, hk, rfl, hno, rfl⟩ H
  unfold crierref01_Has_l0
  refine cnd_i (fun h => ?_) fun h => ?_
  · have h := of_decide_eq_true h
    have hk' : k < l.length := by omega
    refine ⟨⟨by omega, h⟩, ?_⟩
    rw [Int.toNat_natCast]
    obtain ⟨a, rfl, hcell⟩ := H.rd (i := i) (by repeat (first | exact Pick.here | apply Pick.there)) hi k _ (natI_get hk')
    refine ⟨_, by rw [Nat.mul_one]; exact hcell, cnd_i (fun he => ?_) fun he => ?_⟩
    · have he := eq_of_beq he
      refine ⟨_, ⟨?_, rfl⟩, H⟩
      rw [hasL_iff.2 ⟨by omega, by rw [← he, Int.toNat_natCast]; exact List.getElem_mem hk'⟩]
    · have he : ((l[k] : Nat) : Int) ≠ m := by simpa using he
      refine ⟨⟨_, ⟨k + 1, by omega, ?_, ?_, rfl⟩, H⟩, ?_⟩
      · rw [W_id (by omega) (by omega)]; rfl
      · intro x hx
        rw [List.take_succ_eq_append_getElem hk', List.mem_append] at hx
        rcases hx with hx | hx
        · exact hno x hx
        · rw [List.mem_singleton.1 hx]; exact he
      · rw [W_id (by omega) (by omega)]
        show ((l.length : Int) - ((k : Int) + 1)).toNat < ((l.length : Int) - (k : Int)).toNat
        omega
  · have h := of_decide_eq_false h
    have : k = l.length := by omega
    subst this
    rw [List.take_length] at hno
    refine ⟨_, ⟨?_, rfl⟩, H⟩
    have : hasL l m = false := by
      rw [Bool.eq_false_iff]
      intro hh
      obtain ⟨h0, hm⟩ := hasL_iff.1 hh
      exact hno _ hm (by omega)
    rw [this]
theorem refMay_plain (m : Int) (w : World) : CV P F.crierref01_May [.int .i64 m] w fun v w' => v = .bool (mayL m) ∧ Below w.heap.size w w' := by
  refine crierref01_May_cv ?_
  unfold crierref01_May
  have hB := Below.refl w.heap.size w
  refine join_o (cnd_i (fun h => ⟨?_, hB⟩) fun h => ⟨?_, hB⟩)
  · have h := of_decide_eq_true h
    simp [mayL, h]
  · have h := of_decide_eq_false h
    have : mayL m = false := by simp [mayL]; omega
    rw [this]
theorem refSame_t (i : It) {p q : Option Addr} {c d n : Nat} {xs ys : List Int} (hx : ∀ w S, i.h w S → Sl w p (i64s xs)) (j : It) (hy : ∀ w S, j.h w S → Sl w q (i64s ys)) (hn : xs.length ≤ 1000000000) : Tri P F.crierref01_Same [.slice p xs.length c, .slice q ys.length d] [i, j] fun v L' => v = .bool (decide (xs = ys)) ∧ L' = [i, j] := by
  intro w S hS
  refine crierref01_Same_cv ?_
  unfold crierref01_Same
  have H := Own.start hS
  refine cnd_i (fun h => ?_) fun h => ?_
  · have h : xs.length ≠ ys.length := by simpa only [bne_iff_ne, ne_eq, Int.natCast_inj] using h
    refine ⟨_, ⟨?_, rfl⟩, H⟩
    rw [eq_comm]
    congr 1
    rw [decide_eq_false_iff_not]
    rintro rfl; exact h rfl
  have hlen : xs.length = ys.length := by simpa only [bne_eq_false_iff_eq, Int.natCast_inj] using h
  refine loop_o (fun (st : Int) L => ∃ k : Nat, k ≤ xs.length ∧ st = k ∧ (∀ u, u < k → xs[u]? = ys[u]?) ∧ L = [i, j]) (fun (st : Int) => ((xs.length : Int) - st).toNat) H ⟨0, by omega, rfl, fun u hu => by omega, rfl⟩ ?_
  rintro _ _ wx ⟨k, hk, rfl, heq, rfl⟩ H
  unfold crierref01_Same_l0
  refine cnd_i (fun h => ?_) fun h => ?_
  · have h := of_decide_eq_true h
    have hk1 : k < xs.length := by omega
    have hk2 : k < ys.length := by omega
    refine drw_o H fun wx H => ?_
    refine ⟨⟨by omega, h⟩, ?_⟩
    rw [Int.toNat_natCast]
    obtain ⟨a, rfl, hcell⟩ := H.rd (i := i) (by repeat (first | exact Pick.here | apply Pick.there)) hx k _ (i64s_get hk1)
    refine ⟨_, by rw [Nat.mul_one]; exact hcell, ⟨by omega, by omega⟩, ?_⟩
    rw [Int.toNat_natCast]
    obtain ⟨a2, rfl, hcell2⟩ := H.rd (i := j) (by repeat (first | exact Pick.here | apply Pick.there)) hy k _ (i64s_get hk2)
    refine ⟨_, by rw [Nat.mul_one]; exact hcell2, cnd_i (fun hne => ?_) fun he => ?_⟩
    · refine ⟨_, ⟨?_, rfl⟩, H⟩
      rw [eq_comm]
      congr 1
      rw [decide_eq_false_iff_not]
      rintro rfl; simp at hne
    · have he : xs[k] = ys[k] := by simpa using he
      refine ⟨⟨_, ⟨k + 1, by omega, ?_, ?_, rfl⟩, H⟩, ?_⟩
      · rw [W_id (by omega) (by omega)]; rfl
      · intro u hu
        rcases Nat.lt_or_ge u k with h | h
        · exact heq u h
        · rw [show u = k by omega]; simp [hk1, hk2, he]
      · rw [W_id (by omega) (by omega)]
        show ((xs.length : Int) - ((k : Int) + 1)).toNat < ((xs.length : Int) - (k : Int)).toNat
        omega
  · have h := of_decide_eq_false h
    refine ⟨_, ⟨?_, rfl⟩, H⟩
    rw [eq_comm]
    congr 1
    rw [decide_eq_true_eq]
    apply List.ext_getElem?
    intro u
    rcases Nat.lt_or_ge u k with h | h
    · exact heq u h
    · rw [List.getElem?_eq_none (by omega), List.getElem?_eq_none (by omega)]
theorem cnd_n {b : Bool} {x y : Prop} (h1 : b = true → x) (h2 : ¬ b = true → y) : cnd b x y := cnd_i h1 fun h => h2 (by rw [h]; simp)
theorem hasL_nat {l : List Nat} {x : Nat} : hasL l (x : Int) = l.contains x := by simp [hasL]
theorem refTake_t (i : It) {p : Option Addr} {c : Nat} {l : List Nat} (hi : ∀ w S, i.h w S → Sl w p (i64s (natI l))) (hl : l.length ≤ 20000) (m : Int) :
    Tri P F.crierref01_Take [.slice p l.length c, .int .i64 m] [i] fun v L' => ∃ p' c', v = .slice p' (natI (l.filter fun x => !decide ((x : Int) = m))).length c' ∧ L' = [ilI p' c' (natI (l.filter fun x => !decide ((x : Int) = m))), i] := by
  intro w S hS
  refine crierref01_Take_cv ?_
  unfold crierref01_Take
  have H := own_nil (e := tInt) (size := 1) (Own.start hS)
  refine loop_o (fun (st : (Option Addr × Nat × Nat) × Int) L => ∃ (k : Nat) (po : Option Addr) (co : Nat), k ≤ l.length ∧ st = ((po, (natI ((l.take k).filter fun x => !decide ((x : Int) = m))).length, co), (k : Int)) ∧ L = [ilI po co (natI ((l.take k).filter fun x => !decide ((x : Int) = m))), i])
    (fun (st : (Option Addr × Nat × Nat) × Int) => ((l.length : Int) - st.2).toNat) H ⟨0, none, 0, by omega, by simp [natI], by simp only [List.take_zero, List.filter_nil, natI, List.map_nil]; rfl⟩ ?_
  rintro _ _ wx ⟨k, po, co, hk, rfl, rfl⟩ H
  dsimp only
  unfold crierref01_Take_l1
  refine cnd_i (fun h => ?_) fun h => ?_
  · have h := of_decide_eq_true h
    have hk' : k < l.length := by omega
    have hfl : (natI ((l.take k).filter fun x => !decide ((x : Int) = m))).length ≤ 20000 := by
      rw [natI_length]; exact Nat.le_trans (List.length_filter_le _ _) (by simp; omega)
    have htk : l.take (k + 1) = l.take k ++ [l[k]] := List.take_succ_eq_append_getElem hk'
    refine join_o ⟨⟨by omega, h⟩, ?_⟩
    rw [Int.toNat_natCast]
    obtain ⟨a, rfl, hcell⟩ := H.rd (i := i) (by repeat (first | exact Pick.here | apply Pick.there)) hi k _ (natI_get hk')
    have hcell' : wx.cell? (a.add (k * 1)) = some (.int .i64 (l[k] : Nat)) := by rw [Nat.mul_one]; exact hcell
    refine ⟨_, hcell', ?_⟩
    dsimp only
    have ec : (((l[k] : Nat) : Int) != m) = !decide (((l[k] : Nat) : Int) = m) := by rw [Bool.eq_iff_iff]; simp
    rw [ec]
    refine cnd_n (fun hc => ?_) fun hc => ?_
    · refine ⟨⟨by omega, h⟩, ?_⟩
      rw [Int.toNat_natCast]
      refine ⟨_, hcell', ?_⟩
      refine push_o H (by repeat (first | exact Pick.here | apply Pick.there)) (by omega) fun p' c' wx H => ?_
      unfold crierref01_Take_j0
      refine ⟨⟨_, ⟨k + 1, p', c', by omega, ?_, ?_⟩, H⟩, ?_⟩
      · rw [W_id (by omega) (by omega), htk, List.filter_append, List.filter_cons, if_pos hc]; simp [natI]
      · rw [htk, List.filter_append, List.filter_cons, if_pos hc]; simp [natI]
      · show ((l.length : Int) - IntKind.i64.wrap ((k : Int) + 1)).toNat < ((l.length : Int) - (k : Int)).toNat
        rw [W_id (by omega) (by omega)]; omega
    · unfold crierref01_Take_j0
      refine ⟨⟨_, ⟨k + 1, po, co, by omega, ?_, ?_⟩, H⟩, ?_⟩
      · rw [W_id (by omega) (by omega), htk, List.filter_append, List.filter_cons, if_neg hc]; simp [natI]
      · rw [htk, List.filter_append, List.filter_cons, if_neg hc]; simp [natI]
      · show ((l.length : Int) - IntKind.i64.wrap ((k : Int) + 1)).toNat < ((l.length : Int) - (k : Int)).toNat
        rw [W_id (by omega) (by omega)]; omega
  · have h := of_decide_eq_false h
    have : k = l.length := by omega
    subst this
    rw [List.take_length] at H ⊢
    exact ⟨_, ⟨po, co, rfl, rfl⟩, H⟩
theorem refFrom_t (i : It) {p : Option Addr} {c : Nat} {l : List Nat} (hi : ∀ w S, i.h w S → Sl w p (i64s (natI l))) (hl : l.length ≤ 20000) (m : Int) :
    Tri P F.crierref01_From [.slice p l.length c, .int .i64 m] [i] fun v L' => ∃ p' c', v = .slice p' (natI (l.filter fun x => decide ((x : Int) ≥ m))).length c' ∧ L' = [ilI p' c' (natI (l.filter fun x => decide ((x : Int) ≥ m))), i] := by
  intro w S hS
  refine crierref01_From_cv ?_
  unfold crierref01_From
  have H := own_nil (e := tInt) (size := 1) (Own.start hS)
  refine loop_o (fun (st : (Option Addr × Nat × Nat) × Int) L => ∃ (k : Nat) (po : Option Addr) (co : Nat), k ≤ l.length ∧ st = ((po, (natI ((l.take k).filter fun x => decide ((x : Int) ≥ m))).length, co), (k : Int)) ∧ L = [ilI po co (natI ((l.take k).filter fun x => decide ((x : Int) ≥ m))), i])
    (fun (st : (Option Addr × Nat × Nat) × Int) => ((l.length : Int) - st.2).toNat) H ⟨0, none, 0, by omega, by simp [natI], by simp only [List.take_zero, List.filter_nil, natI, List.map_nil]; rfl⟩ ?_
  rintro _ _ wx ⟨k, po, co, hk, rfl, rfl⟩ H
  dsimp only
  unfold crierref01_From_l1
  refine cnd_i (fun h => ?_) fun h => ?_
  · have h := of_decide_eq_true h
    have hk' : k < l.length := by omega
    have hfl : (natI ((l.take k).filter fun x => decide ((x : Int) ≥ m))).length ≤ 20000 := by
      rw [natI_length]; exact Nat.le_trans (List.length_filter_le _ _) (by simp; omega)
    have htk : l.take (k + 1) = l.take k ++ [l[k]] := List.take_succ_eq_append_getElem hk'
    refine join_o ⟨⟨by omega, h⟩, ?_⟩
    rw [Int.toNat_natCast]
    obtain ⟨a, rfl, hcell⟩ := H.rd (i := i) (by repeat (first | exact Pick.here | apply Pick.there)) hi k _ (natI_get hk')
    have hcell' : wx.cell? (a.add (k * 1)) = some (.int .i64 (l[k] : Nat)) := by rw [Nat.mul_one]; exact hcell
    refine ⟨_, hcell', ?_⟩
    dsimp only
    refine cnd_n (fun hc => ?_) fun hc => ?_
    · refine ⟨⟨by omega, h⟩, ?_⟩
      rw [Int.toNat_natCast]
      refine ⟨_, hcell', ?_⟩
      refine push_o H (by repeat (first | exact Pick.here | apply Pick.there)) (by omega) fun p' c' wx H => ?_
      unfold crierref01_From_j0
      refine ⟨⟨_, ⟨k + 1, p', c', by omega, ?_, ?_⟩, H⟩, ?_⟩
      · rw [W_id (by omega) (by omega), htk, List.filter_append, List.filter_cons, if_pos hc]; simp [natI]
      · rw [htk, List.filter_append, List.filter_cons, if_pos hc]; simp [natI]
      · show ((l.length : Int) - IntKind.i64.wrap ((k : Int) + 1)).toNat < ((l.length : Int) - (k : Int)).toNat
        rw [W_id (by omega) (by omega)]; omega
    · unfold crierref01_From_j0
      refine ⟨⟨_, ⟨k + 1, po, co, by omega, ?_, ?_⟩, H⟩, ?_⟩
      · rw [W_id (by omega) (by omega), htk, List.filter_append, List.filter_cons, if_neg hc]; simp [natI]
      · rw [htk, List.filter_append, List.filter_cons, if_neg hc]; simp [natI]
      · show ((l.length : Int) - IntKind.i64.wrap ((k : Int) + 1)).toNat < ((l.length : Int) - (k : Int)).toNat
        rw [W_id (by omega) (by omega)]; omega
  · have h := of_decide_eq_false h
    have : k = l.length := by omega
    subst this
    rw [List.take_length] at H ⊢
    exact ⟨_, ⟨po, co, rfl, rfl⟩, H⟩
theorem refMeet_t (i : It) {p : Option Addr} {c : Nat} {l : List Nat} (hi : ∀ w S, i.h w S → Sl w p (i64s (natI l))) (hl : l.length ≤ 20000) (j : It) {p2 : Option Addr} {c2 : Nat} {l2 : List Nat} (hj : ∀ w S, j.h w S → Sl w p2 (i64s (natI l2))) (hl2 : l2.length ≤ 20000) :
    Tri P F.crierref01_Meet [.slice p l.length c, .slice p2 l2.length c2] [i, j] fun v L' => ∃ p' c', v = .slice p' (natI (l.filter fun x => l2.contains x)).length c' ∧ L' = [ilI p' c' (natI (l.filter fun x => l2.contains x)), i, j] := by
  intro w S hS
  refine crierref01_Meet_cv ?_
  unfold crierref01_Meet
  have H := own_nil (e := tInt) (size := 1) (Own.start hS)
  refine loop_o (fun (st : (Option Addr × Nat × Nat) × Int) L => ∃ (k : Nat) (po : Option Addr) (co : Nat), k ≤ l.length ∧ st = ((po, (natI ((l.take k).filter fun x => l2.contains x)).length, co), (k : Int)) ∧ L = [ilI po co (natI ((l.take k).filter fun x => l2.contains x)), i, j])
    (fun (st : (Option Addr × Nat × Nat) × Int) => ((l.length : Int) - st.2).toNat) H ⟨0, none, 0, by omega, by simp [natI], by simp only [List.take_zero, List.filter_nil, natI, List.map_nil]; rfl⟩ ?_
  rintro _ _ wx ⟨k, po, co, hk, rfl, rfl⟩ H
  dsimp only
  unfold crierref01_Meet_l1
  refine cnd_i (fun h => ?_) fun h => ?_
  · have h := of_decide_eq_true h
    have hk' : k < l.length := by omega
    have hfl : (natI ((l.take k).filter fun x => l2.contains x)).length ≤ 20000 := by
      rw [natI_length]; exact Nat.le_trans (List.length_filter_le _ _) (by simp; omega)
    have htk : l.take (k + 1) = l.take k ++ [l[k]] := List.take_succ_eq_append_getElem hk'
    refine join_o ⟨⟨by omega, h⟩, ?_⟩
    rw [Int.toNat_natCast]
    obtain ⟨a, rfl, hcell⟩ := H.rd (i := i) (by repeat (first | exact Pick.here | apply Pick.there)) hi k _ (natI_get hk')
    have hcell' : wx.cell? (a.add (k * 1)) = some (.int .i64 (l[k] : Nat)) := by rw [Nat.mul_one]; exact hcell
    refine ⟨_, hcell', ?_⟩
    dsimp only
    refine call_p H (refHas_t j hj hl2 (l[k] : Nat)) (by repeat (first | exact Cut.nil | (apply Cut.cons; (repeat (first | exact Pick.here | apply Pick.there))))) fun wx H => ?_
    refine ⟨_, rfl, ?_⟩
    rw [hasL_nat]
    refine cnd_n (fun hc => ?_) fun hc => ?_
    · refine ⟨⟨by omega, h⟩, ?_⟩
      rw [Int.toNat_natCast]
      obtain ⟨a3, ha3, hcell3⟩ := H.rd (i := i) (by repeat (first | exact Pick.here | apply Pick.there)) hi k _ (natI_get hk')
      cases ha3
      refine ⟨_, by rw [Nat.mul_one]; exact hcell3, ?_⟩
      refine push_o H (by repeat (first | exact Pick.here | apply Pick.there)) (by omega) fun p' c' wx H => ?_
      unfold crierref01_Meet_j0
      refine ⟨⟨_, ⟨k + 1, p', c', by omega, ?_, ?_⟩, H⟩, ?_⟩
      · rw [W_id (by omega) (by omega), htk, List.filter_append, List.filter_cons, if_pos hc]; simp [natI]
      · rw [htk, List.filter_append, List.filter_cons, if_pos hc]; simp [natI]
      · show ((l.length : Int) - IntKind.i64.wrap ((k : Int) + 1)).toNat < ((l.length : Int) - (k : Int)).toNat
        rw [W_id (by omega) (by omega)]; omega
    · unfold crierref01_Meet_j0
      refine ⟨⟨_, ⟨k + 1, po, co, by omega, ?_, ?_⟩, H⟩, ?_⟩
      · rw [W_id (by omega) (by omega), htk, List.filter_append, List.filter_cons, if_neg hc]; simp [natI]
      · rw [htk, List.filter_append, List.filter_cons, if_neg hc]; simp [natI]
      · show ((l.length : Int) - IntKind.i64.wrap ((k : Int) + 1)).toNat < ((l.length : Int) - (k : Int)).toNat
        rw [W_id (by omega) (by omega)]; omega
  · have h := of_decide_eq_false h
    have : k = l.length := by omega
    subst this
    rw [List.take_length] at H ⊢
    exact ⟨_, ⟨po, co, rfl, rfl⟩, H⟩
theorem refLess_t (i : It) {p : Option Addr} {c : Nat} {l : List Nat} (hi : ∀ w S, i.h w S → Sl w p (i64s (natI l))) (hl : l.length ≤ 20000) (j : It) {p2 : Option Addr} {c2 : Nat} {l2 : List Nat} (hj : ∀ w S, j.h w S → Sl w p2 (i64s (natI l2))) (hl2 : l2.length ≤ 20000) :
    Tri P F.crierref01_Less [.slice p l.length c, .slice p2 l2.length c2] [i, j] fun v L' => ∃ p' c', v = .slice p' (natI (l.filter fun x => !l2.contains x)).length c' ∧ L' = [ilI p' c' (natI (l.filter fun x => !l2.contains x)), i, j] := by
  intro w S hS
  refine crierref01_Less_cv ?_
  unfold crierref01_Less
  have H := own_nil (e := tInt) (size := 1) (Own.start hS)
  refine loop_o (fun (st : (Option Addr × Nat × Nat) × Int) L => ∃ (k : Nat) (po : Option Addr) (co : Nat), k ≤ l.length ∧ st = ((po, (natI ((l.take k).filter fun x => !l2.contains x)).length, co), (k : Int)) ∧ L = [ilI po co (natI ((l.take k).filter fun x => !l2.contains x)), i, j])
    (fun (st : (Option Addr × Nat × Nat) × Int) => ((l.length : Int) - st.2).toNat) H ⟨0, none, 0, by omega, by simp [natI], by simp only [List.take_zero, List.filter_nil, natI, List.map_nil]; rfl⟩ ?_
  rintro _ _ wx ⟨k, po, co, hk, rfl, rfl⟩ H
  dsimp only
  unfold crierref01_Less_l1
  refine cnd_i (fun h => ?_) fun h => ?_
  · have h := of_decide_eq_true h
    have hk' : k < l.length := by omega
    have hfl : (natI ((l.take k).filter fun x => !l2.contains x)).length ≤ 20000 := by
      rw [natI_length]; exact Nat.le_trans (List.length_filter_le _ _) (by simp; omega)
    have htk : l.take (k + 1) = l.take k ++ [l[k]] := List.take_succ_eq_append_getElem hk'
    refine join_o ⟨⟨by omega, h⟩, ?_⟩
    rw [Int.toNat_natCast]
    obtain ⟨a, rfl, hcell⟩ := H.rd (i := i) (by repeat (first | exact Pick.here | apply Pick.there)) hi k _ (natI_get hk')
    have hcell' : wx.cell? (a.add (k * 1)) = some (.int .i64 (l[k] : Nat)) := by rw [Nat.mul_one]; exact hcell
    refine ⟨_, hcell', ?_⟩
    dsimp only
    refine call_p H (refHas_t j hj hl2 (l[k] : Nat)) (by repeat (first | exact Cut.nil | (apply Cut.cons; (repeat (first | exact Pick.here | apply Pick.there))))) fun wx H => ?_
    refine ⟨_, rfl, ?_⟩
    rw [hasL_nat]
    refine cnd_n (fun hc => ?_) fun hc => ?_
    · refine ⟨⟨by omega, h⟩, ?_⟩
      rw [Int.toNat_natCast]
      obtain ⟨a3, ha3, hcell3⟩ := H.rd (i := i) (by repeat (first | exact Pick.here | apply Pick.there)) hi k _ (natI_get hk')
      cases ha3
      refine ⟨_, by rw [Nat.mul_one]; exact hcell3, ?_⟩
      refine push_o H (by repeat (first | exact Pick.here | apply Pick.there)) (by omega) fun p' c' wx H => ?_
      unfold crierref01_Less_j0
      refine ⟨⟨_, ⟨k + 1, p', c', by omega, ?_, ?_⟩, H⟩, ?_⟩
      · rw [W_id (by omega) (by omega), htk, List.filter_append, List.filter_cons, if_pos hc]; simp [natI]
      · rw [htk, List.filter_append, List.filter_cons, if_pos hc]; simp [natI]
      · show ((l.length : Int) - IntKind.i64.wrap ((k : Int) + 1)).toNat < ((l.length : Int) - (k : Int)).toNat
        rw [W_id (by omega) (by omega)]; omega
    · unfold crierref01_Less_j0
      refine ⟨⟨_, ⟨k + 1, po, co, by omega, ?_, ?_⟩, H⟩, ?_⟩
      · rw [W_id (by omega) (by omega), htk, List.filter_append, List.filter_cons, if_neg hc]; simp [natI]
      · rw [htk, List.filter_append, List.filter_cons, if_neg hc]; simp [natI]
      · show ((l.length : Int) - IntKind.i64.wrap ((k : Int) + 1)).toNat < ((l.length : Int) - (k : Int)).toNat
        rw [W_id (by omega) (by omega)]; omega
  · have h := of_decide_eq_false h
    have : k = l.length := by omega
    subst this
    rw [List.take_length] at H ⊢
    exact ⟨_, ⟨po, co, rfl, rfl⟩, H⟩
end Go.Proofs.YtlccemphlinecaaDoor
