/-
  sets: the document's lists: a number put in; lists of numbers; rows of neighbours.
-/
import Derived.Test.YtlccemphlinecaaDoorL1
namespace Go.Proofs.YtlccemphlinecaaDoor
open Go Go.RowKit X
set_option maxRecDepth 100000
set_option linter.unusedVariables false
theorem ins_end {a : List Nat} {m : Nat} (h : ∀ y ∈ a, y < m) : insL a m = a ++ [m] := by
  induction a with
  | nil => rfl
  | cons y r ih =>
    have hy := h y (by simp)
    unfold insL
    rw [if_neg (by omega), if_neg (by omega), ih fun z hz => h z (List.mem_cons_of_mem _ hz)]; rfl
theorem ins_snoc1 {a : List Nat} {m x : Nat} (h : ∀ y ∈ a, y < m) (hx : m < x) : insL (a ++ [x]) m = a ++ [m] ++ [x] := by
  induction a with
  | nil => simp [insL, hx]
  | cons y r ih =>
    have hy := h y (by simp)
    simp only [List.cons_append]
    unfold insL
    rw [if_neg (by omega), if_neg (by omega), ih fun z hz => h z (List.mem_cons_of_mem _ hz)]
theorem ins_snoc2 {a : List Nat} {m x : Nat} (h : ∃ y ∈ a, m < y) : insL (a ++ [x]) m = insL a m ++ [x] := by
  induction a with
  | nil => obtain ⟨y, hy, _⟩ := h; cases hy
  | cons y r ih =>
    simp only [List.cons_append]
    unfold insL
    split
    · rfl
    · split
      · rfl
      · rename_i h1 h2
        obtain ⟨z, hz, hm⟩ := h
        rcases List.mem_cons.1 hz with rfl | hz
        · omega
        · rw [ih ⟨z, hz, hm⟩]; rfl
theorem refPut_t {p : Option Addr} {c : Nat} {l : List Nat} (hup : Up l) (hl : l.length ≤ 20000) (m : Int) :
    Tri P F.crierref01_Put [.slice p l.length c, .int .i64 m] [ilI p c (natI l)] fun v L' => ∃ p' c', v = .slice p' (putL l m).length c' ∧ L' = [ilI p' c' (natI (putL l m))] := by
  intro w S hS
  refine crierref01_Put_cv ?_
  unfold crierref01_Put
  have H := Own.start hS
  have stay : ∀ wx, putL l m = l → X.Own w S [ilI p c (natI l)] wx → crierref01_Put_j4 p l.length c m (fun v w' => ∃ L', (∃ p' c', v = .slice p' (putL l m).length c' ∧ L' = [ilI p' c' (natI (putL l m))]) ∧ X.Own w S L' w') true wx := by
    intro wx h H
    unfold crierref01_Put_j4
    rw [h]
    exact cnd_i (fun _ => ⟨_, ⟨p, c, rfl, rfl⟩, H⟩) (fun h => by cases h)
  refine join_o ?_
  refine call_p H (tri_plain (refMay_plain m)) (by repeat (first | exact Cut.nil | (apply Cut.cons; (repeat (first | exact Pick.here | apply Pick.there))))) fun wx H => ?_
  refine ⟨_, rfl, cnd_i (fun h => stay _ ?_ H) fun h => ?_⟩
  · have h : mayL m = false := by simpa using h
    simp [putL, h]
  have hm : mayL m = true := by simpa using h
  have hm' := mayL_iff.1 hm
  refine call_p H (refHas_t (ilI p c (natI l)) il_sl hl m) (by repeat (first | exact Cut.nil | (apply Cut.cons; (repeat (first | exact Pick.here | apply Pick.there))))) fun wx H => ?_
  refine ⟨_, rfl, ?_⟩
  cases hh : hasL l m
  case true => exact stay _ (putL_has hup hh) H
  have hnot : m.toNat ∉ l := fun h => by rw [hasL_iff.2 ⟨by omega, h⟩] at hh; cases hh
  have ep : putL l m = insL l m.toNat := by simp [putL, hm]
  rw [ep]
  unfold crierref01_Put_j4
  refine cnd_i (fun h => by cases h) fun _ => ?_
  have H := own_nil (e := tInt) (size := 1) H
  have em : m = (m.toNat : Int) := by omega
  generalize m.toNat = mn at *
  subst em
  refine loop_o (fun (st : (Option Addr × Nat × Nat) × Bool × Int) L => ∃ (k : Nat) (po : Option Addr) (co : Nat) (b : Bool) (out : List Nat), k ≤ l.length ∧ st = ((po, (natI out).length, co), b, (k : Int)) ∧ (if b then (∃ y ∈ l.take k, mn < y) ∧ out = insL (l.take k) mn else (∀ y ∈ l.take k, y < mn) ∧ out = l.take k) ∧ L = [ilI po co (natI out), ilI p c (natI l)])
    (fun (st : (Option Addr × Nat × Nat) × Bool × Int) => ((l.length : Int) - st.2.2).toNat) H ⟨0, none, 0, false, [], by omega, by simp [natI], by simp, by simp only [natI, List.map_nil]; rfl⟩ ?_
  rintro _ _ wx ⟨k, po, co, b, out, hk, rfl, hout, rfl⟩ H
  dsimp only
  have hlen : (natI out).length ≤ 20001 := by
    rw [natI_length]
    cases b
    · simp only [Bool.false_eq_true, if_false] at hout; rw [hout.2]; simp; omega
    · simp only [if_true] at hout
      rw [hout.2]
      have : ∀ (a : List Nat) x, (insL a x).length ≤ a.length + 1 := by
        intro a x
        induction a with
        | nil => simp [insL]
        | cons y r ih => unfold insL; split; simp; split; simp; simp only [List.length_cons]; omega
      have := this (l.take k) mn
      simp only [List.length_take] at this; omega
  unfold crierref01_Put_l3
  refine cnd_i (fun h => ?_) fun h => ?_
  · have h := of_decide_eq_true h
    have hk' : k < l.length := by omega
    have htk : l.take (k + 1) = l.take k ++ [l[k]] := List.take_succ_eq_append_getElem hk'
    have hx : l[k] ≠ mn := fun e => hnot (e ▸ List.getElem_mem hk')
    refine join_o (join_o ⟨⟨by omega, h⟩, ?_⟩)
    rw [Int.toNat_natCast]
    obtain ⟨a, rfl, hcell⟩ := H.rd (i := ilI p c (natI l)) (by repeat (first | exact Pick.here | apply Pick.there)) il_sl k _ (natI_get hk')
    refine ⟨_, by rw [Nat.mul_one]; exact hcell, ?_⟩
    dsimp only
    -- the element goes behind
    have rest : ∀ wx po co b2 out2, (natI out2).length ≤ 20002 → (if b2 then (∃ y ∈ l.take (k + 1), mn < y) ∧ out2 ++ [l[k]] = insL (l.take (k + 1)) mn else (∀ y ∈ l.take (k + 1), y < mn) ∧ out2 ++ [l[k]] = l.take (k + 1)) → X.Own w S [ilI po co (natI out2), ilI (some a) c (natI l)] wx →
        crierref01_Put_j0 (some a) l.length (k : Int) (fun s' w' => (∃ L', (∃ (k : Nat) (po : Option Addr) (co : Nat) (b : Bool) (out : List Nat), k ≤ l.length ∧ s' = ((po, (natI out).length, co), b, (k : Int)) ∧ (if b then (∃ y ∈ l.take k, mn < y) ∧ out = insL (l.take k) mn else (∀ y ∈ l.take k, y < mn) ∧ out = l.take k) ∧ L' = [ilI po co (natI out), ilI (some a) c (natI l)]) ∧ X.Own w S L' w') ∧ ((l.length : Int) - s'.2.2).toNat < ((l.length : Int) - (k : Int)).toNat) po (natI out2).length co b2 wx := by
      intro wx po co b2 out2 hl2 hinv H
      unfold crierref01_Put_j0
      refine ⟨⟨by omega, h⟩, ?_⟩
      rw [Int.toNat_natCast]
      obtain ⟨a3, ha3, hcell3⟩ := H.rd (i := ilI (some a) c (natI l)) (by repeat (first | exact Pick.here | apply Pick.there)) il_sl k _ (natI_get hk')
      cases ha3
      refine ⟨_, by rw [Nat.mul_one]; exact hcell3, ?_⟩
      refine push_o H (by repeat (first | exact Pick.here | apply Pick.there)) (by omega) fun p' c' wx H => ?_
      have en : natI out2 ++ [((l[k] : Nat) : Int)] = natI (out2 ++ [l[k]]) := by simp [natI]
      rw [en] at H ⊢
      refine ⟨⟨_, ⟨k + 1, p', c', b2, out2 ++ [l[k]], by omega, ?_, hinv, rfl⟩, H⟩, ?_⟩
      · rw [W_id (by omega) (by omega)]; rfl
      · show ((l.length : Int) - IntKind.i64.wrap ((k : Int) + 1)).toNat < ((l.length : Int) - (k : Int)).toNat
        rw [W_id (by omega) (by omega)]; omega
    cases b
    · simp only [Bool.false_eq_true, if_false] at hout
      obtain ⟨hall, rfl⟩ := hout
      refine cnd_n (fun hc => ?_) fun hc => ?_
      · have hc := of_decide_eq_true hc
        unfold crierref01_Put_j1
        refine cnd_i (fun _ => ?_) (fun h => by cases h)
        refine push_o H (by repeat (first | exact Pick.here | apply Pick.there)) (by omega) fun p' c' wx H => ?_
        have en : natI (l.take k) ++ [(mn : Int)] = natI (l.take k ++ [mn]) := by simp [natI]
        rw [en] at H ⊢
        refine rest wx p' c' true _ (by rw [natI_length, List.length_append]; rw [natI_length] at hlen; simp only [List.length_cons, List.length_nil]; omega) ?_ H
        rw [if_pos rfl, htk]
        exact ⟨⟨l[k], List.mem_append_right _ (List.mem_singleton.2 rfl), by omega⟩, (ins_snoc1 hall (by omega)).symm⟩
      · have hc : ¬ ((l[k] : Int) > mn) := by simpa using hc
        unfold crierref01_Put_j1
        refine cnd_i (fun h => by cases h) fun _ => rest wx po co false _ (by omega) ?_ H
        simp only [Bool.false_eq_true, if_false]
        rw [htk]
        refine ⟨fun y hy => ?_, rfl⟩
        rcases List.mem_append.1 hy with hy | hy
        · exact hall y hy
        · rw [List.mem_singleton.1 hy]; omega
    · simp only [if_true] at hout
      obtain ⟨hex, rfl⟩ := hout
      have fin : crierref01_Put_j1 (mn : Int) po (natI (insL (l.take k) mn)).length co true (fun s54 w55 => crierref01_Put_j0 (some a) l.length (k : Int) (fun s' w' => (∃ L', (∃ (k : Nat) (po : Option Addr) (co : Nat) (b : Bool) (out : List Nat), k ≤ l.length ∧ s' = ((po, (natI out).length, co), b, (k : Int)) ∧ (if b then (∃ y ∈ l.take k, mn < y) ∧ out = insL (l.take k) mn else (∀ y ∈ l.take k, y < mn) ∧ out = l.take k) ∧ L' = [ilI po co (natI out), ilI (some a) c (natI l)]) ∧ X.Own w S L' w') ∧ ((l.length : Int) - s'.2.2).toNat < ((l.length : Int) - (k : Int)).toNat) s54.1.1 s54.1.2.1 s54.1.2.2 s54.2 w55) false wx := by
        unfold crierref01_Put_j1
        refine cnd_i (fun h => by cases h) fun _ => rest wx po co true _ (by omega) ?_ H
        rw [if_pos rfl, htk]
        obtain ⟨y, hy, hmy⟩ := hex
        exact ⟨⟨y, List.mem_append_left _ hy, hmy⟩, (ins_snoc2 ⟨y, hy, hmy⟩).symm⟩
      exact cnd_i (fun _ => fin) fun _ => fin
  · have h := of_decide_eq_false h
    have : k = l.length := by omega
    subst this
    rw [List.take_length] at hout
    refine join_o ?_
    unfold crierref01_Put_j2
    cases b
    · simp only [Bool.false_eq_true, if_false] at hout
      obtain ⟨hall, rfl⟩ := hout
      refine cnd_i (fun _ => ?_) (fun h => by cases h)
      refine push_o H (by repeat (first | exact Pick.here | apply Pick.there)) (by omega) fun p' c' wx H => ?_
      have en : natI out ++ [(mn : Int)] = natI (insL out mn) := by rw [ins_end hall]; simp [natI]
      rw [en] at H ⊢
      exact ⟨_, ⟨p', c', by rw [natI_length], rfl⟩, H.drop (by repeat (first | exact Cut.nil | (apply Cut.cons; (repeat (first | exact Pick.here | apply Pick.there)))))⟩
    · simp only [if_true] at hout
      obtain ⟨_, rfl⟩ := hout
      exact cnd_i (fun h => by cases h) fun _ => ⟨_, ⟨po, co, by dsimp only; rw [natI_length], rfl⟩, H.drop (by repeat (first | exact Cut.nil | (apply Cut.cons; (repeat (first | exact Pick.here | apply Pick.there)))))⟩
theorem refOf_t (i : It) {p : Option Addr} {c : Nat} {ms : List Int} (hi : ∀ w S, i.h w S → Sl w p (i64s ms)) (hl : ms.length ≤ 9223372036854775807) (hb : ∀ k, (ofL (ms.take k)).length ≤ 20000) :
    Tri P F.crierref01_Of [.slice p ms.length c] [i] fun v L' => ∃ p' c', v = .slice p' (ofL ms).length c' ∧ L' = [ilI p' c' (natI (ofL ms)), i] := by
  intro w S hS
  refine crierref01_Of_cv ?_
  unfold crierref01_Of
  have H := own_nil (e := tInt) (size := 1) (Own.start hS)
  refine loop_o (fun (st : (Option Addr × Nat × Nat) × Int) L => ∃ (k : Nat) (po : Option Addr) (co : Nat), k ≤ ms.length ∧ st = ((po, (ofL (ms.take k)).length, co), (k : Int)) ∧ L = [ilI po co (natI (ofL (ms.take k))), i])
    (fun (st : (Option Addr × Nat × Nat) × Int) => ((ms.length : Int) - st.2).toNat) H ⟨0, none, 0, by omega, by simp [ofL], by simp only [List.take_zero, ofL, List.foldl_nil, natI, List.map_nil]; rfl⟩ ?_
  rintro _ _ wx ⟨k, po, co, hk, rfl, rfl⟩ H
  dsimp only
  unfold crierref01_Of_l0
  refine cnd_i (fun h => ?_) fun h => ?_
  · have h := of_decide_eq_true h
    have hk' : k < ms.length := by omega
    refine ⟨⟨by omega, h⟩, ?_⟩
    rw [Int.toNat_natCast]
    obtain ⟨a, rfl, hcell⟩ := H.rd (i := i) (by repeat (first | exact Pick.here | apply Pick.there)) hi k _ (i64s_get hk')
    refine ⟨_, by rw [Nat.mul_one]; exact hcell, ?_⟩
    refine call_o H (refPut_t (ofL_up (ms.take k)) (hb k) ms[k]) (by repeat (first | exact Cut.nil | (apply Cut.cons; (repeat (first | exact Pick.here | apply Pick.there))))) fun vx L' wx hq H => ?_
    obtain ⟨p', c', rfl, rfl⟩ := hq
    have e : putL (ofL (ms.take k)) ms[k] = ofL (ms.take (k + 1)) := by unfold ofL; rw [List.take_succ_eq_append_getElem hk', List.foldl_append]; rfl
    rw [e] at H ⊢
    refine ⟨_, _, _, rfl, ⟨_, ⟨k + 1, p', c', by omega, ?_, rfl⟩, H⟩, ?_⟩
    · rw [W_id (by omega) (by omega)]; rfl
    · show ((ms.length : Int) - IntKind.i64.wrap ((k : Int) + 1)).toNat < ((ms.length : Int) - (k : Int)).toNat
      rw [W_id (by omega) (by omega)]; omega
  · have h := of_decide_eq_false h
    have : k = ms.length := by omega
    subst this
    rw [List.take_length] at H ⊢
    exact ⟨_, ⟨po, co, rfl, rfl⟩, H⟩
end Go.Proofs.YtlccemphlinecaaDoor
