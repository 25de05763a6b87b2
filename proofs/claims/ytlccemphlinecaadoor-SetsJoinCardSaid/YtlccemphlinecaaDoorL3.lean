/-
  sets: rows of neighbours in the document; the law's lists.
-/
import Derived.Test.YtlccemphlinecaaDoorL2
namespace Go.Proofs.YtlccemphlinecaaDoor
open Go Go.RowKit X
set_option maxRecDepth 100000
set_option linter.unusedVariables false
def edges (prev : Option Nat) : List Nat → List Nat
  | [] => []
  | x :: r => (if prev.map (· + 1) = some x then [] else [x]) ++ ((if r.head? = some (x + 1) then [] else [x]) ++ edges (some x) r)
def flat2 (l : List (Nat × Nat)) : List Nat := l.flatMap fun x => [x.1, x.2]
theorem runsF_edges : ∀ (r : List Nat) (a b : Nat), flat2 (runsF a b r) = a :: ((if r.head? = some (b + 1) then [] else [b]) ++ edges (some b) r)
  | [], a, b => by simp [runsF, flat2, edges]
  | m :: r, a, b => by
    unfold runsF
    by_cases h : m = b + 1
    · rw [if_pos h, runsF_edges r a m]
      simp [edges, h]
    · rw [if_neg h]
      have := runsF_edges r m m
      simp only [flat2, List.flatMap_cons] at this ⊢
      rw [this]
      have h' : ¬ (b + 1 = m) := fun e => h e.symm
      simp [edges, h, h']
theorem runs_edges (l : List Nat) : flat2 (runsL l) = edges none l := by
  cases l with
  | nil => rfl
  | cons m r => simp only [runsL, runsF_edges, edges]; simp
theorem edges_length (l : List Nat) : ∀ p, (edges p l).length ≤ 2 * l.length := by
  induction l with
  | nil => intro p; simp [edges]
  | cons x r ih =>
    intro p
    have := ih (some x)
    simp only [edges, List.length_append, List.length_cons]
    split <;> split <;> simp <;> omega
theorem runsF_count : ∀ (r : List Nat) (a b M : Nat), a ≤ b → b < M → Up (b :: r) → (∀ x ∈ r, x < M) → 2 * (runsF a b r).length ≤ M - a + 1
  | [], a, b, M, h1, h2, _, _ => by simp [runsF]; omega
  | m :: r, a, b, M, h1, h2, hu, hM => by
    have hu' := List.pairwise_cons.1 hu
    have hbm := hu'.1 m (by simp)
    have hmM := hM m (by simp)
    have hr : ∀ x ∈ r, x < M := fun x hx => hM x (List.mem_cons_of_mem _ hx)
    unfold runsF
    split
    · exact runsF_count r a m M (by omega) hmM hu'.2 hr
    · have := runsF_count r m m M (Nat.le_refl _) hmM hu'.2 hr
      simp only [List.length_cons]; omega
theorem runsL_count {l : List Nat} (hu : Up l) (hb : ∀ x ∈ l, x < 16384) : 2 * (runsL l).length ≤ 16385 := by
  cases l with
  | nil => simp [runsL]
  | cons m r =>
    have := runsF_count r m m 16384 (Nat.le_refl _) (hb m (by simp)) hu fun x hx => hb x (List.mem_cons_of_mem _ hx)
    simp only [runsL]; omega
theorem flat2_length (l : List (Nat × Nat)) : (flat2 l).length = 2 * l.length := by
  induction l with
  | nil => rfl
  | cons x r ih => simp only [flat2, List.flatMap_cons, List.length_append, List.length_cons, List.length_nil] at *; omega
def prevAt (l : List Nat) (k : Nat) : Option Nat := if k = 0 then none else l[k - 1]?
theorem refRuns_t (i : It) {p : Option Addr} {c : Nat} {l : List Nat} (hi : ∀ w S, i.h w S → Sl w p (i64s (natI l))) (hl : l.length ≤ 20000) (hb : ∀ x ∈ l, x < 16384) :
    Tri P F.crierref01_Runs [.slice p l.length c] [i] fun v L' => ∃ p' c', v = .slice p' (natI (flat2 (runsL l))).length c' ∧ L' = [ilI p' c' (natI (flat2 (runsL l))), i] := by
  intro w S hS
  refine crierref01_Runs_cv ?_
  unfold crierref01_Runs
  rw [runs_edges]
  have H := own_nil (e := tInt) (size := 1) (Own.start hS)
  refine loop_o (fun (st : (Option Addr × Nat × Nat) × Int) L => ∃ (k : Nat) (po : Option Addr) (co : Nat) (out : List Nat), k ≤ l.length ∧ st = ((po, (natI out).length, co), (k : Int)) ∧ out ++ edges (prevAt l k) (l.drop k) = edges none l ∧ L = [ilI po co (natI out), i])
    (fun (st : (Option Addr × Nat × Nat) × Int) => ((l.length : Int) - st.2).toNat) H ⟨0, none, 0, [], by omega, by simp [natI], by simp [prevAt], by simp only [natI, List.map_nil]; rfl⟩ ?_
  rintro _ _ wx ⟨k, po, co, out, hk, rfl, hout, rfl⟩ H
  dsimp only
  unfold crierref01_Runs_l4
  have hE := edges_length l none
  refine cnd_i (fun h => ?_) fun h => ?_
  · have h := of_decide_eq_true h
    have hk' : k < l.length := by omega
    have hxb := hb _ (List.getElem_mem hk')
    rw [List.drop_eq_getElem_cons hk'] at hout
    simp only [edges, List.head?_drop] at hout
    have cellAt : ∀ wx, X.Own w S [ilI po co (natI out), i] wx → ∀ j (hj : j < l.length), nn p fun a => ∃ n, wx.cell? (a.add (j * 1)) = some (.int .i64 n) ∧ n = (l[j] : Nat) := by
      intro wx H j hj
      obtain ⟨a, rfl, hcell⟩ := H.rd (i := i) (by repeat (first | exact Pick.here | apply Pick.there)) hi j _ (natI_get hj)
      exact ⟨_, by rw [Nat.mul_one]; exact hcell, rfl⟩
    -- reading one number of the list
    have rd : ∀ (po : Option Addr) (co : Nat) (out : List Nat) wx, X.Own w S [ilI po co (natI out), i] wx → ∀ (j : Nat) (hj : j < l.length) (K : Int → Prop), K ((l[j] : Nat) : Int) → ix (j : Int) l.length fun jj => nn p fun a => ldI .i64 (a.add (jj * 1)) wx K := by
      intro po co out wx H j hj K hK
      refine ⟨⟨by omega, by omega⟩, ?_⟩
      rw [Int.toNat_natCast]
      obtain ⟨a, rfl, hcell⟩ := H.rd (i := i) (by repeat (first | exact Pick.here | apply Pick.there)) hi j _ (natI_get hj)
      exact ⟨_, by rw [Nat.mul_one]; exact hcell, hK⟩
    refine join_o (join_o (join_o ?_))
    refine drw_o H fun wx H => ?_
    -- behind both tests
    have last : ∀ (po : Option Addr) (co : Nat) (out2 : List Nat) wx, out2 ++ edges (some l[k]) (l.drop (k + 1)) = edges none l → X.Own w S [ilI po co (natI out2), i] wx →
        crierref01_Runs_j0 (k : Int) (fun s' w' => (∃ L', (∃ (k : Nat) (po : Option Addr) (co : Nat) (out : List Nat), k ≤ l.length ∧ s' = ((po, (natI out).length, co), (k : Int)) ∧ out ++ edges (prevAt l k) (l.drop k) = edges none l ∧ L' = [ilI po co (natI out), i]) ∧ X.Own w S L' w') ∧ ((l.length : Int) - s'.2).toNat < ((l.length : Int) - (k : Int)).toNat) po (natI out2).length co wx := by
      intro po co out2 wx ho H
      unfold crierref01_Runs_j0
      refine ⟨⟨_, ⟨k + 1, po, co, out2, by omega, ?_, ?_, rfl⟩, H⟩, ?_⟩
      · rw [W_id (by omega) (by omega)]; rfl
      · simpa [prevAt, hk'] using ho
      · show ((l.length : Int) - IntKind.i64.wrap ((k : Int) + 1)).toNat < ((l.length : Int) - (k : Int)).toNat
        rw [W_id (by omega) (by omega)]; omega
    -- behind the first test
    have mid : ∀ (po : Option Addr) (co : Nat) (out1 : List Nat) wx, out1 ++ ((if l[k + 1]? = some (l[k] + 1) then [] else [l[k]]) ++ edges (some l[k]) (l.drop (k + 1))) = edges none l → X.Own w S [ilI po co (natI out1), i] wx →
        crierref01_Runs_j2 p l.length (k : Int) (fun s76 w77 => crierref01_Runs_j0 (k : Int) (fun s' w' => (∃ L', (∃ (k : Nat) (po : Option Addr) (co : Nat) (out : List Nat), k ≤ l.length ∧ s' = ((po, (natI out).length, co), (k : Int)) ∧ out ++ edges (prevAt l k) (l.drop k) = edges none l ∧ L' = [ilI po co (natI out), i]) ∧ X.Own w S L' w') ∧ ((l.length : Int) - s'.2).toNat < ((l.length : Int) - (k : Int)).toNat) s76.1 s76.2.1 s76.2.2 w77) po (natI out1).length co wx := by
      intro po co out1 wx ho H
      have hlen := congrArg List.length ho
      simp only [List.length_append] at hlen
      have hlen1 : (natI out1).length ≤ 40000 := by rw [natI_length]; omega
      unfold crierref01_Runs_j2
      refine join_o ?_
      refine drw_o H fun wx H => ?_
      have push : ∀ wx, l[k + 1]? ≠ some (l[k] + 1) → X.Own w S [ilI po co (natI out1), i] wx → crierref01_Runs_j1 p l.length (k : Int) (fun s76 w77 => crierref01_Runs_j0 (k : Int) (fun s' w' => (∃ L', (∃ (k : Nat) (po : Option Addr) (co : Nat) (out : List Nat), k ≤ l.length ∧ s' = ((po, (natI out).length, co), (k : Int)) ∧ out ++ edges (prevAt l k) (l.drop k) = edges none l ∧ L' = [ilI po co (natI out), i]) ∧ X.Own w S L' w') ∧ ((l.length : Int) - s'.2).toNat < ((l.length : Int) - (k : Int)).toNat) s76.1 s76.2.1 s76.2.2 w77) po (natI out1).length co true wx := by
        intro wx hne H
        unfold crierref01_Runs_j1
        refine cnd_i (fun _ => rd po co out1 wx H k hk' _ ?_) (fun h => by cases h)
        refine push_o H (by repeat (first | exact Pick.here | apply Pick.there)) (by omega) fun p' c' wx H => ?_
        have en : natI out1 ++ [((l[k] : Nat) : Int)] = natI (out1 ++ [l[k]]) := by simp [natI]
        rw [en] at H ⊢
        rw [if_neg hne, ← List.append_assoc] at ho
        exact last p' c' _ wx ho H
      have ek : IntKind.i64.wrap ((k : Int) + 1) = ((k + 1 : Nat) : Int) := by rw [W_id (by omega) (by omega)]; rfl
      rw [ek]
      refine cnd_i (fun he => push wx ?_ H) fun he => ?_
      · have he := eq_of_beq he
        rw [List.getElem?_eq_none (by omega)]; simp
      · have he : ((k + 1 : Nat) : Int) ≠ l.length := by simpa using he
        have hk1 : k + 1 < l.length := by omega
        refine rd po co out1 wx H (k + 1) hk1 _ (rd po co out1 wx H k hk' _ ?_)
        rw [W_id (n := ((l[k] : Nat) : Int) + 1) (by omega) (by omega)]
        cases hc : (((l[k + 1] : Nat) : Int) != ((l[k] : Nat) : Int) + 1)
        · have hc : ((l[k + 1] : Nat) : Int) = ((l[k] : Nat) : Int) + 1 := by simpa using hc
          unfold crierref01_Runs_j1
          refine cnd_i (fun h => by cases h) fun _ => last po co out1 wx ?_ H
          rw [if_pos (by rw [List.getElem?_eq_getElem hk1]; congr 1; omega), List.nil_append] at ho
          exact ho
        · have hc : ((l[k + 1] : Nat) : Int) ≠ ((l[k] : Nat) : Int) + 1 := by simpa using hc
          refine push wx ?_ H
          rw [List.getElem?_eq_getElem hk1]
          intro e; simp only [Option.some.injEq] at e; omega
    have hlen := congrArg List.length hout
    simp only [List.length_append] at hlen
    have hlen0 : (natI out).length ≤ 40000 := by rw [natI_length]; omega
    have push0 : ∀ wx, (prevAt l k).map (· + 1) ≠ some l[k] → X.Own w S [ilI po co (natI out), i] wx → crierref01_Runs_j3 p l.length po (natI out).length co (k : Int) (fun s74 w75 => crierref01_Runs_j2 p l.length (k : Int) (fun s76 w77 => crierref01_Runs_j0 (k : Int) (fun s' w' => (∃ L', (∃ (k : Nat) (po : Option Addr) (co : Nat) (out : List Nat), k ≤ l.length ∧ s' = ((po, (natI out).length, co), (k : Int)) ∧ out ++ edges (prevAt l k) (l.drop k) = edges none l ∧ L' = [ilI po co (natI out), i]) ∧ X.Own w S L' w') ∧ ((l.length : Int) - s'.2).toNat < ((l.length : Int) - (k : Int)).toNat) s76.1 s76.2.1 s76.2.2 w77) s74.1 s74.2.1 s74.2.2 w75) true wx := by
      intro wx hne H
      unfold crierref01_Runs_j3
      refine cnd_i (fun _ => rd po co out wx H k hk' _ ?_) (fun h => by cases h)
      refine push_o H (by repeat (first | exact Pick.here | apply Pick.there)) (by omega) fun p' c' wx H => ?_
      have en : natI out ++ [((l[k] : Nat) : Int)] = natI (out ++ [l[k]]) := by simp [natI]
      rw [en] at H ⊢
      rw [if_neg hne, ← List.append_assoc] at hout
      exact mid p' c' _ wx hout H
    refine cnd_i (fun he => push0 wx ?_ H) fun he => ?_
    · have he : k = 0 := by simpa using he
      simp [prevAt, he]
    · have he : k ≠ 0 := by simpa using he
      have ek : IntKind.i64.wrap ((k : Int) - 1) = ((k - 1 : Nat) : Int) := by rw [W_id (by omega) (by omega)]; omega
      have hk0 : k - 1 < l.length := by omega
      have hxb0 := hb _ (List.getElem_mem hk0)
      have hp : prevAt l k = some l[k - 1] := by simp [prevAt, he, hk0]
      refine rd po co out wx H k hk' _ ?_
      rw [ek]
      refine rd po co out wx H (k - 1) hk0 _ ?_
      rw [W_id (n := ((l[k - 1] : Nat) : Int) + 1) (by omega) (by omega)]
      cases hc : (((l[k] : Nat) : Int) != ((l[k - 1] : Nat) : Int) + 1)
      · have hc : ((l[k] : Nat) : Int) = ((l[k - 1] : Nat) : Int) + 1 := by simpa using hc
        unfold crierref01_Runs_j3
        refine cnd_i (fun h => by cases h) fun _ => mid po co out wx ?_ H
        rw [if_pos (by rw [hp]; simp; omega), List.nil_append] at hout
        exact hout
      · have hc : ((l[k] : Nat) : Int) ≠ ((l[k - 1] : Nat) : Int) + 1 := by simpa using hc
        refine push0 wx ?_ H
        rw [hp]; simp; omega
  · have h := of_decide_eq_false h
    have : k = l.length := by omega
    subst this
    rw [List.drop_length] at hout
    simp only [edges, List.append_nil] at hout
    subst hout
    exact ⟨_, ⟨po, co, rfl, rfl⟩, H⟩
end Go.Proofs.YtlccemphlinecaaDoor
