/-
  Sets: the rows of neighbours.
-/
import Derived.Test.YtlccemphlinecaaDoorC6
namespace Go.Proofs.YtlccemphlinecaaDoor
open Go Go.RowKit X
set_option maxRecDepth 100000
set_option linter.unusedVariables false
def runsF (a b : Nat) : List Nat → List (Nat × Nat)
  | [] => [(a, b)]
  | m :: r => if m = b + 1 then runsF a m r else (a, b) :: runsF m m r
def runsL : List Nat → List (Nat × Nat)
  | [] => []
  | m :: r => runsF m m r
def i2s (l : List (Nat × Nat)) : List (List Value) := l.map fun x => [.int .i64 (x.1 : Nat), .int .i64 (x.2 : Nat)]
theorem Own.comm {w w0 : World} {S0 : Nat → Prop} {A B : List It} (H : X.Own w0 S0 (A ++ B) w) : X.Own w0 S0 (B ++ A) w := by
  obtain ⟨S, h1, h2⟩ := H
  obtain ⟨S1, S2, g1, g2, g3, g4⟩ := Sep.append.1 h1
  exact ⟨S, Sep.append.2 ⟨S2, S1, g2, g1, fun k hk h => g3 k h hk, fun k => (g4 k).trans or_comm⟩, h2⟩
def runsE (g5 g1 g2 : Nat) (ws : List Nat) (p : Option Addr) (c : Nat) (t t2 t5 : TypeId) : List It := row g5 [fromV g1 g2] t5 :: fromE g1 g2 ws p c 0 t t2
def runsV (g5 : Nat) : Value := .func (.func F.sets_Set_int_Runs_1) [].toArray [ptrV g5].toArray
theorem runs_t (b : Nat) (l : List Nat) : Tri P F.sets_Set_int_Runs [ptrV b] [setI b l] fun v L' => ∃ g5 g1 g2 ws p c t t2 t5, mems ws = l ∧ (∀ x ∈ ws, x < 2 ^ 64) ∧ ws.length ≤ 256 ∧ v = runsV g5 ∧ L' = setI b l :: runsE g5 g1 g2 ws p c t t2 t5 := by
  intro w S hS
  refine sets_Set_int_Runs_cv ?_
  unfold sets_Set_int_Runs
  have H := Own.start hS
  refine call_o H (all_t b l) (by repeat (first | exact Cut.nil | (apply Cut.cons; (repeat (first | exact Pick.here | apply Pick.there))))) fun vx L' wx hq H => ?_
  obtain ⟨g1, g2, ws, p, c, t, t2, h1, h2, h3, rfl, rfl⟩ := hq
  refine ⟨_, rfl, ?_⟩
  refine alc_o H fun bx wx H => ?_
  show oneK (fromV g1 g2) _
  unfold fromV
  dsimp only [oneK]
  refine st1_o H (by repeat (first | exact Rep.here | apply Rep.there)) (by simp) fun wx H => ?_
  exact ⟨_, ⟨bx, g1, g2, ws, p, c, t, t2, _, h1, h2, h3, rfl, rfl⟩, H.drop (L1 := setI b l :: runsE bx g1 g2 ws p c t t2 _) (by repeat (first | exact Cut.nil | (apply Cut.cons; (repeat (first | exact Pick.here | apply Pick.there)))))⟩
theorem runs_it {W : World} (hT : TabAt W) {g5 g1 g2 : Nat} {ws : List Nat} {p : Option Addr} {c : Nat} {t t2 t5 : TypeId} (h2 : ∀ x ∈ ws, x < 2 ^ 64) (h3 : ws.length ≤ 256) :
    Iter P F.sets_Set_int_Runs_1 [ptrV g5] (runsE g5 g1 g2 ws p c t t2 t5 ++ [keep W]) (i2s (runsL (mems ws))) := by
  intro y w0 S0 L0 w Q I D hy H h0 hstep hend hstop
  obtain ⟨fn, fa, fc, rfl⟩ := hy
  refine sets_Set_int_Runs_1_cv ?_
  unfold sets_Set_int_Runs_1
  dsimp only [oneK]
  refine alc_o H fun b3 wx H => alc_o H fun b5 wx H => alc_o H fun b7 wx H => alc_o H fun b9 wx H => ?_
  refine st1_o H (by repeat (first | exact Rep.here | apply Rep.there)) (by simp) fun wx H => ?_
  refine st1_o H (by repeat (first | exact Rep.here | apply Rep.there)) (by simp) fun wx H => ?_
  refine st1_o H (by repeat (first | exact Rep.here | apply Rep.there)) (by simp) fun wx H => ?_
  refine ldV_o H (.there (.there (.there (.there (Pick.right .here L0))))) rfl ?_
  let rows : Int → Int → Bool → List It := fun fr to is => [row b9 [.bool is] T.t4, row b7 [.int .i64 to] T.t3, row b5 [.int .i64 fr] T.t3, row b3 [.func fn fa fc] T.t65]
  have eA : ∀ (fr to : Int) (is : Bool) (L F : List It), rows fr to is ++ (L ++ [row g5 [fromV g1 g2] t5]) ++ ((fromE g1 g2 ws p c 0 t t2 ++ [keep W]) ++ F) = rows fr to is ++ (L ++ ((runsE g5 g1 g2 ws p c t t2 t5 ++ [keep W]) ++ F)) := by
    intro fr to is L F; simp [runsE]
  have H : X.Own w0 S0 ((rows 0 0 false ++ (L0 ++ [row g5 [fromV g1 g2] t5])) ++ (fromE g1 g2 ws p c 0 t t2 ++ [keep W])) wx := by
    have := eA 0 0 false L0 []
    simp only [List.append_nil] at this
    rw [this]; exact H
  -- the outer loop's rounds, out of this one's things
  have yield : ∀ (k : Nat) (a b : Nat) (L A F : List It) (w : World), (i2s (runsL (mems ws)))[k]? = some [.int .i64 (a : Nat), .int .i64 (b : Nat)] → I k L → X.Own w0 S0 (A ++ (L ++ ((runsE g5 g1 g2 ws p c t t2 t5 ++ [keep W]) ++ F))) w → ∀ K : Value → World → Prop,
      (∀ (bo : Bool) L' w', (if bo then I (k + 1) L' else D L') → X.Own w0 S0 (A ++ (L' ++ ((runsE g5 g1 g2 ws p c t t2 t5 ++ [keep W]) ++ F))) w' → K (.bool bo) w') → callVal P (.func fn fa fc) [.int .i64 (a : Nat), .int .i64 (b : Nat)] w K := by
    intro k a b L A F w hx hI H K hK
    have e : ∀ L : List It, (L ++ ((runsE g5 g1 g2 ws p c t t2 t5 ++ [keep W]) ++ F)) ++ A = L ++ ((runsE g5 g1 g2 ws p c t t2 t5 ++ [keep W]) ++ (F ++ A)) := by intro L; simp
    refine callVal_mono (hstep k _ L (F ++ A) w hx hI (by rw [← e]; exact Own.comm H)) ?_
    rintro v w' ⟨bo, rfl, L', h, H'⟩
    refine hK bo L' w' h (Own.comm ?_)
    rw [e]; exact H'
  refine rf_o (fun k Li => ∃ (j : Nat) (L : List It) (fr to : Nat) (is : Bool) (pre : List (Nat × Nat)), I j L ∧ pre.length = j ∧ (if is then pre ++ runsF fr to ((mems ws).drop k) = runsL (mems ws) else k = 0 ∧ j = 0) ∧ (is = true → to < 16384) ∧ Li = rows fr to is ++ (L ++ [row g5 [fromV g1 g2] t5]))
    (fun c Li => c = .ret ∧ ∃ L fr to is, D L ∧ Li = rows fr to is ++ (L ++ [row g5 [fromV g1 g2] t5])) from_enters (from_it hT h2 h3) (i1s_len _) H ⟨0, L0, 0, 0, false, [], h0, rfl, by simp, by simp, rfl⟩ ?_ ?_ ?_
  · rintro k x _ F l r d wx Q2 hx ⟨j, L, fr, to, is, pre, hI, hj, hpre, hto, rfl⟩ H hgo hdone
    obtain ⟨hk, rfl⟩ := i1s_get hx
    simp only [loL_zero] at hk ⊢
    have hmlt : (mems ws)[k] < 16384 := by have := mems_lt (List.getElem_mem hk); omega
    have hdrop : (mems ws).drop k = (mems ws)[k] :: (mems ws).drop (k + 1) := List.drop_eq_getElem_cons hk
    generalize (mems ws)[k] = m at *
    unfold sets_Set_int_Runs_1_r3
    dsimp only [X.b1]
    refine ⟨_, rfl, rec_o H .here fun wx H => join_o (join_o ?_)⟩
    -- a member that goes on with the row
    have cont : ∀ wx, is = true → m = to + 1 → X.Own w0 S0 (recI l r .busy none :: defI d :: (rows fr to is ++ (L ++ [row g5 [fromV g1 g2] t5]) ++ ((fromE g1 g2 ws p c 0 t t2 ++ [keep W]) ++ F))) wx →
        sets_Set_int_Runs_1_j2 b3 b5 b7 b9 l r Q2 (m : Int) (fun s w => sets_Set_int_Runs_1_j0 l r Q2 w) true wx := by
      rintro wx rfl rfl H
      unfold sets_Set_int_Runs_1_j2
      refine cnd_i (fun _ => ?_) (fun h => by cases h)
      refine st1_o H (by repeat (first | exact Rep.here | apply Rep.there)) (by simp) fun wx H => ?_
      show sets_Set_int_Runs_1_j0 _ _ _ _
      unfold sets_Set_int_Runs_1_j0
      refine rec_o H .here fun wx H => hgo _ wx ⟨j, L, fr, to + 1, true, pre, hI, hj, ?_, fun _ => hmlt, rfl⟩ H
      simp only [if_true] at hpre ⊢
      rw [← hpre, hdrop]
      simp [runsF]
    -- a member that begins a row
    have begin' : ∀ wx L' j' pre', I j' L' → pre'.length = j' → pre' ++ runsF m m ((mems ws).drop (k + 1)) = runsL (mems ws) → ∀ is0, X.Own w0 S0 (recI l r .busy none :: defI d :: (rows fr to is0 ++ (L' ++ [row g5 [fromV g1 g2] t5]) ++ ((fromE g1 g2 ws p c 0 t t2 ++ [keep W]) ++ F))) wx →
        sets_Set_int_Runs_1_j1 b5 b7 b9 l r Q2 (m : Int) (fun s w => sets_Set_int_Runs_1_j0 l r Q2 w) false wx := by
      intro wx L' j' pre' hI' hj' hp' is0 H
      unfold sets_Set_int_Runs_1_j1
      refine cnd_i (fun h => by cases h) fun _ => ?_
      refine st1_o H (by repeat (first | exact Rep.here | apply Rep.there)) (by simp) fun wx H => ?_
      refine st1_o H (by repeat (first | exact Rep.here | apply Rep.there)) (by simp) fun wx H => ?_
      refine st1_o H (by repeat (first | exact Rep.here | apply Rep.there)) (by simp) fun wx H => ?_
      show sets_Set_int_Runs_1_j0 _ _ _ _
      unfold sets_Set_int_Runs_1_j0
      exact rec_o H .here fun wx H => hgo _ wx ⟨j', L', m, m, true, pre', hI', hj', by simpa using hp', fun _ => hmlt, rfl⟩ H
    -- no neighbour
    have other : ∀ wx, (is = true → m ≠ to + 1) → X.Own w0 S0 (recI l r .busy none :: defI d :: (rows fr to is ++ (L ++ [row g5 [fromV g1 g2] t5]) ++ ((fromE g1 g2 ws p c 0 t t2 ++ [keep W]) ++ F))) wx →
        sets_Set_int_Runs_1_j2 b3 b5 b7 b9 l r Q2 (m : Int) (fun s w => sets_Set_int_Runs_1_j0 l r Q2 w) false wx := by
      intro wx hne H
      unfold sets_Set_int_Runs_1_j2
      refine cnd_i (fun h => by cases h) fun _ => join_o ?_
      repeat (first | refine ldI_o H (by repeat (first | exact Pick.here | apply Pick.there)) (by rfl) ?_ | refine ldL_o H (by repeat (first | exact Pick.here | apply Pick.there)) (by rfl) ?_ | refine ldB_o H (by repeat (first | exact Pick.here | apply Pick.there)) (by rfl) ?_ | refine ldP_o H (by repeat (first | exact Pick.here | apply Pick.there)) (by rfl) ?_ | refine ldS_o H (by repeat (first | exact Pick.here | apply Pick.there)) (by rfl) ?_)
      refine cnd_i (fun his => ?_) fun his => ?_
      · subst his
        refine ldV_o H (by repeat (first | exact Pick.here | apply Pick.there)) (by rfl) ?_
        repeat (first | refine ldI_o H (by repeat (first | exact Pick.here | apply Pick.there)) (by rfl) ?_ | refine ldL_o H (by repeat (first | exact Pick.here | apply Pick.there)) (by rfl) ?_ | refine ldB_o H (by repeat (first | exact Pick.here | apply Pick.there)) (by rfl) ?_ | refine ldP_o H (by repeat (first | exact Pick.here | apply Pick.there)) (by rfl) ?_ | refine ldS_o H (by repeat (first | exact Pick.here | apply Pick.there)) (by rfl) ?_)
        have hp : pre ++ (fr, to) :: runsF m m ((mems ws).drop (k + 1)) = runsL (mems ws) := by
          rw [hdrop] at hpre
          simp only [if_true, runsF, if_neg (hne rfl)] at hpre
          exact hpre
        have hx : (i2s (runsL (mems ws)))[j]? = some [.int .i64 (fr : Nat), .int .i64 (to : Nat)] := by
          rw [← hp, ← hj]; simp [i2s]
        have e := eA fr to true L F
        refine yield j fr to L (recI l r .busy none :: defI d :: rows fr to true) F wx hx hI (by show X.Own w0 S0 (recI l r .busy none :: defI d :: (rows fr to true ++ _)) wx; rw [← e]; exact H) _ ?_
        intro bo L' w' hb H
        have H : X.Own w0 S0 (recI l r .busy none :: defI d :: (rows fr to true ++ (L' ++ [row g5 [fromV g1 g2] t5]) ++ ((fromE g1 g2 ws p c 0 t t2 ++ [keep W]) ++ F))) w' := by rw [eA]; exact H
        refine ⟨bo, rfl, ?_⟩
        cases bo
        · unfold sets_Set_int_Runs_1_j1
          exact cnd_i (fun _ => rec_o H .here fun wx H => hdone .ret _ wx ⟨rfl, L', fr, to, true, by simpa using hb, rfl⟩ H) (fun h => by cases h)
        · exact begin' w' L' (j + 1) (pre ++ [(fr, to)]) (by simpa using hb) (by simp [hj]) (by rw [List.append_assoc]; exact hp) true H
      · subst his
        obtain ⟨rfl, rfl⟩ : k = 0 ∧ j = 0 := by simpa using hpre
        have hp0 : pre = [] := List.eq_nil_of_length_eq_zero hj
        subst hp0
        refine begin' wx L 0 [] hI rfl ?_ false H
        rw [List.drop_zero] at hdrop
        rw [hdrop]
        rfl
    repeat (first | refine ldI_o H (by repeat (first | exact Pick.here | apply Pick.there)) (by rfl) ?_ | refine ldL_o H (by repeat (first | exact Pick.here | apply Pick.there)) (by rfl) ?_ | refine ldB_o H (by repeat (first | exact Pick.here | apply Pick.there)) (by rfl) ?_ | refine ldP_o H (by repeat (first | exact Pick.here | apply Pick.there)) (by rfl) ?_ | refine ldS_o H (by repeat (first | exact Pick.here | apply Pick.there)) (by rfl) ?_)
    refine cnd_i (fun his => ?_) fun his => other wx (fun h => by rw [h] at his; cases his) H
    repeat (first | refine ldI_o H (by repeat (first | exact Pick.here | apply Pick.there)) (by rfl) ?_ | refine ldL_o H (by repeat (first | exact Pick.here | apply Pick.there)) (by rfl) ?_ | refine ldB_o H (by repeat (first | exact Pick.here | apply Pick.there)) (by rfl) ?_ | refine ldP_o H (by repeat (first | exact Pick.here | apply Pick.there)) (by rfl) ?_ | refine ldS_o H (by repeat (first | exact Pick.here | apply Pick.there)) (by rfl) ?_)
    have hto' := hto his
    rw [W_id (by omega) (by omega)]
    cases he : ((m : Int) == (to : Int) + 1)
    · exact other wx (fun _ h => by simp [h] at he) H
    · exact cont wx his (by have := eq_of_beq he; omega) H
  · rintro d _ wx ⟨j, L, fr, to, is, pre, hI, hj, hpre, hto, rfl⟩ H
    dsimp only [jmpX]
    rw [i1s_length, loL_zero, List.drop_length] at hpre
    have e0 := eA fr to is L []
    simp only [List.append_nil] at e0
    repeat (first | refine ldI_o H (by repeat (first | exact Pick.here | apply Pick.there)) (by rfl) ?_ | refine ldL_o H (by repeat (first | exact Pick.here | apply Pick.there)) (by rfl) ?_ | refine ldB_o H (by repeat (first | exact Pick.here | apply Pick.there)) (by rfl) ?_ | refine ldP_o H (by repeat (first | exact Pick.here | apply Pick.there)) (by rfl) ?_ | refine ldS_o H (by repeat (first | exact Pick.here | apply Pick.there)) (by rfl) ?_)
    refine cnd_i (fun his => ?_) fun his => ?_
    · subst his
      simp only [if_true, runsF] at hpre
      refine ldV_o H (by repeat (first | exact Pick.here | apply Pick.there)) (by rfl) ?_
      repeat (first | refine ldI_o H (by repeat (first | exact Pick.here | apply Pick.there)) (by rfl) ?_ | refine ldL_o H (by repeat (first | exact Pick.here | apply Pick.there)) (by rfl) ?_ | refine ldB_o H (by repeat (first | exact Pick.here | apply Pick.there)) (by rfl) ?_ | refine ldP_o H (by repeat (first | exact Pick.here | apply Pick.there)) (by rfl) ?_ | refine ldS_o H (by repeat (first | exact Pick.here | apply Pick.there)) (by rfl) ?_)
      have hx : (i2s (runsL (mems ws)))[j]? = some [.int .i64 (fr : Nat), .int .i64 (to : Nat)] := by
        rw [← hpre, ← hj]; simp [i2s]
      refine yield j fr to L (defI d :: rows fr to true) [] wx hx hI (by rw [List.append_nil]; show X.Own w0 S0 (defI d :: (rows fr to true ++ _)) wx; rw [← e0]; exact H) _ ?_
      intro bo L' w' hb H
      rw [List.append_nil] at H
      refine ⟨bo, rfl, take_o H .here fun wx H => ?_⟩
      have H := H.rest (L1 := rows fr to true) (.cons .here (.cons .here (.cons .here (.cons .here .nil))))
      cases bo
      · exact hstop L' wx (by simpa using hb) H
      · refine hend L' wx ?_ H
        have : (i2s (runsL (mems ws))).length = j + 1 := by rw [← hpre]; simp [i2s, hj]
        rw [this]; simpa using hb
    · subst his
      obtain ⟨hk, rfl⟩ : (mems ws).length = 0 ∧ j = 0 := by simpa using hpre
      refine take_o H .here fun wx H => hend L wx ?_ ?_
      · rw [List.eq_nil_of_length_eq_zero hk]; exact hI
      · rw [e0] at H
        exact H.rest (L1 := rows fr to false) (.cons .here (.cons .here (.cons .here (.cons .here .nil))))
  · rintro d _ _ wx ⟨rfl, L, fr, to, is, hD, rfl⟩ H
    dsimp only [jmpX]
    refine take_o H .here fun wx H => hstop L wx hD ?_
    have e0 := eA fr to is L []
    simp only [List.append_nil] at e0
    rw [e0] at H
    exact H.rest (L1 := rows fr to is) (.cons .here (.cons .here (.cons .here (.cons .here .nil))))
theorem runs_enters : enters P F.sets_Set_int_Runs_1 = true := by kernel_rfl
end Go.Proofs.YtlccemphlinecaaDoor
