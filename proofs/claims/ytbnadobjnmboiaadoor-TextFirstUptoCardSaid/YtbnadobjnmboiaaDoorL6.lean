/-
  text: TextFirst: of a text that is no script the number of the first line that is no step is told, and no steps are; all lines ahead of it are steps.
-/
import Derived.Test.YtbnadobjnmboiaaDoorL5
namespace Go.Proofs.YtbnadobjnmboiaaDoor
open Go Go.RowKit X
set_option maxRecDepth 100000
set_option linter.unusedVariables false
set_option linter.unusedSimpArgs false
set_option maxHeartbeats 1000000
theorem sayL_small {s : List UInt8} {x : Nat × List UInt8} (h : x ∈ sayL s) : x.2.length ≤ s.length := by
  obtain ⟨-, -, h1, -⟩ := sayF_mem _ _ _ h
  exact (rawL_no _ _ (Nat.le_refl _) _ h1).2
/-- the first m lines are steps' -/
def Oks (s : List UInt8) (m : Nat) : Prop := ∀ j, j < m → ∀ y, (sayL s)[j]? = some y → ∃ t : St, t.Fit ∧ IsL ⟨y.2.toArray⟩ t
theorem first_fail {s : List UInt8} {xs : List St} {n e : Int} {m : Nat} {y : Nat × List UInt8} (h : ScriptEnd s xs n e) (hm : Oks s m) (hy : (sayL s)[m]? = some y) (hno : ∀ t : St, t.Fit → ¬ IsL ⟨y.2.toArray⟩ t) : e = 290 ∧ n = ((y.1 : Nat) : Int) ∧ xs = [] := by
  rcases h with ⟨rfl, rfl, hl, hR⟩ | ⟨rfl, rfl, ys, x, hR, hx, rfl, hx2⟩
  · have hml := (List.getElem?_eq_some_iff.1 hy).1
    have h1 : xs[m]? = some (xs[m]'(by omega)) := List.getElem?_eq_getElem _
    obtain ⟨x, hx, hf, hi⟩ := hR _ _ h1
    rw [hy] at hx
    cases hx
    exact absurd hi (hno _ hf)
  · have hle : m = ys.length := by
      rcases Nat.lt_trichotomy m ys.length with h | h | h
      · have h1 : ys[m]? = some (ys[m]'h) := List.getElem?_eq_getElem _
        obtain ⟨x', hx', hf, hi⟩ := hR _ _ h1
        rw [hy] at hx'
        cases hx'
        exact absurd hi (hno _ hf)
      · exact h
      · obtain ⟨t, ht, hi⟩ := hm _ h _ hx
        exact absurd hi (hx2 t ht)
    subst hle
    rw [hy] at hx
    cases hx
    exact ⟨rfl, rfl, rfl⟩
theorem all_ok {s : List UInt8} {xs : List St} {n e : Int} (h : ScriptEnd s xs n e) (hm : Oks s (sayL s).length) : e = 0 ∧ n = 0 ∧ xs.length = (sayL s).length := by
  rcases h with ⟨rfl, rfl, hl, hR⟩ | ⟨rfl, rfl, ys, x, hR, hx, rfl, hx2⟩
  · exact ⟨rfl, rfl, hl⟩
  · obtain ⟨t, ht, hi⟩ := hm _ (List.getElem?_eq_some_iff.1 hx).1 _ hx
    exact absurd hi (hx2 t ht)
theorem textFirst_cv {w : World} (hL : LibAt w) (s : List UInt8) (hs : s.length ≤ 1000000000) : CV P F.crierlaw29_TextFirst [strV s] w fun v w' => v = .bool true ∧ Below w.heap.size w w' := by
  refine crierlaw29_TextFirst_cv ?_
  unfold crierlaw29_TextFirst
  have hsl : (sayL s).length ≤ s.length := Nat.le_trans (sayF_len _ _) (rawL_len s)
  have H := keep_start w
  refine alc_o H fun b2 wx H => ?_
  refine call_pa H (awake_t hL) fun wx H => ?_
  refine ⟨_, rfl, alc_o H fun b7 wx H => ?_⟩
  refine st1_a H fun wx H => ?_
  simp only [List.set_cons_zero] at H
  repeat (first | refine ldI_a H ?_ | refine ldL_a H ?_ | refine ldB_a H ?_ | refine ldP_a H ?_ | refine ldS_a H ?_)
  refine cnd_i (fun h => by cases h) fun _ => ?_
  refine call_oa H (Script_t hL s (by omega) (fun x hx => by have := sayL_small hx; omega) (by omega)) fun vx L' wx hq H => ?_
  obtain ⟨xs, p, c, n, e, rfl, hend, rfl⟩ := hq
  simp only [List.cons_append, List.nil_append] at H
  refine ⟨_, _, _, _, _, rfl, alc_o H fun b20 wx H => alc_o H fun b22 wx H => alc_o H fun b24 wx H => ?_⟩
  refine st1_a H fun wx H => ?_
  refine st1_a H fun wx H => ?_
  refine st1_a H fun wx H => ?_
  simp only [List.set_cons_zero] at H
  refine alc_o H fun b29 wx H => ?_
  refine st1_a H fun wx H => ?_
  simp only [List.set_cons_zero] at H
  refine call_oa H (Lines_t ⟨s.toArray⟩) fun vx L' wx hq H => ?_
  obtain ⟨bL, rfl, rfl⟩ := hq
  simp only [List.cons_append, List.nil_append] at H
  refine ⟨_, rfl, ?_⟩
  have H := H.drop (L1 := [row b29 [.int .i64 0] T.t3, row b2 [.bool false] T.t4, row b7 [.bool true] T.t4, row b20 [.slice p xs.length c] tSteps, row b22 [.int .i64 n] T.t3, row b24 [.int .i64 e] T.t32, keep w] ++ [row bL [strV s] tStr]) (by simp only [List.cons_append, List.nil_append]; exact (by repeat (first | exact Cut.nil | (apply Cut.cons; (repeat (first | exact Pick.here | apply Pick.there))))))
  refine rf_f (fun m L' => Oks s m ∧ L' = [row b29 [.int .i64 ((m : Nat) : Int)] T.t3, row b2 [.bool false] T.t4, row b7 [.bool true] T.t4, row b20 [.slice p xs.length c] tSteps, row b22 [.int .i64 n] T.t3, row b24 [.int .i64 e] T.t32, keep w])
    (fun c L' => c = .ret ∧ ∃ F, L' = [row b2 [.bool true] T.t4, keep w] ++ F) lines_enters (lines_it bL s (by omega)) (sayV_len s) H ⟨fun j hj => absurd hj (by omega), rfl⟩ ?_ ?_ ?_
  · clear H
    rintro m x _ F l r d wx Q2 hx ⟨hok, rfl⟩ H hgo hdone
    unfold sayV at hx
    rw [List.getElem?_map] at hx
    obtain ⟨y, hy, rfl⟩ := Option.map_eq_some_iff.1 hx
    have hml := (List.getElem?_eq_some_iff.1 hy).1
    have hyl := sayL_small (List.mem_of_getElem? hy)
    unfold crierlaw29_TextFirst_r1
    dsimp only [X.b2]
    simp only [List.cons_append, List.nil_append] at H
    refine ⟨_, rfl, _, rfl, rec_o H .here fun wx H => ?_⟩
    refine call_oa H (Parse_t hL ⟨y.2.toArray⟩ (by rw [size_bytes]; omega)) fun vx L' wx hq H => ?_
    obtain ⟨⟨d', e', rfl, hend'⟩, rfl⟩ := hq
    simp only [List.cons_append, List.nil_append] at H
    refine ⟨_, _, _, _, _, _, _, _, _, _, _, _, _, _, rfl, alc_o H fun b61 wx H => ?_⟩
    refine st1_a H fun wx H => ?_
    refine st1_a H fun wx H => ?_
    refine st1_a H fun wx H => ?_
    refine st1_a H fun wx H => ?_
    refine st1_a H fun wx H => ?_
    refine st1_a H fun wx H => ?_
    refine st1_a H fun wx H => ?_
    refine st1_a H fun wx H => ?_
    refine st1_a H fun wx H => ?_
    refine st1_a H fun wx H => ?_
    refine st1_a H fun wx H => ?_
    refine st1_a H fun wx H => ?_
    refine st1_a H fun wx H => ?_
    simp only [List.set_cons_zero, List.set_cons_succ] at H
    rcases hend' with ⟨rfl, hdf, hdi⟩ | ⟨rfl, -, hno⟩
    · refine cnd_i (fun h => by cases h) fun _ => ?_
      repeat (first | refine ldI_a H ?_ | refine ldL_a H ?_ | refine ldB_a H ?_ | refine ldP_a H ?_ | refine ldS_a H ?_)
      refine st1_a H fun wx H => ?_
      simp only [List.set_cons_zero] at H
      rw [W_id (by omega) (by omega)] at H
      refine rec_o H (by repeat (first | exact Rep.here | apply Rep.there)) fun wx H => ?_
      have H := H.rest (L1 := [row b61 _ _]) (by repeat (first | exact Cut.nil | (apply Cut.cons; (repeat (first | exact Pick.here | apply Pick.there)))))
      refine hgo [row b29 [.int .i64 ((m : Nat) + 1 : Int)] T.t3, row b2 [.bool false] T.t4, row b7 [.bool true] T.t4, row b20 [.slice p xs.length c] tSteps, row b22 [.int .i64 n] T.t3, row b24 [.int .i64 e] T.t32, keep w] wx ⟨fun j hj y' hy' => ?_, by push_cast; rfl⟩ ?_
      · by_cases hjm : j = m
        · subst hjm
          rw [hy] at hy'
          cases hy'
          exact ⟨d', hdf, hdi⟩
        · exact hok j (by omega) y' hy'
      · exact H.perm (L1 := [recI l r .ready none, defI d, row b29 [.int .i64 ((m : Nat) + 1 : Int)] T.t3, row b2 [.bool false] T.t4, row b7 [.bool true] T.t4, row b20 [.slice p xs.length c] tSteps, row b22 [.int .i64 n] T.t3, row b24 [.int .i64 e] T.t32, keep w]) (by repeat (first | exact Cut.nil | (apply Cut.cons; (repeat (first | exact Pick.here | apply Pick.there)))))
    · refine cnd_i (fun _ => ?_) (fun h => by cases h)
      obtain ⟨rfl, rfl, rfl⟩ := first_fail hend hok hy hno
      refine join_o ?_
      repeat (first | refine ldI_a H ?_ | refine ldL_a H ?_ | refine ldB_a H ?_ | refine ldP_a H ?_ | refine ldS_a H ?_)
      refine cnd_i (fun _ => ?_) fun h => absurd h (by simp)
      repeat (first | refine ldI_a H ?_ | refine ldL_a H ?_ | refine ldB_a H ?_ | refine ldP_a H ?_ | refine ldS_a H ?_)
      refine st1_a H fun wx H => ?_
      simp only [List.set_cons_zero] at H
      unfold crierlaw29_TextFirst_j0
      refine rec_o H (by repeat (first | exact Rep.here | apply Rep.there)) fun wx H => ?_
      have H := H.rest (L1 := [row b61 _ _]) (by repeat (first | exact Cut.nil | (apply Cut.cons; (repeat (first | exact Pick.here | apply Pick.there)))))
      refine hdone .ret ([row b2 [.bool true] T.t4, keep w] ++ [row b29 [.int .i64 ((m : Nat) : Int)] T.t3, row b7 [.bool true] T.t4, row b20 [.slice p 0 c] tSteps, row b22 [.int .i64 ((y.1 : Nat) : Int)] T.t3, row b24 [.int .i64 290] T.t32]) wx ⟨rfl, _, rfl⟩ ?_
      exact H.perm (L1 := [recI l r .done (some .ret), defI d, row b2 [.bool true] T.t4, keep w, row b29 [.int .i64 ((m : Nat) : Int)] T.t3, row b7 [.bool true] T.t4, row b20 [.slice p 0 c] tSteps, row b22 [.int .i64 ((y.1 : Nat) : Int)] T.t3, row b24 [.int .i64 290] T.t32]) (by repeat (first | exact Cut.nil | (apply Cut.cons; (repeat (first | exact Pick.here | apply Pick.there)))))
  · rintro d _ wx ⟨hok, rfl⟩ H
    dsimp only [jmpX]
    have e1 : (sayV s).length = (sayL s).length := by unfold sayV; rw [List.length_map]
    rw [e1] at H hok
    obtain ⟨rfl, rfl, hxl⟩ := all_ok hend hok
    refine join_o ?_
    repeat (first | refine ldI_a H ?_ | refine ldL_a H ?_ | refine ldB_a H ?_ | refine ldP_a H ?_ | refine ldS_a H ?_)
    refine st1_a H fun wx H => ?_
    simp only [List.set_cons_zero] at H
    unfold crierlaw29_TextFirst_j2
    refine take_o H .here fun wx H => ?_
    repeat (first | refine ldI_a H ?_ | refine ldL_a H ?_ | refine ldB_a H ?_ | refine ldP_a H ?_ | refine ldS_a H ?_)
    exact ⟨by rw [hxl]; simp, keep_done H (by repeat (first | exact Pick.here | apply Pick.there))⟩
  · rintro d c _ wx ⟨rfl, F, rfl⟩ H
    dsimp only [jmpX]
    refine take_o H .here fun wx H => ?_
    simp only [List.cons_append, List.nil_append] at H
    repeat (first | refine ldI_a H ?_ | refine ldL_a H ?_ | refine ldB_a H ?_ | refine ldP_a H ?_ | refine ldS_a H ?_)
    exact ⟨rfl, keep_done H (by repeat (first | exact Pick.here | apply Pick.there))⟩
end Go.Proofs.YtbnadobjnmboiaaDoor
