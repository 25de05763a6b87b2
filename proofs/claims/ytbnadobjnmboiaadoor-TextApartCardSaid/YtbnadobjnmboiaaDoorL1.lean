/-
  text: TextApart: two plain steps that are unlike have unlike lines.
-/
import Derived.Test.YtbnadobjnmboiaaDoorWB
namespace Go.Proofs.YtbnadobjnmboiaaDoor
open Go Go.RowKit X
set_option maxRecDepth 100000
set_option linter.unusedVariables false
set_option linter.unusedSimpArgs false
set_option maxHeartbeats 1000000
theorem textApart_cv {w : World} (hL : LibAt w) (a b : St) (ha : a.Fit) (hb : b.Fit) : CV P F.crierlaw29_TextApart [stV a, stV b] w fun v w' => v = .bool true ∧ Below w.heap.size w w' := by
  refine crierlaw29_TextApart_cv ?_
  unfold crierlaw29_TextApart
  have H := keep_start w
  refine alc_o H fun b27 wx H => alc_o H fun b29 wx H => ?_
  have H : X.Own w _ [row b29 b.cells tStep, row b27 a.cells tStep, keep w] wx := H
  unfold St.cells at H
  repeat (first | refine ldI_a H ?_ | refine ldL_a H ?_ | refine ldB_a H ?_ | refine ldP_a H ?_ | refine ldS_a H ?_)
  refine call_pa H (Plain_t hL a ha) fun wx H => ?_
  have fail : ∀ b60 b104 wx L F, X.Own w (fun k => k < w.heap.size) L wx → Pick L (keep w) F → crierlaw29_TextApart_j1 (fun v w' => v = .bool true ∧ Below w.heap.size w w') b60 b104 true wx := by
    intro b60 b104 wx L F H hp
    unfold crierlaw29_TextApart_j1
    refine cnd_i (fun _ => ?_) (fun h => by cases h)
    have H : X.Own w (fun k => k < w.heap.size) (keep w :: F) wx := let ⟨S, h1, h2⟩ := H; ⟨S, hp.iff.1 h1, h2⟩
    refine call_pa H (awake_t hL) fun wx H => ?_
    exact ⟨_, rfl, rfl, keep_done H .here⟩
  cases hka : findM ⟨#[]⟩ a.kind with
  | none =>
    rw [plainV_none hka]
    refine ⟨_, _, _, _, _, _, _, _, _, _, _, _, _, _, rfl, alc_o H fun b60 wx H => ?_⟩
    unfold St.cells at H
    refine st1_a H fun wx H => ?_
    refine st1_a H fun wx H => ?_
    refine st1_a H fun wx H => ?_
    refine st1_a H fun wx H => ?_
    refine st1_a H fun wx H => ?_
    refine st1_a H fun wx H => ?_
    refine st1_a H fun wx H => ?_
    refine st1_a H fun wx H => ?_
    refine st1_a H fun wx H => ?_
    refine st1_a H fun wx H => ?_
    refine st1_a H fun wx H => ?_
    refine st1_a H fun wx H => ?_
    refine st1_a H fun wx H => ?_
    simp only [List.set_cons_zero, List.set_cons_succ] at H
    repeat (first | refine ldI_a H ?_ | refine ldL_a H ?_ | refine ldB_a H ?_ | refine ldP_a H ?_ | refine ldS_a H ?_)
    refine call_pa H (Plain_t hL b hb) fun wx H => ?_
    cases hkb : findM ⟨#[]⟩ b.kind with
    | none =>
      rw [plainV_none hkb]
      refine ⟨_, _, _, _, _, _, _, _, _, _, _, _, _, _, rfl, alc_o H fun b104 wx H => ?_⟩
      refine st1_a H fun wx H => ?_
      refine st1_a H fun wx H => ?_
      refine st1_a H fun wx H => ?_
      refine st1_a H fun wx H => ?_
      refine st1_a H fun wx H => ?_
      refine st1_a H fun wx H => ?_
      refine st1_a H fun wx H => ?_
      refine st1_a H fun wx H => ?_
      refine st1_a H fun wx H => ?_
      refine st1_a H fun wx H => ?_
      refine st1_a H fun wx H => ?_
      refine st1_a H fun wx H => ?_
      refine st1_a H fun wx H => ?_
      simp only [List.set_cons_zero, List.set_cons_succ] at H
      exact join_o (cnd_i (fun _ => fail _ _ _ _ _ H (by repeat (first | exact Pick.here | apply Pick.there))) (fun h => by cases h))
    | some k2 =>
      rw [plainV_some hkb]
      generalize plainS b k2 = q
      refine ⟨_, _, _, _, _, _, _, _, _, _, _, _, _, _, rfl, alc_o H fun b104 wx H => ?_⟩
      refine st1_a H fun wx H => ?_
      refine st1_a H fun wx H => ?_
      refine st1_a H fun wx H => ?_
      refine st1_a H fun wx H => ?_
      refine st1_a H fun wx H => ?_
      refine st1_a H fun wx H => ?_
      refine st1_a H fun wx H => ?_
      refine st1_a H fun wx H => ?_
      refine st1_a H fun wx H => ?_
      refine st1_a H fun wx H => ?_
      refine st1_a H fun wx H => ?_
      refine st1_a H fun wx H => ?_
      refine st1_a H fun wx H => ?_
      simp only [List.set_cons_zero, List.set_cons_succ] at H
      exact join_o (cnd_i (fun _ => fail _ _ _ _ _ H (by repeat (first | exact Pick.here | apply Pick.there))) (fun h => by cases h))
  | some k1 =>
    rw [plainV_some hka]
    obtain ⟨p1, p2, p3, p4⟩ := plain_is ha hka
    have pl := plain_isL ha hka
    rw [← p3] at pl
    clear p3
    generalize plainS a k1 = p at *
    refine ⟨_, _, _, _, _, _, _, _, _, _, _, _, _, _, rfl, alc_o H fun b60 wx H => ?_⟩
    refine st1_a H fun wx H => ?_
    refine st1_a H fun wx H => ?_
    refine st1_a H fun wx H => ?_
    refine st1_a H fun wx H => ?_
    refine st1_a H fun wx H => ?_
    refine st1_a H fun wx H => ?_
    refine st1_a H fun wx H => ?_
    refine st1_a H fun wx H => ?_
    refine st1_a H fun wx H => ?_
    refine st1_a H fun wx H => ?_
    refine st1_a H fun wx H => ?_
    refine st1_a H fun wx H => ?_
    refine st1_a H fun wx H => ?_
    simp only [List.set_cons_zero, List.set_cons_succ] at H
    repeat (first | refine ldI_a H ?_ | refine ldL_a H ?_ | refine ldB_a H ?_ | refine ldP_a H ?_ | refine ldS_a H ?_)
    refine call_pa H (Plain_t hL b hb) fun wx H => ?_
    cases hkb : findM ⟨#[]⟩ b.kind with
    | none =>
      rw [plainV_none hkb]
      refine ⟨_, _, _, _, _, _, _, _, _, _, _, _, _, _, rfl, alc_o H fun b104 wx H => ?_⟩
      refine st1_a H fun wx H => ?_
      refine st1_a H fun wx H => ?_
      refine st1_a H fun wx H => ?_
      refine st1_a H fun wx H => ?_
      refine st1_a H fun wx H => ?_
      refine st1_a H fun wx H => ?_
      refine st1_a H fun wx H => ?_
      refine st1_a H fun wx H => ?_
      refine st1_a H fun wx H => ?_
      refine st1_a H fun wx H => ?_
      refine st1_a H fun wx H => ?_
      refine st1_a H fun wx H => ?_
      refine st1_a H fun wx H => ?_
      simp only [List.set_cons_zero, List.set_cons_succ] at H
      exact join_o (cnd_i (fun h => by cases h) fun _ => fail _ _ _ _ _ H (by repeat (first | exact Pick.here | apply Pick.there)))
    | some k2 =>
      rw [plainV_some hkb]
      obtain ⟨q1, q2, q3, q4⟩ := plain_is hb hkb
      have ql := plain_isL hb hkb
      rw [← q3] at ql
      clear q3
      generalize plainS b k2 = q at *
      refine ⟨_, _, _, _, _, _, _, _, _, _, _, _, _, _, rfl, alc_o H fun b104 wx H => ?_⟩
      refine st1_a H fun wx H => ?_
      refine st1_a H fun wx H => ?_
      refine st1_a H fun wx H => ?_
      refine st1_a H fun wx H => ?_
      refine st1_a H fun wx H => ?_
      refine st1_a H fun wx H => ?_
      refine st1_a H fun wx H => ?_
      refine st1_a H fun wx H => ?_
      refine st1_a H fun wx H => ?_
      refine st1_a H fun wx H => ?_
      refine st1_a H fun wx H => ?_
      refine st1_a H fun wx H => ?_
      refine st1_a H fun wx H => ?_
      simp only [List.set_cons_zero, List.set_cons_succ] at H
      refine join_o (cnd_i (fun h => by cases h) fun _ => ?_)
      show crierlaw29_TextApart_j1 _ _ _ false _
      unfold crierlaw29_TextApart_j1
      refine cnd_i (fun h => by cases h) fun _ => ?_
      repeat (first | refine ldI_a H ?_ | refine ldL_a H ?_ | refine ldB_a H ?_ | refine ldP_a H ?_ | refine ldS_a H ?_)
      refine call_pa H (Print_t hL.pow p p1) fun wx H => ?_
      rw [printV_some p2]
      refine ⟨_, _, rfl, ?_⟩
      repeat (first | refine ldI_a H ?_ | refine ldL_a H ?_ | refine ldB_a H ?_ | refine ldP_a H ?_ | refine ldS_a H ?_)
      refine call_pa H (Print_t hL.pow q q1) fun wx H => ?_
      rw [printV_some q2]
      refine ⟨_, _, rfl, join_o ?_⟩
      refine call_pa H (awake_t hL) fun wx H => ?_
      refine ⟨_, rfl, cnd_i (fun _ => ?_) (fun h => by cases h)⟩
      repeat (first | refine ldI_a H ?_ | refine ldL_a H ?_ | refine ldB_a H ?_ | refine ldP_a H ?_ | refine ldS_a H ?_)
      refine st_eq (c := p) (d := q) ?_
      rw [bytes_beq]
      unfold crierlaw29_TextApart_j0
      refine ⟨?_, keep_done H (by repeat (first | exact Pick.here | apply Pick.there))⟩
      congr 1
      rw [beq_iff_eq]
      have e : (p = q) ↔ ((⟨(printL p k1).toArray⟩ : ByteArray).data.toList = (⟨(printL q k2).toArray⟩ : ByteArray).data.toList) := by
        constructor
        · rintro rfl
          rw [p2] at q2
          cases q2
          rfl
        · intro h
          have h2 : (⟨(printL p k1).toArray⟩ : ByteArray) = ⟨(printL q k2).toArray⟩ := bytes_ext h
          rw [h2] at pl
          exact line_inj p1 q1 pl ql
      rw [decide_eq_decide]
      exact e
end Go.Proofs.YtbnadobjnmboiaaDoor
