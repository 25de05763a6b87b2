/-
  text: TextBack: a plain step is read of its line as itself; what is read is plain, and printed as it stood.
-/
import Derived.Test.YtbnadobjnmboiaaDoorWB
namespace Go.Proofs.YtbnadobjnmboiaaDoor
open Go Go.RowKit X
set_option maxRecDepth 100000
set_option linter.unusedVariables false
set_option linter.unusedSimpArgs false
set_option maxHeartbeats 1000000
theorem textBack_cv {w : World} (hL : LibAt w) (s : St) (hs : s.Fit) (line : ByteArray) (hl : line.size < 4294967281) : CV P F.crierlaw29_TextBack [stV s, .string line] w fun v w' => v = .bool true ∧ Below w.heap.size w w' := by
  refine crierlaw29_TextBack_cv ?_
  unfold crierlaw29_TextBack
  have H := keep_start w
  refine alc_o H fun b15 wx H => ?_
  have H : X.Own w _ [row b15 s.cells tStep, keep w] wx := H
  refine call_pa H (awake_t hL) fun wx H => ?_
  refine ⟨_, rfl, cnd_i (fun h => by cases h) fun _ => ?_⟩
  have rest : ∀ wx, X.Own w (fun k => k < w.heap.size) [row b15 s.cells tStep, keep w] wx → crierlaw29_TextBack_j2 (fun v w' => v = .bool true ∧ Below w.heap.size w w') b15 true wx := by
    intro wx H
    unfold crierlaw29_TextBack_j2
    unfold St.cells at H
    repeat (first | refine ldI_a H ?_ | refine ldL_a H ?_ | refine ldB_a H ?_ | refine ldP_a H ?_ | refine ldS_a H ?_)
    refine call_pa H (Plain_t hL s hs) fun wx H => ?_
    cases hk : findM ⟨#[]⟩ s.kind with
    | none =>
      rw [plainV_none hk]
      refine ⟨_, _, _, _, _, _, _, _, _, _, _, _, _, _, rfl, alc_o H fun b81 wx H => ?_⟩
      refine st1_a H fun wx H => ?_
      refine st1_a H fun wx H => ?_
      refine st1_a H fun wx H => ?_
      refine st1_a H fun wx H => ?_
      refine st1_a H fun wx H => ?_
      refine st1_a H fun wx H => ?_
      refine st1_a H fun wx H => ?_
      refine st1_a H fun wx H => ?_
      refine st1_a H fun wx H => ?_
      refine st1_a H fun wx H => ?_
      refine st1_a H fun wx H => ?_
      refine st1_a H fun wx H => ?_
      refine st1_a H fun wx H => ?_
      simp only [List.set_cons_zero, List.set_cons_succ] at H
      refine cnd_i (fun _ => join_o (cnd_i (fun _ => cnd_i (fun _ => ?_) (fun h => by cases h)) (fun h => by cases h))) (fun h => by cases h)
      repeat (first | refine ldI_a H ?_ | refine ldL_a H ?_ | refine ldB_a H ?_ | refine ldP_a H ?_ | refine ldS_a H ?_)
      refine st_eq (c := st0) (d := st0) ?_
      unfold crierlaw29_TextBack_j0
      exact ⟨by rw [decide_eq_true rfl], keep_done H (by repeat (first | exact Pick.here | apply Pick.there))⟩
    | some k =>
      rw [plainV_some hk]
      obtain ⟨p1, p2, p3, p4⟩ := plain_is hs hk
      have pl := plain_isL hs hk
      have hll : (⟨(printL s k).toArray⟩ : ByteArray).size < 4294967281 := by
        rw [size_bytes]
        have h1 := line_len hs
        rw [lineM_some hk] at h1
        have h2 : (printL s k).length ≤ 117 := h1
        omega
      generalize plainS s k = p at *
      refine ⟨_, _, _, _, _, _, _, _, _, _, _, _, _, _, rfl, alc_o H fun b81 wx H => ?_⟩
      refine st1_a H fun wx H => ?_
      refine st1_a H fun wx H => ?_
      refine st1_a H fun wx H => ?_
      refine st1_a H fun wx H => ?_
      refine st1_a H fun wx H => ?_
      refine st1_a H fun wx H => ?_
      refine st1_a H fun wx H => ?_
      refine st1_a H fun wx H => ?_
      refine st1_a H fun wx H => ?_
      refine st1_a H fun wx H => ?_
      refine st1_a H fun wx H => ?_
      refine st1_a H fun wx H => ?_
      refine st1_a H fun wx H => ?_
      simp only [List.set_cons_zero, List.set_cons_succ] at H
      refine cnd_i (fun h => by cases h) fun _ => ?_
      repeat (first | refine ldI_a H ?_ | refine ldL_a H ?_ | refine ldB_a H ?_ | refine ldP_a H ?_ | refine ldS_a H ?_)
      refine call_pa H (Print_t hL.pow s hs) fun wx H => ?_
      rw [printV_some hk]
      refine ⟨_, _, rfl, ?_⟩
      repeat (first | refine ldI_a H ?_ | refine ldL_a H ?_ | refine ldB_a H ?_ | refine ldP_a H ?_ | refine ldS_a H ?_)
      refine call_pa H (Print_t hL.pow p p1) fun wx H => ?_
      rw [printV_some p2, p3]
      refine ⟨_, _, rfl, ?_⟩
      refine call_oa H (Parse_t hL ⟨(printL s k).toArray⟩ hll) fun vx L' wx hq H => ?_
      obtain ⟨⟨d, e, rfl, hend⟩, rfl⟩ := hq
      simp only [List.cons_append, List.nil_append] at H
      refine ⟨_, _, _, _, _, _, _, _, _, _, _, _, _, _, rfl, alc_o H fun b166 wx H => ?_⟩
      refine st1_a H fun wx H => ?_
      refine st1_a H fun wx H => ?_
      refine st1_a H fun wx H => ?_
      refine st1_a H fun wx H => ?_
      refine st1_a H fun wx H => ?_
      refine st1_a H fun wx H => ?_
      refine st1_a H fun wx H => ?_
      refine st1_a H fun wx H => ?_
      refine st1_a H fun wx H => ?_
      refine st1_a H fun wx H => ?_
      refine st1_a H fun wx H => ?_
      refine st1_a H fun wx H => ?_
      refine st1_a H fun wx H => ?_
      simp only [List.set_cons_zero, List.set_cons_succ] at H
      have h2 : e = 0 ∧ d = p := by
        rcases hend with ⟨h, hf, hi⟩ | ⟨_, _, hno⟩
        · exact ⟨h, line_inj hf p1 hi pl⟩
        · exact absurd pl (hno _ p1)
      obtain ⟨rfl, rfl⟩ := h2
      refine join_o (cnd_i (fun _ => cnd_i (fun _ => cnd_i (fun _ => ?_) (fun h => by cases h)) (fun h => by cases h)) (fun h => by cases h))
      rw [bytes_beq, decide_eq_true rfl]
      refine cnd_i (fun _ => cnd_i (fun _ => ?_) (fun h => by cases h)) (fun h => by cases h)
      repeat (first | refine ldI_a H ?_ | refine ldL_a H ?_ | refine ldB_a H ?_ | refine ldP_a H ?_ | refine ldS_a H ?_)
      refine st_eq (c := d) (d := d) ?_
      unfold crierlaw29_TextBack_j1
      exact ⟨by rw [decide_eq_true rfl], keep_done H (by repeat (first | exact Pick.here | apply Pick.there))⟩
  refine call_oa H (Parse_t hL line hl) fun vx L' wx hq H => ?_
  obtain ⟨⟨d, e, rfl, hend⟩, rfl⟩ := hq
  simp only [List.cons_append, List.nil_append] at H
  refine ⟨_, _, _, _, _, _, _, _, _, _, _, _, _, _, rfl, alc_o H fun b36 wx H => ?_⟩
  refine st1_a H fun wx H => ?_
  refine st1_a H fun wx H => ?_
  refine st1_a H fun wx H => ?_
  refine st1_a H fun wx H => ?_
  refine st1_a H fun wx H => ?_
  refine st1_a H fun wx H => ?_
  refine st1_a H fun wx H => ?_
  refine st1_a H fun wx H => ?_
  refine st1_a H fun wx H => ?_
  refine st1_a H fun wx H => ?_
  refine st1_a H fun wx H => ?_
  refine st1_a H fun wx H => ?_
  refine st1_a H fun wx H => ?_
  simp only [List.set_cons_zero, List.set_cons_succ] at H
  refine join_o ?_
  rcases hend with ⟨rfl, hf, k, k1, k2, k3⟩ | ⟨rfl, rfl, hno⟩
  · refine cnd_i (fun _ => ?_) (fun h => by cases h)
    repeat (first | refine ldI_a H ?_ | refine ldL_a H ?_ | refine ldB_a H ?_ | refine ldP_a H ?_ | refine ldS_a H ?_)
    refine call_pa H (Print_t hL.pow d hf) fun wx H => ?_
    rw [printV_some k1, k3]
    refine ⟨_, _, rfl, ?_⟩
    repeat (first | refine ldI_a H ?_ | refine ldL_a H ?_ | refine ldB_a H ?_ | refine ldP_a H ?_ | refine ldS_a H ?_)
    refine call_pa H (Plain_t hL d hf) fun wx H => ?_
    rw [plainV_some k1, k2]
    refine ⟨_, _, _, _, _, _, _, _, _, _, _, _, _, _, rfl, alc_o H fun b261 wx H => ?_⟩
    refine st1_a H fun wx H => ?_
    refine st1_a H fun wx H => ?_
    refine st1_a H fun wx H => ?_
    refine st1_a H fun wx H => ?_
    refine st1_a H fun wx H => ?_
    refine st1_a H fun wx H => ?_
    refine st1_a H fun wx H => ?_
    refine st1_a H fun wx H => ?_
    refine st1_a H fun wx H => ?_
    refine st1_a H fun wx H => ?_
    refine st1_a H fun wx H => ?_
    refine st1_a H fun wx H => ?_
    refine st1_a H fun wx H => ?_
    simp only [List.set_cons_zero, List.set_cons_succ] at H
    refine join_o (cnd_i (fun h => by cases h) fun _ => ?_)
    rw [bytes_beq, decide_eq_true (by simp)]
    refine cnd_i (fun h => by cases h) fun _ => cnd_i (fun h => by cases h) fun _ => ?_
    repeat (first | refine ldI_a H ?_ | refine ldL_a H ?_ | refine ldB_a H ?_ | refine ldP_a H ?_ | refine ldS_a H ?_)
    refine st_ne (c := d) (d := d) ?_
    rw [decide_eq_true rfl]
    unfold crierlaw29_TextBack_j3
    refine cnd_i (fun h => by cases h) fun _ => ?_
    exact rest _ (H.dp)
  · refine cnd_i (fun h => by cases h) fun _ => ?_
    exact rest _ (H.dp)
end Go.Proofs.YtbnadobjnmboiaaDoor
