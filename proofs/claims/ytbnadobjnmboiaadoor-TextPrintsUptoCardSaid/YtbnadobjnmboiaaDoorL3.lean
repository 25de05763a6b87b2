/-
  text: TextPrints: a step's line, and the plain step of any step, is what the document says; a line is a step's just if it is printed as it.
-/
import Derived.Test.YtbnadobjnmboiaaDoorWB
namespace Go.Proofs.YtbnadobjnmboiaaDoor
open Go Go.RowKit X
set_option maxRecDepth 100000
set_option linter.unusedVariables false
set_option linter.unusedSimpArgs false
set_option maxHeartbeats 1000000
theorem st0_fit : st0.Fit := by unfold st0 St.Fit I64; decide
theorem refPrintV_some {s : St} {k : Nat} (h : findM ⟨#[]⟩ s.kind = some k) : refPrintV s = .tuple [strV (printL s k), .bool true].toArray := by unfold refPrintV; rw [h]
theorem refPrintV_none {s : St} (h : findM ⟨#[]⟩ s.kind = none) : refPrintV s = .tuple [.string ⟨#[]⟩, .bool false].toArray := by unfold refPrintV; rw [h]
theorem refPlainV_some {s : St} {k : Nat} (h : findM ⟨#[]⟩ s.kind = some k) : refPlainV s = .tuple [stV (plainS s k), .bool true].toArray := by unfold refPlainV; rw [h]
theorem refPlainV_none {s : St} (h : findM ⟨#[]⟩ s.kind = none) : refPlainV s = .tuple [stV st0, .bool false].toArray := by unfold refPlainV; rw [h]
theorem st0_none : findM ⟨#[]⟩ st0.kind = none := by
  cases h : findM ⟨#[]⟩ st0.kind with
  | none => rfl
  | some k => have h2 : st0.kind = 0 := rfl; have := (find_kind h).2; omega
theorem textPrints_cv {w : World} (hL : LibAt w) (s : St) (hs : s.Fit) (line : ByteArray) (hl : line.size < 4294967281) : CV P F.crierlaw29_TextPrints [stV s, .string line] w fun v w' => v = .bool true ∧ Below w.heap.size w w' := by
  refine crierlaw29_TextPrints_cv ?_
  unfold crierlaw29_TextPrints
  have H := keep_start w
  refine alc_o H fun b15 wx H => ?_
  have H : X.Own w _ [row b15 s.cells tStep, keep w] wx := H
  refine call_pa H (awake_t hL) fun wx H => ?_
  refine ⟨_, rfl, cnd_i (fun h => by cases h) fun _ => ?_⟩
  have rest : ∀ wx, X.Own w (fun k => k < w.heap.size) [keep w] wx → crierlaw29_TextPrints_j1 line (fun v w' => v = .bool true ∧ Below w.heap.size w w') true false wx := by
    intro wx H
    unfold crierlaw29_TextPrints_j1
    refine cnd_i (fun h => by cases h) fun _ => ?_
    refine call_oa H (Parse_t hL line hl) fun vx L' wx hq H => ?_
    obtain ⟨⟨d, e, rfl, hend⟩, rfl⟩ := hq
    simp only [List.cons_append, List.nil_append] at H
    refine ⟨_, _, _, _, _, _, _, _, _, _, _, _, _, _, rfl, alc_o H fun b161 wx H => ?_⟩
    refine st1_a H fun wx H => ?_
    refine st1_a H fun wx H => ?_
    refine st1_a H fun wx H => ?_
    refine st1_a H fun wx H => ?_
    refine st1_a H fun wx H => ?_
    refine st1_a H fun wx H => ?_
    refine st1_a H fun wx H => ?_
    refine st1_a H fun wx H => ?_
    refine st1_a H fun wx H => ?_
    refine st1_a H fun wx H => ?_
    refine st1_a H fun wx H => ?_
    refine st1_a H fun wx H => ?_
    refine st1_a H fun wx H => ?_
    simp only [List.set_cons_zero, List.set_cons_succ] at H
    repeat (first | refine ldI_a H ?_ | refine ldL_a H ?_ | refine ldB_a H ?_ | refine ldP_a H ?_ | refine ldS_a H ?_)
    rcases hend with ⟨rfl, hf, k, k1, k2, k3⟩ | ⟨rfl, rfl, hno⟩
    · refine call_pa H (RefPrint_t hL.pow d hf) fun wx H => ?_
      rw [refPrintV_some k1, k3]
      refine ⟨_, _, rfl, join_o (cnd_i (fun _ => cnd_i (fun _ => cnd_i (fun _ => ?_) (fun h => by cases h)) (fun h => by cases h)) (fun h => by cases h))⟩
      rw [bytes_beq, decide_eq_true (by simp)]
      refine cnd_i (fun _ => ?_) (fun h => by cases h)
      unfold crierlaw29_TextPrints_j0
      exact ⟨rfl, keep_done H (by repeat (first | exact Pick.here | apply Pick.there))⟩
    · refine call_pa H (RefPrint_t hL.pow st0 st0_fit) fun wx H => ?_
      rw [refPrintV_none st0_none]
      refine ⟨_, _, rfl, join_o (cnd_i (fun _ => cnd_i (fun h => by cases h) fun _ => cnd_i (fun _ => ?_) (fun h => by cases h)) (fun h => by cases h))⟩
      repeat (first | refine ldI_a H ?_ | refine ldL_a H ?_ | refine ldB_a H ?_ | refine ldP_a H ?_ | refine ldS_a H ?_)
      refine st_eq (c := st0) (d := st0) ?_
      unfold crierlaw29_TextPrints_j0
      exact ⟨by rw [decide_eq_true rfl], keep_done H (by repeat (first | exact Pick.here | apply Pick.there))⟩
  unfold St.cells at H
  repeat (first | refine ldI_a H ?_ | refine ldL_a H ?_ | refine ldB_a H ?_ | refine ldP_a H ?_ | refine ldS_a H ?_)
  refine call_pa H (Print_t hL.pow s hs) fun wx H => ?_
  cases hk : findM ⟨#[]⟩ s.kind with
  | none =>
    rw [printV_none hk]
    refine ⟨_, _, rfl, ?_⟩
    repeat (first | refine ldI_a H ?_ | refine ldL_a H ?_ | refine ldB_a H ?_ | refine ldP_a H ?_ | refine ldS_a H ?_)
    refine call_pa H (RefPrint_t hL.pow s hs) fun wx H => ?_
    rw [refPrintV_none hk]
    refine ⟨_, _, rfl, ?_⟩
    repeat (first | refine ldI_a H ?_ | refine ldL_a H ?_ | refine ldB_a H ?_ | refine ldP_a H ?_ | refine ldS_a H ?_)
    refine call_pa H (Plain_t hL s hs) fun wx H => ?_
    rw [plainV_none hk]
    refine ⟨_, _, _, _, _, _, _, _, _, _, _, _, _, _, rfl, alc_o H fun b83 wx H => ?_⟩
    refine st1_a H fun wx H => ?_
    refine st1_a H fun wx H => ?_
    refine st1_a H fun wx H => ?_
    refine st1_a H fun wx H => ?_
    refine st1_a H fun wx H => ?_
    refine st1_a H fun wx H => ?_
    refine st1_a H fun wx H => ?_
    refine st1_a H fun wx H => ?_
    refine st1_a H fun wx H => ?_
    refine st1_a H fun wx H => ?_
    refine st1_a H fun wx H => ?_
    refine st1_a H fun wx H => ?_
    refine st1_a H fun wx H => ?_
    simp only [List.set_cons_zero, List.set_cons_succ] at H
    repeat (first | refine ldI_a H ?_ | refine ldL_a H ?_ | refine ldB_a H ?_ | refine ldP_a H ?_ | refine ldS_a H ?_)
    refine call_pa H (RefPlain_t (W := w) s) fun wx H => ?_
    rw [refPlainV_none hk]
    refine ⟨_, _, _, _, _, _, _, _, _, _, _, _, _, _, rfl, alc_o H fun b127 wx H => ?_⟩
    refine st1_a H fun wx H => ?_
    refine st1_a H fun wx H => ?_
    refine st1_a H fun wx H => ?_
    refine st1_a H fun wx H => ?_
    refine st1_a H fun wx H => ?_
    refine st1_a H fun wx H => ?_
    refine st1_a H fun wx H => ?_
    refine st1_a H fun wx H => ?_
    refine st1_a H fun wx H => ?_
    refine st1_a H fun wx H => ?_
    refine st1_a H fun wx H => ?_
    refine st1_a H fun wx H => ?_
    refine st1_a H fun wx H => ?_
    simp only [List.set_cons_zero, List.set_cons_succ] at H
    refine join_o ?_
    rw [bytes_beq, decide_eq_true rfl]
    refine cnd_i (fun h => by cases h) fun _ => ?_
    refine call_pa H (Known_t false 280) fun wx H => ?_
    refine ⟨_, rfl, cnd_i (fun h => by cases h) fun _ => ?_⟩
    repeat (first | refine ldI_a H ?_ | refine ldL_a H ?_ | refine ldB_a H ?_ | refine ldP_a H ?_ | refine ldS_a H ?_)
    refine st_ne (c := st0) (d := st0) ?_
    rw [decide_eq_true rfl]
    refine cnd_i (fun h => by cases h) fun _ => ?_
    refine call_pa H (Known_t false 280) fun wx H => ?_
    refine ⟨_, rfl, ?_⟩
    exact rest _ (H.dp)
  | some k =>
    rw [printV_some hk]
    refine ⟨_, _, rfl, ?_⟩
    repeat (first | refine ldI_a H ?_ | refine ldL_a H ?_ | refine ldB_a H ?_ | refine ldP_a H ?_ | refine ldS_a H ?_)
    refine call_pa H (RefPrint_t hL.pow s hs) fun wx H => ?_
    rw [refPrintV_some hk]
    refine ⟨_, _, rfl, ?_⟩
    repeat (first | refine ldI_a H ?_ | refine ldL_a H ?_ | refine ldB_a H ?_ | refine ldP_a H ?_ | refine ldS_a H ?_)
    refine call_pa H (Plain_t hL s hs) fun wx H => ?_
    rw [plainV_some hk]
    have hrp := refPlainV_some hk
    generalize plainS s k = p at *
    refine ⟨_, _, _, _, _, _, _, _, _, _, _, _, _, _, rfl, alc_o H fun b83 wx H => ?_⟩
    refine st1_a H fun wx H => ?_
    refine st1_a H fun wx H => ?_
    refine st1_a H fun wx H => ?_
    refine st1_a H fun wx H => ?_
    refine st1_a H fun wx H => ?_
    refine st1_a H fun wx H => ?_
    refine st1_a H fun wx H => ?_
    refine st1_a H fun wx H => ?_
    refine st1_a H fun wx H => ?_
    refine st1_a H fun wx H => ?_
    refine st1_a H fun wx H => ?_
    refine st1_a H fun wx H => ?_
    refine st1_a H fun wx H => ?_
    simp only [List.set_cons_zero, List.set_cons_succ] at H
    repeat (first | refine ldI_a H ?_ | refine ldL_a H ?_ | refine ldB_a H ?_ | refine ldP_a H ?_ | refine ldS_a H ?_)
    refine call_pa H (RefPlain_t (W := w) s) fun wx H => ?_
    rw [hrp]
    refine ⟨_, _, _, _, _, _, _, _, _, _, _, _, _, _, rfl, alc_o H fun b127 wx H => ?_⟩
    refine st1_a H fun wx H => ?_
    refine st1_a H fun wx H => ?_
    refine st1_a H fun wx H => ?_
    refine st1_a H fun wx H => ?_
    refine st1_a H fun wx H => ?_
    refine st1_a H fun wx H => ?_
    refine st1_a H fun wx H => ?_
    refine st1_a H fun wx H => ?_
    refine st1_a H fun wx H => ?_
    refine st1_a H fun wx H => ?_
    refine st1_a H fun wx H => ?_
    refine st1_a H fun wx H => ?_
    refine st1_a H fun wx H => ?_
    simp only [List.set_cons_zero, List.set_cons_succ] at H
    refine join_o ?_
    rw [bytes_beq, decide_eq_true rfl]
    refine cnd_i (fun h => by cases h) fun _ => ?_
    refine call_pa H (Known_t true 280) fun wx H => ?_
    refine ⟨_, rfl, cnd_i (fun h => by cases h) fun _ => ?_⟩
    repeat (first | refine ldI_a H ?_ | refine ldL_a H ?_ | refine ldB_a H ?_ | refine ldP_a H ?_ | refine ldS_a H ?_)
    refine st_ne (c := p) (d := p) ?_
    rw [decide_eq_true rfl]
    refine cnd_i (fun h => by cases h) fun _ => ?_
    refine call_pa H (Known_t true 280) fun wx H => ?_
    refine ⟨_, rfl, ?_⟩
    exact rest _ (H.dp)
end Go.Proofs.YtbnadobjnmboiaaDoor
