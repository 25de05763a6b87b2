/-
  text: TextLines: which lines of a text say something is what the document says.
-/
import Derived.Test.YtbnadobjnmboiaaDoorL4
namespace Go.Proofs.YtbnadobjnmboiaaDoor
open Go Go.RowKit X
set_option maxRecDepth 100000
set_option linter.unusedVariables false
set_option linter.unusedSimpArgs false
set_option maxHeartbeats 1000000
theorem olS_o {w w0 : World} {S0 : Nat → Prop} {L F : List It} {e : TypeId} {p : Option Addr} {n c j : Nat} {xs : List Value} {x : ByteArray} {K : ByteArray → Prop} (H : X.Own w0 S0 L w) (hp : Pick L (own e 1 (.slice p n c) n xs) F) (hj : xs[j]? = some (.string x)) (hK : K x) :
    nn p fun a => ldS (a.add (j * 1)) w K := by
  obtain ⟨a, rfl, hc⟩ := (H.sl hp).1 j _ hj
  exact ⟨x, by rw [Nat.mul_one]; exact hc, hK⟩
theorem textLines_cv {w : World} (hL : LibAt w) (s : List UInt8) (hs : s.length ≤ 8000000000000) : CV P F.crierlaw29_TextLines [strV s] w fun v w' => v = .bool true ∧ Below w.heap.size w w' := by
  refine crierlaw29_TextLines_cv ?_
  unfold crierlaw29_TextLines
  have H := keep_start w
  refine alc_o H fun b2 wx H => ?_
  refine call_pa H (awake_t hL) fun wx H => ?_
  refine ⟨_, rfl, cnd_i (fun h => by cases h) fun _ => ?_⟩
  refine call_oa H (RefLines_t s hs) fun vx L' wx hq H => ?_
  obtain ⟨p, c, q, c2, rfl, rfl⟩ := hq
  simp only [List.cons_append, List.nil_append] at H
  refine ⟨_, _, _, _, _, _, rfl, alc_o H fun b17 wx H => alc_o H fun b19 wx H => ?_⟩
  refine st1_a H fun wx H => ?_
  refine st1_a H fun wx H => ?_
  simp only [List.set_cons_zero] at H
  refine alc_o H fun b23 wx H => ?_
  refine st1_a H fun wx H => ?_
  simp only [List.set_cons_zero] at H
  refine call_oa H (Lines_t ⟨s.toArray⟩) fun vx L' wx hq H => ?_
  obtain ⟨bL, rfl, rfl⟩ := hq
  simp only [List.cons_append, List.nil_append] at H
  refine ⟨_, rfl, ?_⟩
  have hsl : (sayL s).length ≤ s.length := Nat.le_trans (sayF_len _ _) (rawL_len s)
  have H := H.drop (L1 := [row b23 [.int .i64 0] T.t3, row b2 [.bool false] T.t4, row b17 [.slice p (sayL s).length c] tNums, row b19 [.slice q (sayL s).length c2] tStrs, ownN p c (sayL s), ownL q c2 (sayL s), keep w] ++ [row bL [strV s] tStr]) (by simp only [List.cons_append, List.nil_append]; exact (by repeat (first | exact Cut.nil | (apply Cut.cons; (repeat (first | exact Pick.here | apply Pick.there))))))
  refine rf_f (fun m L' => L' = [row b23 [.int .i64 ((m : Nat) : Int)] T.t3, row b2 [.bool false] T.t4, row b17 [.slice p (sayL s).length c] tNums, row b19 [.slice q (sayL s).length c2] tStrs, ownN p c (sayL s), ownL q c2 (sayL s), keep w])
    (fun _ _ => False) lines_enters (lines_it bL s (by omega)) (sayV_len s) H rfl ?_ ?_ ?_
  · clear H
    rintro m x _ F l r d wx Q2 hx rfl H hgo hdone
    unfold sayV at hx
    rw [List.getElem?_map] at hx
    obtain ⟨y, hy, rfl⟩ := Option.map_eq_some_iff.1 hx
    have hml := (List.getElem?_eq_some_iff.1 hy).1
    unfold crierlaw29_TextLines_r1
    dsimp only [X.b2]
    simp only [List.cons_append, List.nil_append] at H
    refine ⟨_, rfl, _, rfl, rec_o H .here fun wx H => ?_⟩
    refine join_o ?_
    repeat (first | refine ldI_a H ?_ | refine ldL_a H ?_ | refine ldB_a H ?_ | refine ldP_a H ?_ | refine ldS_a H ?_)
    refine cnd_i (fun h => absurd (of_decide_eq_true h) (by omega)) fun _ => ?_
    repeat (first | refine ldI_a H ?_ | refine ldL_a H ?_ | refine ldB_a H ?_ | refine ldP_a H ?_ | refine ldS_a H ?_)
    refine ix_i hml ?_
    refine old_o H (e := tNum) (n := (sayL s).length) (c := c) (xs := numsV (sayL s)) (j := m) (k := .i64) (x := ((y.1 : Nat) : Int)) (by repeat (first | exact Pick.here | apply Pick.there)) (by unfold numsV; rw [List.getElem?_map, hy]; rfl) ?_
    have e1 : ((((y.1 : Nat) : Int)) != ((y.1 : Nat) : Int)) = false := by simp
    rw [e1]
    refine cnd_i (fun h => by cases h) fun _ => ?_
    repeat (first | refine ldI_a H ?_ | refine ldL_a H ?_ | refine ldB_a H ?_ | refine ldP_a H ?_ | refine ldS_a H ?_)
    refine ix_i hml ?_
    refine olS_o H (e := tStr) (n := (sayL s).length) (c := c2) (xs := linV (sayL s)) (j := m) (x := ⟨y.2.toArray⟩) (by repeat (first | exact Pick.here | apply Pick.there)) (by unfold linV; rw [List.getElem?_map, hy]; rfl) ?_
    rw [bytes_beq, decide_eq_true rfl]
    unfold crierlaw29_TextLines_j0
    refine cnd_i (fun h => by cases h) fun _ => ?_
    repeat (first | refine ldI_a H ?_ | refine ldL_a H ?_ | refine ldB_a H ?_ | refine ldP_a H ?_ | refine ldS_a H ?_)
    refine st1_a H fun wx H => ?_
    simp only [List.set_cons_zero] at H
    rw [W_id (by omega) (by omega)] at H
    refine rec_o H (by repeat (first | exact Rep.here | apply Rep.there)) fun wx H => ?_
    exact hgo _ wx rfl H
  · rintro d _ wx rfl H
    dsimp only [jmpX]
    have e : (sayV s).length = (sayL s).length := by unfold sayV; rw [List.length_map]
    rw [e] at H
    refine join_o (cnd_i (fun _ => ?_) (fun h => by cases h))
    repeat (first | refine ldI_a H ?_ | refine ldL_a H ?_ | refine ldB_a H ?_ | refine ldP_a H ?_ | refine ldS_a H ?_)
    refine st1_a H fun wx H => ?_
    simp only [List.set_cons_zero] at H
    unfold crierlaw29_TextLines_j2
    refine take_o H .here fun wx H => ?_
    repeat (first | refine ldI_a H ?_ | refine ldL_a H ?_ | refine ldB_a H ?_ | refine ldP_a H ?_ | refine ldS_a H ?_)
    exact ⟨by simp, keep_done H (by repeat (first | exact Pick.here | apply Pick.there))⟩
  · rintro d c _ wx h
    exact h.elim
end Go.Proofs.YtbnadobjnmboiaaDoor
