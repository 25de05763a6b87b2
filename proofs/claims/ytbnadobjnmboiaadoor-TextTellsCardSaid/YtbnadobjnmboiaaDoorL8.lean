/-
  text: TextTells: a script whose text may be made has one line for each step; a step of no kind is told.
-/
import Derived.Test.YtbnadobjnmboiaaDoorL7
namespace Go.Proofs.YtbnadobjnmboiaaDoor
open Go Go.RowKit X
set_option maxRecDepth 100000
set_option linter.unusedVariables false
set_option linter.unusedSimpArgs false
set_option maxHeartbeats 1000000
theorem Text_k {W : World} (hT : PowAt W) {p : Option Addr} {c : Nat} {xs : List St} (hx : Slots W p 13 (xs.map St.cells)) (hf : ∀ x ∈ xs, x.Fit) (hn : xs.length * 104 ≤ 140737488355328) :
    Tri P F.text_Text [.slice p xs.length c] [keep W] fun v L' => v = textV xs ∧ L' = [keep W] :=
  Tri.of_pure fun w S hS => Text_cv (hT.keep (sep_one.1 hS)) (keep_slots hx _ _ (sep_one.1 hS)) hf hn
theorem textTells_cv {w : World} (hL : LibAt w) {p : Option Addr} {c : Nat} {xs : List St} (hx : Slots w p 13 (xs.map St.cells)) (hf : ∀ x ∈ xs, x.Fit) (hn : xs.length * 104 ≤ 140737488355328) :
    CV P F.crierlaw29_TextTells [.slice p xs.length c] w fun v w' => v = .bool true ∧ Below w.heap.size w w' := by
  refine crierlaw29_TextTells_cv ?_
  unfold crierlaw29_TextTells
  have H := keep_start w
  refine alc_o H fun b4 wx H => ?_
  refine call_pa H (awake_t hL) fun wx H => ?_
  refine ⟨_, rfl, cnd_i (fun h => by cases h) fun _ => ?_⟩
  refine call_pa H (Text_k hL.pow (c := c) hx hf hn) fun wx H => ?_
  obtain ⟨s13, n14, hv, hcase⟩ : ∃ (s13 : List UInt8) (n14 : Int), textV xs = .tuple [strV s13, .int .i64 n14].toArray ∧ ((allLines xs = true ∧ s13 = textL xs ∧ n14 = 0) ∨ (allLines xs = false ∧ s13 = [] ∧ n14 = 280)) := by
    unfold textV
    by_cases h : allLines xs = true
    · rw [if_pos h]; exact ⟨_, _, rfl, .inl ⟨h, rfl, rfl⟩⟩
    · rw [if_neg h]; exact ⟨[], _, rfl, .inr ⟨by simpa using h, rfl, rfl⟩⟩
  rw [hv]
  refine ⟨_, _, rfl, ?_⟩
  refine loop_o (fun (st : Int) L => ∃ i : Nat, (i : Int) = st ∧ i ≤ xs.length ∧ (∀ x ∈ xs.take i, lineM x ≠ none) ∧ L = [row b4 [.bool false] T.t4, keep w]) (fun (st : Int) => ((xs.length : Int) - st).toNat) H ⟨0, rfl, by omega, fun x hx => by simp at hx, rfl⟩ ?_
  clear H
  rintro _ _ wx ⟨i, rfl, hi, hall, rfl⟩ H
  unfold crierlaw29_TextTells_l3
  refine cnd_i (fun hc => ?_) fun hc => ?_
  · have hc := of_decide_eq_true hc
    have hjj : i < xs.length := by omega
    have hxj : xs[i]? = some xs[i] := List.getElem?_eq_getElem hjj
    have hfj := hf _ (List.getElem_mem hjj)
    refine ix_i hjj ?_
    obtain ⟨a1, rfl, e0, ee⟩ := slot_cells (Own.rdS H (i := keep w) (by repeat (first | exact Pick.here | apply Pick.there)) (keep_slots hx)) hxj
    dsimp only [nn]
    refine ⟨_, e0 _ rfl, ⟨_, ee 1 _ rfl, ⟨_, ee 2 _ rfl, ⟨_, ee 3 _ rfl, ⟨_, ee 4 _ rfl, ⟨_, ee 5 _ rfl, ⟨_, ee 6 _ rfl, ⟨_, ee 7 _ rfl, ⟨_, ee 8 _ rfl, ⟨_, ee 9 _ rfl, ⟨_, ee 10 _ rfl, ⟨_, ee 11 _ rfl, ⟨_, ee 12 _ rfl, ?_⟩⟩⟩⟩⟩⟩⟩⟩⟩⟩⟩⟩⟩
    have htk : ∀ x ∈ xs.take (i + 1), x = xs[i] ∨ x ∈ xs.take i := by
      intro x hx
      rw [List.take_succ_eq_append_getElem hjj] at hx
      rcases List.mem_append.1 hx with h | h
      · exact .inr h
      · exact .inl (by simpa using h)
    have hmem : xs[i] ∈ xs := List.getElem_mem hjj
    clear e0 ee hx
    generalize xs[i] = s at *
    refine call_pa H (Print_t hL.pow s hfj) fun wx H => ?_
    rw [printV_eq]
    cases hl : lineM s with
    | none =>
      refine ⟨_, _, rfl, cnd_i (fun _ => ?_) (fun h => by cases h)⟩
      rcases hcase with ⟨h, _⟩ | ⟨h, rfl, rfl⟩
      · exact absurd hl (allLines_iff.1 h s hmem)
      · refine join_o (cnd_i (fun _ => cnd_i (fun _ => ?_) (fun h => by cases h)) (fun h => by cases h))
        refine st1_a H fun wx H => ?_
        simp only [List.set_cons_zero] at H
        unfold crierlaw29_TextTells_j0
        repeat (first | refine ldI_a H ?_ | refine ldL_a H ?_ | refine ldB_a H ?_ | refine ldP_a H ?_ | refine ldS_a H ?_)
        refine ⟨?_, keep_done H (by repeat (first | exact Pick.here | apply Pick.there))⟩
        rw [bytes_beq]; rfl
    | some l =>
      refine ⟨_, _, rfl, cnd_i (fun h => by cases h) fun _ => ?_⟩
      rw [W_id (by omega) (by omega)]
      refine ⟨⟨_, ⟨i + 1, by push_cast; rfl, by omega, fun x hx => ?_, rfl⟩, H⟩, by omega⟩
      rcases htk x hx with rfl | h
      · rw [hl]; simp
      · exact hall x h
  · have hc := of_decide_eq_false hc
    obtain rfl : i = xs.length := by omega
    rw [List.take_length] at hall
    rcases hcase with ⟨-, rfl, rfl⟩ | ⟨h, _⟩
    · refine alc_o H fun b46 wx H => ?_
      refine st1_a H fun wx H => ?_
      simp only [List.set_cons_zero] at H
      refine call_oa H (Lines_t ⟨(textL xs).toArray⟩) fun vx L' wx hq H => ?_
      obtain ⟨bL, rfl, rfl⟩ := hq
      simp only [List.cons_append, List.nil_append] at H
      refine ⟨_, rfl, ?_⟩
      obtain ⟨hsl, hsa⟩ := say_text hall
      have htl := textL_len hf
      have H := H.drop (L1 := [row b46 [.int .i64 0] T.t3, row b4 [.bool false] T.t4, keep w] ++ [row bL [strV (textL xs)] tStr]) (by simp only [List.cons_append, List.nil_append]; exact (by repeat (first | exact Cut.nil | (apply Cut.cons; (repeat (first | exact Pick.here | apply Pick.there))))))
      refine rf_f (fun m L' => L' = [row b46 [.int .i64 ((m : Nat) : Int)] T.t3, row b4 [.bool false] T.t4, keep w]) (fun _ _ => False) lines_enters (lines_it bL (textL xs) (by omega)) (sayV_len _) H rfl ?_ ?_ ?_
      · clear H
        rintro m x _ F l r d wx Q2 hx2 rfl H hgo hdone
        unfold sayV at hx2
        rw [List.getElem?_map] at hx2
        obtain ⟨y, hy, rfl⟩ := Option.map_eq_some_iff.1 hx2
        have hml := (List.getElem?_eq_some_iff.1 hy).1
        obtain ⟨l', -, hl'⟩ := hsa m _ (List.getElem?_eq_getElem (show m < xs.length by omega))
        rw [hy] at hl'
        cases hl'
        unfold crierlaw29_TextTells_r1
        dsimp only [X.b2]
        simp only [List.cons_append, List.nil_append] at H
        refine ⟨_, rfl, rec_o H .here fun wx H => ?_⟩
        repeat (first | refine ldI_a H ?_ | refine ldL_a H ?_ | refine ldB_a H ?_ | refine ldP_a H ?_ | refine ldS_a H ?_)
        refine st1_a H fun wx H => ?_
        simp only [List.set_cons_zero] at H
        rw [W_id (by omega) (by omega)] at H
        repeat (first | refine ldI_a H ?_ | refine ldL_a H ?_ | refine ldB_a H ?_ | refine ldP_a H ?_ | refine ldS_a H ?_)
        have e1 : ((((m + 1 : Nat) : Int)) != (m : Int) + 1) = false := by simp
        rw [e1]
        refine cnd_i (fun h => by cases h) fun _ => rec_o H .here fun wx H => ?_
        exact hgo _ wx rfl H
      · rintro d _ wx rfl H
        dsimp only [jmpX]
        have e : (sayV (textL xs)).length = xs.length := by unfold sayV; rw [List.length_map, hsl]
        rw [e] at H
        refine join_o ?_
        repeat (first | refine ldI_a H ?_ | refine ldL_a H ?_ | refine ldB_a H ?_ | refine ldP_a H ?_ | refine ldS_a H ?_)
        refine st1_a H fun wx H => ?_
        simp only [List.set_cons_zero] at H
        unfold crierlaw29_TextTells_j2
        refine take_o H .here fun wx H => ?_
        repeat (first | refine ldI_a H ?_ | refine ldL_a H ?_ | refine ldB_a H ?_ | refine ldP_a H ?_ | refine ldS_a H ?_)
        exact ⟨by simp, keep_done H (by repeat (first | exact Pick.here | apply Pick.there))⟩
      · rintro d c _ wx h
        exact h.elim
    · rw [allLines_iff.2 hall] at h
      cases h
end Go.Proofs.YtbnadobjnmboiaaDoor
