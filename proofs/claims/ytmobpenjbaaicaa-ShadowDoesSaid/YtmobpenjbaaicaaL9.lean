/-
  shadow: an act, of both; a script of acts; the document's examples.
-/
import Derived.Test.YtmobpenjbaaicaaL8
import Derived.Test.YtmobpenjbaaicaaA6
import Derived.Test.YtmobpenjbaaicaaA4
namespace Go.Proofs.Ytmobpenjbaaicaa
open Go Go.RowKit X
set_option maxRecDepth 100000
set_option linter.unusedVariables false
set_option linter.unusedSimpArgs false
set_option maxHeartbeats 1000000
/-- what a script does: an act, a device, an event -/
abbrev Act25 := Int × Int × Int
def actC (x : Act25) : List Value := [.int .i64 x.1, .int .i64 x.2.1, .int .i64 x.2.2]
variable {many : Int} {A B : List (Int × Int)}
noncomputable def stepM (many : Int) (A B : List (Int × Int)) (x : Act25) : List (Int × Int) × List (Int × Int) :=
  if x.1 = 1 then (bindR many A B x.2.1 x.2.2).2 else if x.1 = 2 then (freeM A B x.2.1 x.2.2).2 else (A, B)
theorem Inv.step (h : Inv many A B) (x : Act25) : Inv many (stepM many A B x).1 (stepM many A B x).2 := by
  unfold stepM
  split
  · exact h.bind _ _
  · split
    · exact h.free _ _
    · exact h
theorem does_t (h : Inv many A B) (b n k br : Nat) (x : Act25) : Tri P F.crierlaw25_does [bptr b, bptr br, .agg (actC x).toArray] (refI br (refOf many B) :: shL b n k many A B)
    fun v L' => v = .bool true ∧ L' = refI br (refOf many (stepM many A B x).2) :: shL b n k many (stepM many A B x).1 (stepM many A B x).2 := by
  intro w S hS
  obtain ⟨a, d, e⟩ := x
  refine crierlaw25_does_cv ?_
  unfold crierlaw25_does stepM
  have H := Own.start hS
  refine alc_o H fun b6 wx H => ?_
  dsimp only
  repeat (first | refine ldI_o H (by repeat (first | exact Pick.here | apply Pick.there)) (by rfl) ?_ | refine ldL_o H (by repeat (first | exact Pick.here | apply Pick.there)) (by rfl) ?_ | refine ldB_o H (by repeat (first | exact Pick.here | apply Pick.there)) (by rfl) ?_ | refine ldP_o H (by repeat (first | exact Pick.here | apply Pick.there)) (by rfl) ?_ | refine ldS_o H (by repeat (first | exact Pick.here | apply Pick.there)) (by rfl) ?_)
  by_cases h1 : a = 1
  · simp only [h1, if_true]
    refine cnd_i (fun _ => ?_) (fun h => by cases h)
    repeat (first | refine ldI_o H (by repeat (first | exact Pick.here | apply Pick.there)) (by rfl) ?_ | refine ldL_o H (by repeat (first | exact Pick.here | apply Pick.there)) (by rfl) ?_ | refine ldB_o H (by repeat (first | exact Pick.here | apply Pick.there)) (by rfl) ?_ | refine ldP_o H (by repeat (first | exact Pick.here | apply Pick.there)) (by rfl) ?_ | refine ldS_o H (by repeat (first | exact Pick.here | apply Pick.there)) (by rfl) ?_)
    refine call_o H (bind_i h b n k d e) (by repeat (first | exact Cut.nil | (apply Cut.cons; (repeat (first | exact Pick.here | apply Pick.there))))) fun vx L' wx hq H => ?_
    obtain ⟨rfl, rfl⟩ := hq
    simp only [List.cons_append, List.nil_append] at H
    refine ⟨_, _, rfl, ?_⟩
    repeat (first | refine ldI_o H (by repeat (first | exact Pick.here | apply Pick.there)) (by rfl) ?_ | refine ldL_o H (by repeat (first | exact Pick.here | apply Pick.there)) (by rfl) ?_ | refine ldB_o H (by repeat (first | exact Pick.here | apply Pick.there)) (by rfl) ?_ | refine ldP_o H (by repeat (first | exact Pick.here | apply Pick.there)) (by rfl) ?_ | refine ldS_o H (by repeat (first | exact Pick.here | apply Pick.there)) (by rfl) ?_)
    refine call_o H (ref_bind_t h br d e) (by repeat (first | exact Cut.nil | (apply Cut.cons; (repeat (first | exact Pick.here | apply Pick.there))))) fun vx L' wx hq H => ?_
    obtain ⟨rfl, rfl⟩ := hq
    simp only [List.cons_append, List.nil_append] at H
    refine ⟨_, _, rfl, join_o (cnd_i (fun _ => ?_) fun hc => ?_)⟩
    · unfold crierlaw25_does_j0
      refine ⟨_, ⟨by simp, rfl⟩, H.drop (by repeat (first | exact Cut.nil | (apply Cut.cons; (repeat (first | exact Pick.here | apply Pick.there)))))⟩
    · simp at hc
  · refine cnd_i (fun hc => absurd (by simpa using hc) h1) fun _ => ?_
    by_cases h2 : a = 2
    · simp only [h2, if_true]
      refine cnd_i (fun _ => ?_) (fun h => by cases h)
      repeat (first | refine ldI_o H (by repeat (first | exact Pick.here | apply Pick.there)) (by rfl) ?_ | refine ldL_o H (by repeat (first | exact Pick.here | apply Pick.there)) (by rfl) ?_ | refine ldB_o H (by repeat (first | exact Pick.here | apply Pick.there)) (by rfl) ?_ | refine ldP_o H (by repeat (first | exact Pick.here | apply Pick.there)) (by rfl) ?_ | refine ldS_o H (by repeat (first | exact Pick.here | apply Pick.there)) (by rfl) ?_)
      refine call_o H (free_t b n k many A B d e) (by repeat (first | exact Cut.nil | (apply Cut.cons; (repeat (first | exact Pick.here | apply Pick.there))))) fun vx L' wx hq H => ?_
      obtain ⟨rfl, rfl⟩ := hq
      simp only [List.cons_append, List.nil_append] at H
      refine ⟨_, _, rfl, ?_⟩
      repeat (first | refine ldI_o H (by repeat (first | exact Pick.here | apply Pick.there)) (by rfl) ?_ | refine ldL_o H (by repeat (first | exact Pick.here | apply Pick.there)) (by rfl) ?_ | refine ldB_o H (by repeat (first | exact Pick.here | apply Pick.there)) (by rfl) ?_ | refine ldP_o H (by repeat (first | exact Pick.here | apply Pick.there)) (by rfl) ?_ | refine ldS_o H (by repeat (first | exact Pick.here | apply Pick.there)) (by rfl) ?_)
      refine call_o H (ref_free_t h br d e) (by repeat (first | exact Cut.nil | (apply Cut.cons; (repeat (first | exact Pick.here | apply Pick.there))))) fun vx L' wx hq H => ?_
      obtain ⟨rfl, rfl⟩ := hq
      simp only [List.cons_append, List.nil_append] at H
      refine ⟨_, _, rfl, join_o (cnd_i (fun _ => ?_) fun hc => ?_)⟩
      · unfold crierlaw25_does_j1
        refine ⟨_, ⟨by simp, rfl⟩, H.drop (by repeat (first | exact Cut.nil | (apply Cut.cons; (repeat (first | exact Pick.here | apply Pick.there)))))⟩
      · simp at hc
    · refine cnd_i (fun hc => absurd (by simpa using hc) h2) fun _ => ?_
      rw [if_neg h1, if_neg h2]
      exact ⟨_, ⟨rfl, rfl⟩, H.drop (by repeat (first | exact Cut.nil | (apply Cut.cons; (repeat (first | exact Pick.here | apply Pick.there)))))⟩
theorem ref_new_t (many : Int) : Tri P F.crierref25_New [.int .i64 many] [] fun v L' => if 0 ≤ many ∧ many ≤ 512 then ∃ b, v = .tuple [bptr b, .bool true].toArray ∧ L' = [refI b (refOf many [])] else v = .tuple [.pointer none, .bool false].toArray ∧ L' = [] := by
  intro w S hS
  refine crierref25_New_cv ?_
  unfold crierref25_New
  have H := Own.start hS
  refine join_o ?_
  have out : ∀ x, x = decide (¬ (0 ≤ many ∧ many ≤ 512)) → crierref25_New_j1 many (fun v w' => ∃ L', (if 0 ≤ many ∧ many ≤ 512 then ∃ b, v = .tuple [bptr b, .bool true].toArray ∧ L' = [refI b (refOf many [])] else v = .tuple [.pointer none, .bool false].toArray ∧ L' = []) ∧ X.Own w S L' w') x w := by
    rintro _ rfl
    unfold crierref25_New_j1
    refine cnd_i (fun h => ?_) fun h => ?_
    · have h := of_decide_eq_true h
      refine ⟨[], ?_, H.drop (by repeat (first | exact Cut.nil | (apply Cut.cons; (repeat (first | exact Pick.here | apply Pick.there)))))⟩
      rw [if_neg h]; exact ⟨rfl, rfl⟩
    · have h := of_decide_eq_false h
      have h : 0 ≤ many ∧ many ≤ 512 := by omega
      refine alc_o H fun b wx H => ?_
      have H := own_nil (e := tInt) (size := 1) H
      have H := own_nil (e := tInt) (size := 1) H
      refine loop_o (fun (st : Int) L => ∃ (i : Nat) (p q : Option Addr) (c c2 : Nat), (i : Int) ≤ many ∧ st = i ∧ L = [row b [.slice p i c, .slice q i c2] T.t61, own tInt 1 (.slice p i c) i (i64s (List.replicate i (-1))), own tInt 1 (.slice q i c2) i (i64s (List.replicate i (-1)))]) (fun (st : Int) => (many - st).toNat)
        (H.drop (L1 := [row b [.slice none 0 0, .slice none 0 0] T.t61, own tInt 1 (.slice none 0 0) 0 [], own tInt 1 (.slice none 0 0) 0 []]) (by repeat (first | exact Cut.nil | (apply Cut.cons; (repeat (first | exact Pick.here | apply Pick.there)))))) ⟨0, none, none, 0, 0, by omega, rfl, rfl⟩ ?_
      rintro _ _ wx ⟨i, p, q, c, c2, hi, rfl, rfl⟩ H
      unfold crierref25_New_l0
      refine cnd_i (fun hc => ?_) fun hc => ?_
      · have hc := of_decide_eq_true hc
        repeat (first | refine ldI_o H (by repeat (first | exact Pick.here | apply Pick.there)) (by rfl) ?_ | refine ldL_o H (by repeat (first | exact Pick.here | apply Pick.there)) (by rfl) ?_ | refine ldB_o H (by repeat (first | exact Pick.here | apply Pick.there)) (by rfl) ?_ | refine ldP_o H (by repeat (first | exact Pick.here | apply Pick.there)) (by rfl) ?_ | refine ldS_o H (by repeat (first | exact Pick.here | apply Pick.there)) (by rfl) ?_)
        refine alc_o H fun b14 wx H => ?_
        refine app_n (m := 1) (b := b14) (ys := [-1]) (t := T.t3) H (by repeat (first | exact Pick.here | apply Pick.there)) .here rfl (by omega) fun p1 c1 wx H => ?_
        refine st1_o H (by repeat (first | exact Rep.here | apply Rep.there)) (by simp) fun wx H => ?_
        simp only [List.set_cons_zero, List.set_cons_succ] at H
        repeat (first | refine ldI_o H (by repeat (first | exact Pick.here | apply Pick.there)) (by rfl) ?_ | refine ldL_o H (by repeat (first | exact Pick.here | apply Pick.there)) (by rfl) ?_ | refine ldB_o H (by repeat (first | exact Pick.here | apply Pick.there)) (by rfl) ?_ | refine ldP_o H (by repeat (first | exact Pick.here | apply Pick.there)) (by rfl) ?_ | refine ldS_o H (by repeat (first | exact Pick.here | apply Pick.there)) (by rfl) ?_)
        refine alc_o H fun b24 wx H => ?_
        refine app_n (m := 1) (b := b24) (ys := [-1]) (t := T.t3) H (by repeat (first | exact Pick.here | apply Pick.there)) .here rfl (by omega) fun p2 c3 wx H => ?_
        refine st1_o H (by repeat (first | exact Rep.here | apply Rep.there)) (by simp) fun wx H => ?_
        simp only [List.set_cons_zero, List.set_cons_succ] at H
        rw [W_id (by omega) (by omega)]
        refine ⟨⟨_, ⟨i + 1, p1, p2, c1, c3, by omega, by push_cast; rfl, rfl⟩, ?_⟩, by omega⟩
        rw [List.replicate_succ']
        exact H.drop (by repeat (first | exact Cut.nil | (apply Cut.cons; (repeat (first | exact Pick.here | apply Pick.there)))))
      · have hc := of_decide_eq_false hc
        have hi : many.toNat = i := by omega
        have e : refOf many [] = List.replicate i (-1, -1) := by
          unfold refOf
          rw [hi]
          refine List.eq_replicate_iff.2 ⟨by simp, fun x hx => ?_⟩
          obtain ⟨j, _, rfl⟩ := List.mem_map.1 hx
          simp [cellOf, lk, hasK, ks]
        refine ⟨[refI b (refOf many [])], by rw [if_pos h]; exact ⟨b, rfl, rfl⟩, ref_shut (p := p) (c := c) (q := q) (c2 := c2) ?_ (by rw [refOf_len]; omega)⟩
        rw [e]
        unfold refRows
        rw [List.length_replicate, show ks (List.replicate i (-1, -1)) = List.replicate i (-1) by simp [ks], show vs (List.replicate i (-1, -1)) = List.replicate i (-1) by simp [vs]]
        exact H
  refine cnd_i (fun h => out _ ?_) fun h => out _ ?_
  · have h := of_decide_eq_true h; exact (decide_eq_true (by omega)).symm
  · have h := of_decide_eq_false h
    rw [Bool.eq_iff_iff, decide_eq_true_eq, decide_eq_true_eq]; omega
theorem wrap_many {m : Int} (h : 0 ≤ m ∧ m ≤ 255) : IntKind.i64.wrap (Int.tmod m 41) = m % 41 := by
  rw [Int.tmod_eq_emod_of_nonneg h.1, W_id (by omega) (by omega)]
theorem played_t {W : World} {q : Option Addr} {c : Nat} {xs : List Act25} (hq : Slots W q 3 (xs.map actC)) (hl : xs.length ≤ 9223372036854775807) {m : Int} (hm : 0 ≤ m ∧ m ≤ 255) :
    Tri P F.crierlaw25_played [.int .u8 m, .slice q xs.length c] [keep W] fun v L' => ∃ b n k A B, v = bptr b ∧ Inv (m % 41) A B ∧ L' = shL b n k (m % 41) A B ++ [keep W] := by
  intro w S hS
  refine crierlaw25_played_cv ?_
  unfold crierlaw25_played
  have H := Own.start hS
  rw [wrap_many hm]
  refine ⟨by omega, ?_⟩
  refine call_o H (new_sh_t (m % 41)) (by repeat (first | exact Cut.nil | (apply Cut.cons; (repeat (first | exact Pick.here | apply Pick.there))))) fun vx L' wx hq H => ?_
  rw [if_pos (by omega)] at hq
  obtain ⟨b, n, k, rfl, rfl⟩ := hq
  simp only [List.cons_append, List.nil_append] at H
  refine ⟨_, _, rfl, by omega, ?_⟩
  refine call_o H (ref_new_t (m % 41)) (by repeat (first | exact Cut.nil | (apply Cut.cons; (repeat (first | exact Pick.here | apply Pick.there))))) fun vx L' wx hq H => ?_
  rw [if_pos (by omega)] at hq
  obtain ⟨br, rfl, rfl⟩ := hq
  simp only [List.cons_append, List.nil_append] at H
  refine ⟨_, _, rfl, ?_⟩
  refine loop_o (fun (st : Int) L => ∃ (i : Nat) (A B : List (Int × Int)), i ≤ xs.length ∧ st = i ∧ Inv (m % 41) A B ∧ L = refI br (refOf (m % 41) B) :: shL b n k (m % 41) A B ++ [keep W]) (fun (st : Int) => ((xs.length : Int) - st).toNat) H
    ⟨0, [], [], by omega, rfl, Inv.new (by omega), rfl⟩ ?_
  rintro _ _ wx ⟨i, A, B, hi, rfl, hI, rfl⟩ H
  simp only [List.cons_append, List.nil_append] at H
  unfold crierlaw25_played_l1
  refine join_o (cnd_i (fun _ => ?_) (fun h => by cases h))
  unfold crierlaw25_played_j0
  refine cnd_i (fun hc => ?_) fun hc => ⟨_, ⟨b, n, k, A, B, rfl, hI, rfl⟩, H.drop (by repeat (first | exact Cut.nil | (apply Cut.cons; (repeat (first | exact Pick.here | apply Pick.there)))))⟩
  have hc := of_decide_eq_true hc
  have hil : i < xs.length := by omega
  have hk : xs[i]? = some xs[i] := List.getElem?_eq_getElem hil
  refine ix_i hil ?_
  obtain ⟨a1, rfl, e0, e⟩ := slot_cells (Own.rdS H (i := keep W) (by repeat (first | exact Pick.here | apply Pick.there)) (keep_slots hq)) hk
  refine ⟨_, e0 _ rfl, _, e 1 _ rfl, _, e 2 _ rfl, ?_⟩
  refine call_o H (does_t hI b n k br xs[i]) (by repeat (first | exact Cut.nil | (apply Cut.cons; (repeat (first | exact Pick.here | apply Pick.there))))) fun vx L' wx hq H => ?_
  obtain ⟨rfl, rfl⟩ := hq
  simp only [List.cons_append, List.nil_append] at H
  refine ⟨_, rfl, ⟨_, ⟨i + 1, _, _, by omega, ?_, hI.step xs[i], rfl⟩, H.drop (by repeat (first | exact Cut.nil | (apply Cut.cons; (repeat (first | exact Pick.here | apply Pick.there)))))⟩, ?_⟩
  · rw [W_id (by omega) (by omega)]; push_cast; rfl
  · rw [W_id (by omega) (by omega)]; omega
theorem awake_t : Tri P F.crierlaw25_awake [] [] fun v L' => v = .bool true ∧ L' = [] := by
  intro w S hS
  refine crierlaw25_awake_cv ?_
  unfold crierlaw25_awake
  have H := Own.start hS
  refine call_o H (new_sh_t 2) (by repeat (first | exact Cut.nil | (apply Cut.cons; (repeat (first | exact Pick.here | apply Pick.there))))) fun vx L' wx hq H => ?_
  rw [if_pos (by omega)] at hq
  obtain ⟨b, n, k, rfl, rfl⟩ := hq
  simp only [List.cons_append, List.nil_append] at H
  refine ⟨_, _, rfl, join_o (cnd_i (fun h => by cases h) fun _ => ?_)⟩
  unfold crierlaw25_awake_j1
  have hL1 : Least [(0, 18)] 1 := ⟨by decide +kernel, fun j hj => by obtain rfl : j = 0 := (by omega); decide +kernel⟩
  have hL2 : Least [(0, 18), (1, 3)] 2 := ⟨by decide +kernel, fun j hj => by rcases (show j = 0 ∨ j = 1 by omega) with rfl | rfl <;> decide +kernel⟩
  refine cnd_i (fun h => by cases h) fun _ => ?_
  refine call_o H (bind_t b n k 2 [] [] 1 2 (by decide) (by decide) 0 (by decide) ⟨by decide +kernel, fun j hj => by omega⟩) (by repeat (first | exact Cut.nil | (apply Cut.cons; (repeat (first | exact Pick.here | apply Pick.there))))) fun vx L' wx hq H => ?_
  have e1 : bindM 2 [] [] 1 2 0 = ((0, 0), [(18, 0)], [(0, 18)]) := by decide +kernel
  rw [e1] at hq
  obtain ⟨rfl, rfl⟩ := hq
  simp only [List.cons_append, List.nil_append] at H
  refine ⟨_, _, rfl, ?_⟩
  refine call_o H (bind_t b n k 2 [(18, 0)] [(0, 18)] 0 3 (by decide) (by decide) 1 (by decide) hL1) (by repeat (first | exact Cut.nil | (apply Cut.cons; (repeat (first | exact Pick.here | apply Pick.there))))) fun vx L' wx hq H => ?_
  have e1 : bindM 2 [(18, 0)] [(0, 18)] 0 3 1 = ((1, 0), [(3, 1), (18, 0)], [(0, 18), (1, 3)]) := by decide +kernel
  rw [e1] at hq
  obtain ⟨rfl, rfl⟩ := hq
  simp only [List.cons_append, List.nil_append] at H
  refine ⟨_, _, rfl, ?_⟩
  refine call_o H (bind_t b n k 2 [(3, 1), (18, 0)] [(0, 18), (1, 3)] 1 3 (by decide) (by decide) 2 (by decide) hL2) (by repeat (first | exact Cut.nil | (apply Cut.cons; (repeat (first | exact Pick.here | apply Pick.there))))) fun vx L' wx hq H => ?_
  have e1 : bindM 2 [(3, 1), (18, 0)] [(0, 18), (1, 3)] 1 3 2 = ((0, 2), [(3, 1), (18, 0)], [(0, 18), (1, 3)]) := by decide +kernel
  rw [e1] at hq
  obtain ⟨rfl, rfl⟩ := hq
  simp only [List.cons_append, List.nil_append] at H
  refine ⟨_, _, rfl, ?_⟩
  refine call_o H (free_t b n k 2 [(3, 1), (18, 0)] [(0, 18), (1, 3)] 1 2) (by repeat (first | exact Cut.nil | (apply Cut.cons; (repeat (first | exact Pick.here | apply Pick.there))))) fun vx L' wx hq H => ?_
  have e1 : freeM [(3, 1), (18, 0)] [(0, 18), (1, 3)] 1 2 = ((0, 0), [(3, 1)], [(1, 3)]) := by decide +kernel
  rw [e1] at hq
  obtain ⟨rfl, rfl⟩ := hq
  simp only [List.cons_append, List.nil_append] at H
  refine ⟨_, _, rfl, ?_⟩
  refine call_o H (bind_t b n k 2 [(3, 1)] [(1, 3)] 5 5 (by decide) (by decide) 0 (by decide) ⟨by decide +kernel, fun j hj => by omega⟩) (by repeat (first | exact Cut.nil | (apply Cut.cons; (repeat (first | exact Pick.here | apply Pick.there))))) fun vx L' wx hq H => ?_
  have e1 : bindM 2 [(3, 1)] [(1, 3)] 5 5 0 = ((0, 0), [(3, 1), (85, 0)], [(0, 85), (1, 3)]) := by decide +kernel
  rw [e1] at hq
  obtain ⟨rfl, rfl⟩ := hq
  simp only [List.cons_append, List.nil_append] at H
  refine ⟨_, _, rfl, ?_⟩
  refine call_p H (event_sh_t b n k 2 [(3, 1), (85, 0)] [(0, 85), (1, 3)] 1 (fun _ => by decide +kernel)) (by repeat (first | exact Cut.nil | (apply Cut.cons; (repeat (first | exact Pick.here | apply Pick.there))))) fun wx H => ?_
  have e1 : evR [(0, 85), (1, 3)] 1 = ((0, 3), 0) := by decide +kernel
  rw [e1]
  refine ⟨_, _, _, rfl, alc_o H fun b33 wx H => ?_⟩
  refine st1_o H (by repeat (first | exact Rep.here | apply Rep.there)) (by simp) fun wx H => ?_
  refine st1_o H (by repeat (first | exact Rep.here | apply Rep.there)) (by simp) fun wx H => ?_
  simp only [List.set_cons_zero, List.set_cons_succ] at H
  refine join_o (cnd_i (fun _ => cnd_i (fun _ => cnd_i (fun _ => cnd_i (fun _ => cnd_i (fun _ => ?_) (fun h => by cases h)) (fun h => by cases h)) (fun h => by cases h)) (fun h => by cases h)) (fun h => by cases h))
  repeat (first | refine ldI_o H (by repeat (first | exact Pick.here | apply Pick.there)) (by rfl) ?_ | refine ldL_o H (by repeat (first | exact Pick.here | apply Pick.there)) (by rfl) ?_ | refine ldB_o H (by repeat (first | exact Pick.here | apply Pick.there)) (by rfl) ?_ | refine ldP_o H (by repeat (first | exact Pick.here | apply Pick.there)) (by rfl) ?_ | refine ldS_o H (by repeat (first | exact Pick.here | apply Pick.there)) (by rfl) ?_)
  refine eqA_eql (r := true) (by kernel_rfl) (by kernel_rfl) (by kernel_rfl) (by rfl) (cnd_i (fun _ => cnd_i (fun _ => ?_) (fun h => by cases h)) (fun h => by cases h))
  refine call_p H (len_sh_t b n k 2 [(3, 1), (85, 0)] [(0, 85), (1, 3)]) (by repeat (first | exact Cut.nil | (apply Cut.cons; (repeat (first | exact Pick.here | apply Pick.there))))) fun wx H => ?_
  refine ⟨_, rfl, ?_⟩
  unfold crierlaw25_awake_j0
  exact ⟨_, ⟨by simp, rfl⟩, H.drop (by repeat (first | exact Cut.nil | (apply Cut.cons; (repeat (first | exact Pick.here | apply Pick.there)))))⟩
end Go.Proofs.Ytmobpenjbaaicaa
