/-
  cmd: the document's words of a command: the walk.
-/
import Derived.Test.YtggmapokmlbgbaaDoorE7
namespace Go.Proofs.YtggmapokmlbgbaaDoor
open Go Go.RowKit X
set_option maxRecDepth 100000
set_option linter.unusedVariables false
set_option linter.unusedSimpArgs false
set_option maxHeartbeats 1000000
theorem foldl_len (fs : List Fd) : ∀ ws : List Int, (fs.foldl insF ws).length = ws.length := by
  induction fs with
  | nil => intro ws; rfl
  | cons f fs ih => intro ws; rw [List.foldl_cons, ih, insF_length]
theorem refEncode_t (c : Cm) (hI : -9223372036854775808 ≤ c.addr ∧ c.addr ≤ 9223372036854775807) : Tri P F.crierref16_Encode [cmV c] [] fun v L' => v = refV c ∧ L' = [] := by
  intro w S hS
  refine crierref16_Encode_cv ?_
  unfold crierref16_Encode
  have H := Own.start hS
  refine alc_o H fun b10 wx H => alc_o H fun b12 wx H => ?_
  repeat (first | refine ldI_a H ?_ | refine ldL_a H ?_ | refine ldB_a H ?_ | refine ldP_a H ?_ | refine ldS_a H ?_)
  refine call_oa H (Fields_t c hI.2) fun vx L' wx hq H => ?_
  obtain ⟨p, cap, hq⟩ := hq
  have bad : refM c = none → ∀ L wx (p : Option Addr) (l : Nat), X.Own w S (row b12 [.int .u64 0, .int .u64 0, .int .u64 0, .int .u64 0] tW4 :: L) wx → crierref16_Encode_j2 (fun v w' => ∃ L', (v = refV c ∧ L' = []) ∧ X.Own w S L' w') b10 b12 p l true wx := by
    intro hb L wx p l H
    unfold crierref16_Encode_j2
    refine cnd_i (fun _ => ?_) (fun h => by cases h)
    refine st1_o H .here (by simp) fun wx H => st1_o H .here (by simp) fun wx H => st1_o H .here (by simp) fun wx H => st1_o H .here (by simp) fun wx H => ?_
    refine ldI_o H .here rfl (ldI_o H .here rfl (ldI_o H .here rfl (ldI_o H .here rfl ?_)))
    exact ⟨[], ⟨by unfold refV; rw [hb]; rfl, rfl⟩, H.drop .nil⟩
  cases hA : badA c with
  | true =>
    rw [if_pos hA] at hq
    obtain ⟨rfl, rfl⟩ := hq
    simp only [List.cons_append, List.nil_append] at H
    refine ⟨_, _, _, _, rfl, join_o (cnd_i (fun _ => ?_) (fun h => by cases h))⟩
    exact bad (by unfold refM; rw [hA]; rfl) _ _ _ _ H
  | false =>
    rw [if_neg (by rw [hA]; decide)] at hq
    obtain ⟨rfl, rfl⟩ := hq
    simp only [List.cons_append, List.nil_append] at H
    refine ⟨_, _, _, _, rfl, join_o ?_⟩
    by_cases hr : ¬ (rst c 8 = cm0)
    · refine cnd_i (fun _ => ?_) (fun h => by rw [decide_eq_false hr] at h; cases h)
      exact bad (by unfold refM; rw [hA, decide_eq_false hr]; rfl) _ _ _ _ (H.perm (L1 := [row b12 [.int .u64 0, .int .u64 0, .int .u64 0, .int .u64 0] tW4]) (by repeat (first | exact Cut.nil | (apply Cut.cons; (repeat (first | exact Pick.here | apply Pick.there))))))
    have hr := Classical.not_not.1 hr
    refine cnd_i (fun h => by rw [decide_eq_true hr] at h; cases h) fun _ => ?_
    repeat (first | refine ldI_a H ?_ | refine ldL_a H ?_ | refine ldB_a H ?_ | refine ldP_a H ?_ | refine ldS_a H ?_)
    refine call_pa H (refKnown_t c.op) fun wx H => ?_
    refine ⟨_, rfl, ?_⟩
    cases hk : knownB c.op with
    | false => exact bad (by unfold refM; rw [hA, decide_eq_true hr, hk]; rfl) _ _ _ _ (H.perm (L1 := [row b12 [.int .u64 0, .int .u64 0, .int .u64 0, .int .u64 0] tW4]) (by repeat (first | exact Cut.nil | (apply Cut.cons; (repeat (first | exact Pick.here | apply Pick.there))))))
    | true =>
      unfold crierref16_Encode_j2
      refine cnd_i (fun h => by cases h) fun _ => ?_
      repeat (first | refine ldI_a H ?_ | refine ldL_a H ?_ | refine ldB_a H ?_ | refine ldP_a H ?_ | refine ldS_a H ?_)
      refine alc_o H fun b41 wx H => ?_
      refine st1_a H fun wx H => ?_
      refine st1_a H fun wx H => ?_
      refine st1_a H fun wx H => ?_
      refine st1_a H fun wx H => ?_
      have hlen := fsK_len c 8
      have hbase : refM c = if (fsK c 8).any badF = true then none else some ((fsK c 8).foldl insF [IntKind.u64.wrap c.op, 0, 0, 0]) := by
        unfold refM
        rw [hA, decide_eq_true hr, hk, if_neg (by decide), wP_fold]
      generalize hfs : fsK c 8 = fs at *
      have hw : ∀ (ws : List Int), ws.length = 4 → ∀ f ∈ fs, f.1 < 4 := by
        intro ws _ f hf
        rw [← hfs] at hf
        unfold fsK at hf
        obtain ⟨k, _, rfl⟩ := List.mem_map.1 hf
        exact pw_lt _ _
      refine loop_o (fun (st : Int) L => ∃ k : Nat, k ≤ fs.length ∧ (∀ (j : Nat) f, j < k → fs[j]? = some f → badF f = false) ∧ st = k ∧ L = [row b41 (wI ((fs.take k).foldl insF [IntKind.u64.wrap c.op, 0, 0, 0])) tW4, own tFd 4 (.slice p fs.length cap) fs.length (flatF fs), row b12 [.int .u64 0, .int .u64 0, .int .u64 0, .int .u64 0] tW4])
        (fun (st : Int) => ((fs.length : Int) - st).toNat) (H.dp) ⟨0, by omega, fun _ _ h => absurd h (by omega), rfl, rfl⟩ ?_
      rintro _ _ wx ⟨k, hk2, hg, rfl, rfl⟩ H
      unfold crierref16_Encode_l1
      have hl4 : ((fs.take k).foldl insF [IntKind.u64.wrap c.op, 0, 0, 0]).length = 4 := by rw [foldl_len]; rfl
      refine cnd_i (fun hc => ?_) fun hc => ?_
      · have hc := of_decide_eq_true hc
        have hlt : k < fs.length := by omega
        obtain ⟨f, hf⟩ : ∃ f, fs[k]? = some f := ⟨_, List.getElem?_eq_getElem hlt⟩
        refine ix_i hlt ?_
        obtain ⟨a1, rfl, e0, ee⟩ := slot_cells (Own.rdS H (i := own tFd 4 (.slice p fs.length cap) fs.length (flatF fs)) (by repeat (first | exact Pick.here | apply Pick.there)) ownF_slots) hf
        dsimp only [nn]
        refine ⟨_, e0 _ rfl, ⟨_, ee 1 _ rfl, ⟨_, ee 2 _ rfl, ⟨_, ee 3 _ rfl, ?_⟩⟩⟩⟩
        refine alc_o H fun b57 wx H => ?_
        refine st1_a H fun wx H => ?_
        refine st1_a H fun wx H => ?_
        refine st1_a H fun wx H => ?_
        refine st1_a H fun wx H => ?_
        refine join_o ?_
        refine drw_o H fun wx H => ?_
        repeat (first | refine ldI_a H ?_ | refine ldL_a H ?_ | refine ldB_a H ?_ | refine ldP_a H ?_ | refine ldS_a H ?_)
        have e1 : IntKind.i64.wrap ((k : Int) + 1) = ((k + 1 : Nat) : Int) := by rw [W_id (by omega) (by omega)]; push_cast; rfl
        have fin : ∀ bb : Bool, bb = badF f → crierref16_Encode_j0 (fun v w' => ∃ L', (v = refV c ∧ L' = []) ∧ X.Own w S L' w') b12 b41 (k : Int) (fun (s' : Int) w' => (∃ L', (∃ k : Nat, k ≤ fs.length ∧ (∀ (j : Nat) f, j < k → fs[j]? = some f → badF f = false) ∧ s' = k ∧ L' = [row b41 (wI ((fs.take k).foldl insF [IntKind.u64.wrap c.op, 0, 0, 0])) tW4, own tFd 4 (.slice (some a1) fs.length cap) fs.length (flatF fs), row b12 [.int .u64 0, .int .u64 0, .int .u64 0, .int .u64 0] tW4]) ∧ X.Own w S L' w') ∧ ((fs.length : Int) - s').toNat < ((fs.length : Int) - (k : Int)).toNat) b57 bb wx := by
          intro bb hbb
          unfold crierref16_Encode_j0
          refine cnd_i (fun h => ?_) fun h => ?_
          · have hn : refM c = none := by
              rw [hbase, if_pos (List.any_eq_true.2 ⟨f, List.mem_of_getElem? hf, by rw [← hbb, h]⟩)]
            refine st1_a H fun wx H => ?_
            refine st1_a H fun wx H => ?_
            refine st1_a H fun wx H => ?_
            refine st1_a H fun wx H => ?_
            repeat (first | refine ldI_a H ?_ | refine ldL_a H ?_ | refine ldB_a H ?_ | refine ldP_a H ?_ | refine ldS_a H ?_)
            exact ⟨_, ⟨by unfold refV; rw [hn]; rfl, rfl⟩, H.dp⟩
          · refine drw_o H fun wx H => ?_
            have hf4 := hw _ hl4 f (List.mem_of_getElem? hf)
            repeat (first | refine ldI_a H ?_ | refine ldL_a H ?_ | refine ldB_a H ?_ | refine ldP_a H ?_ | refine ldS_a H ?_)
            refine ix_i hf4 ?_
            rw [add_lit, Nat.mul_one, Nat.zero_add]
            refine ldI_o H (by repeat (first | exact Pick.here | apply Pick.there)) (wI_get (by rw [hl4]; exact hf4)) ?_
            repeat (first | refine ldI_a H ?_ | refine ldL_a H ?_ | refine ldB_a H ?_ | refine ldP_a H ?_ | refine ldS_a H ?_)
            refine ⟨by omega, ix_i hf4 ?_⟩
            rw [add_lit, Nat.mul_one, Nat.zero_add]
            refine st1_o H (by repeat (first | exact Rep.here | apply Rep.there)) (by rw [wI_length, hl4]; exact hf4) fun wx H => ?_
            rw [e1]
            refine ⟨⟨[row b41 (wI ((fs.take (k + 1)).foldl insF [IntKind.u64.wrap c.op, 0, 0, 0])) tW4, own tFd 4 (.slice (some a1) fs.length cap) fs.length (flatF fs), row b12 [.int .u64 0, .int .u64 0, .int .u64 0, .int .u64 0] tW4], ⟨k + 1, by omega, ?_, rfl, rfl⟩, ?_⟩, by omega⟩
            · intro j f' hj hf'
              by_cases e : j = k
              · subst e; rw [hf] at hf'; cases hf'; rw [← hbb, h]
              · exact hg j f' (by omega) hf'
            · have e2 : (fs.take (k + 1)).foldl insF [IntKind.u64.wrap c.op, 0, 0, 0] = insF ((fs.take k).foldl insF [IntKind.u64.wrap c.op, 0, 0, 0]) f := by
                obtain ⟨h1, h2⟩ := List.getElem?_eq_some_iff.1 hf
                rw [List.take_succ_eq_append_getElem h1, List.foldl_append, h2]; rfl
              rw [e2]
              unfold insF insP
              rw [← wI_set]
              exact H.dp
        refine cnd_i (fun h => fin _ (by unfold badF; rw [h]; rfl)) fun h => ?_
        repeat (first | refine ldI_a H ?_ | refine ldL_a H ?_ | refine ldB_a H ?_ | refine ldP_a H ?_ | refine ldS_a H ?_)
        refine ⟨by omega, fin _ (by unfold badF; rw [h]; rfl)⟩
      · have hc := of_decide_eq_false hc
        have : k = fs.length := by omega
        subst this
        rw [List.take_length] at H hl4
        obtain ⟨x0, x1, x2, x3, hx⟩ := four hl4
        have hn : refM c = some [x0, x1, x2, x3] := by
          rw [hbase, if_neg, hx]
          intro ha
          obtain ⟨f, hf, hbf⟩ := List.any_eq_true.1 ha
          obtain ⟨j, hj, e⟩ := List.mem_iff_getElem.1 hf
          rw [hg j f hj (by rw [List.getElem?_eq_getElem hj, e])] at hbf
          cases hbf
        rw [hx] at H
        repeat (first | refine ldI_a H ?_ | refine ldL_a H ?_ | refine ldB_a H ?_ | refine ldP_a H ?_ | refine ldS_a H ?_)
        refine st1_a H fun wx H => ?_
        refine st1_a H fun wx H => ?_
        refine st1_a H fun wx H => ?_
        refine st1_a H fun wx H => ?_
        repeat (first | refine ldI_a H ?_ | refine ldL_a H ?_ | refine ldB_a H ?_ | refine ldP_a H ?_ | refine ldS_a H ?_)
        exact ⟨_, ⟨by unfold refV; rw [hn]; rfl, rfl⟩, H.dp⟩
end Go.Proofs.YtggmapokmlbgbaaDoor
