/-
  cmd: the document's command of four words, the walk; a command in the document's memory.
-/
import Derived.Test.YtggmapokmlbgbaaDoorE9
import Derived.Test.YtggmapokmlbgbaaDoorMA
namespace Go.Proofs.YtggmapokmlbgbaaDoor
open Go Go.RowKit X
set_option maxRecDepth 100000
set_option linter.unusedVariables false
set_option linter.unusedSimpArgs false
set_option maxHeartbeats 1000000
def refDecV (ws : List Int) : Value := match decM ws with
  | some c => .tuple [cmV c, .bool true].toArray
  | none => .tuple [cmV cm0, .bool false].toArray
theorem put_addr (c : Cm) (n : Int) (k : Nat) : (c.put n k).addr = c.addr ∨ ∃ m, (c.put n k).addr = IntKind.i64.wrap m := by
  unfold Cm.put
  split <;> first | exact .inl rfl | exact .inr ⟨_, rfl⟩
theorem fold_addr (o : Int) (ws : List Int) : ∀ (ks : List Nat) (c : Cm), (-9223372036854775808 ≤ c.addr ∧ c.addr ≤ 9223372036854775807) → -9223372036854775808 ≤ (ks.foldl (stP o ws) c).addr ∧ (ks.foldl (stP o ws) c).addr ≤ 9223372036854775807
  | [], c, h => h
  | k :: ks, c, h => by
    rw [List.foldl_cons]
    refine fold_addr o ws ks _ ?_
    unfold stP
    rcases put_addr c (ext (ws.getD (pw o k) 0) (pf o k) (ps o k)) k with e | ⟨m, e⟩
    · rw [e]; exact h
    · rw [e]; exact W_range m
theorem refDecode_t (a0 a1 a2 a3 : Int) (ha : ∀ x ∈ [a0, a1, a2, a3], 0 ≤ x ∧ x < 2 ^ 64) : Tri P F.crierref16_Decode [.agg (wI [a0, a1, a2, a3]).toArray] [] fun v L' => v = refDecV [a0, a1, a2, a3] ∧ L' = [] := by
  intro w S hS
  refine crierref16_Decode_cv ?_
  unfold crierref16_Decode
  have H := Own.start hS
  have h0 := ha a0 (by simp)
  refine alc_o H fun b5 wx H => alc_o H fun b7 wx H => ix_i (i := 0) (by omega) ?_
  rw [add_lit]
  repeat (first | refine ldI_a H ?_ | refine ldL_a H ?_ | refine ldB_a H ?_ | refine ldP_a H ?_ | refine ldS_a H ?_)
  refine ⟨by omega, alc_o H fun b11 wx H => ?_⟩
  refine st1_a H fun wx H => ?_
  refine st1_a H fun wx H => ?_
  refine st1_a H fun wx H => ?_
  refine st1_a H fun wx H => ?_
  refine st1_a H fun wx H => ?_
  refine st1_a H fun wx H => ?_
  refine st1_a H fun wx H => ?_
  refine st1_a H fun wx H => ?_
  refine st1_a H fun wx H => ?_
  have e0 : IntKind.i64.wrap (Int.tmod a0 256) = (cd [a0, a1, a2, a3] 0).op := by
    rw [cd_zero, low8 h0.1 h0.2, Int.tmod_eq_emod_of_nonneg h0.1, W_id (by omega) (by omega)]
  rw [e0] at H
  generalize hws : [a0, a1, a2, a3] = ws at *
  have hl : ws.length = 4 := by rw [← hws]; rfl
  have hc0 : cd ws 0 = ⟨(cd ws 0).op, 0, 0, 0, 0, 0, 0, 0, false⟩ := by rw [← hws]; rfl
  generalize ho : (cd ws 0).op = o at *
  repeat (first | refine ldI_a H ?_ | refine ldL_a H ?_ | refine ldB_a H ?_ | refine ldP_a H ?_ | refine ldS_a H ?_)
  refine alc_o H fun b23 wx H => ?_
  refine st1_a H fun wx H => ?_
  refine st1_a H fun wx H => ?_
  refine st1_a H fun wx H => ?_
  refine st1_a H fun wx H => ?_
  refine st1_a H fun wx H => ?_
  refine st1_a H fun wx H => ?_
  refine st1_a H fun wx H => ?_
  refine st1_a H fun wx H => ?_
  refine st1_a H fun wx H => ?_
  repeat (first | refine ldI_a H ?_ | refine ldL_a H ?_ | refine ldB_a H ?_ | refine ldP_a H ?_ | refine ldS_a H ?_)
  have hd : refDecV ws = if knownB o = true then (if encM (cd ws 8) = some ws then .tuple [cmV (cd ws 8), .bool true].toArray else .tuple [cmV cm0, .bool false].toArray) else .tuple [cmV cm0, .bool false].toArray := by
    have hk8 : (cd ws 8).op = o := by rw [cd_op, ho]
    unfold refDecV decM
    by_cases hk : knownB o = true
    · rw [if_pos hk]; split <;> split <;> simp_all
    · rw [if_neg hk]
      have : encM (cd ws 8) = none := by
        unfold encM badC
        rw [hk8, show knownB o = false by simpa using hk]; rfl
      rw [this, if_neg (by simp)]
  refine call_oa H (Fields_t ⟨o, 0, 0, 0, 0, 0, 0, 0, false⟩ (by show (0 : Int) ≤ 9223372036854775807; decide)) fun vx L' wx hq H => ?_
  obtain ⟨p, cap, hq⟩ := hq
  rw [if_neg (by unfold badA; simp)] at hq
  obtain ⟨rfl, rfl⟩ := hq
  simp only [List.cons_append, List.nil_append] at H
  refine ⟨_, _, _, _, rfl, ?_⟩
  repeat (first | refine ldI_a H ?_ | refine ldL_a H ?_ | refine ldB_a H ?_ | refine ldP_a H ?_ | refine ldS_a H ?_)
  refine call_pa H (refKnown_t o) fun wx H => ?_
  refine ⟨_, rfl, ?_⟩
  cases hk : knownB o with
  | false =>
    refine cnd_i (fun _ => ?_) (fun h => by cases h)
    refine st1_a H fun wx H => ?_
    refine st1_a H fun wx H => ?_
    refine st1_a H fun wx H => ?_
    refine st1_a H fun wx H => ?_
    refine st1_a H fun wx H => ?_
    refine st1_a H fun wx H => ?_
    refine st1_a H fun wx H => ?_
    refine st1_a H fun wx H => ?_
    refine st1_a H fun wx H => ?_
    repeat (first | refine ldI_a H ?_ | refine ldL_a H ?_ | refine ldB_a H ?_ | refine ldP_a H ?_ | refine ldS_a H ?_)
    exact ⟨_, ⟨by rw [hd, hk]; rfl, rfl⟩, H.dp⟩
  | true =>
    refine cnd_i (fun h => by cases h) fun _ => ?_
    have hfs : fsK ⟨o, 0, 0, 0, 0, 0, 0, 0, false⟩ 8 = ((List.range 8).filter (ph o)).map (fdOf ⟨o, 0, 0, 0, 0, 0, 0, 0, false⟩) := rfl
    have hcd : cd ws 8 = ((List.range 8).filter (ph o)).foldl (stP o ws) (cd ws 0) := by rw [cd_fold, ho]
    have hks : ∀ (j : Nat) k, ((List.range 8).filter (ph o))[j]? = some k → k < 8 ∧ ph o k = true := by
      intro j k h
      have := List.mem_filter.1 (List.mem_of_getElem? h)
      exact ⟨List.mem_range.1 this.1, this.2⟩
    have hlen : ((List.range 8).filter (ph o)).length ≤ 8 := by
      have := List.length_filter_le (ph o) (List.range 8)
      rw [List.length_range] at this; exact this
    rw [hfs] at H ⊢
    generalize (List.range 8).filter (ph o) = ks at *
    have hml : (ks.map (fdOf ⟨o, 0, 0, 0, 0, 0, 0, 0, false⟩)).length = ks.length := List.length_map _
    have hfa := fold_addr o ws
    rw [hml] at H ⊢
    have H := H.drop (L1 := [row b11 (ks.take 0 |>.foldl (stP o ws) (cd ws 0)).cells tCmd, own tFd 4 (.slice p ks.length cap) ks.length (flatF (ks.map (fdOf ⟨o, 0, 0, 0, 0, 0, 0, 0, false⟩))), row b7 [.int .i64 0, .int .i64 0, .int .i64 0, .int .i64 0, .int .i64 0, .int .i64 0, .int .i64 0, .int .i64 0, .bool false] tCmd, row b5 (wI ws) tW4]) (by
      rw [List.take_zero, List.foldl_nil, hc0, ← hws]; exact (by repeat (first | exact Cut.nil | (apply Cut.cons; (repeat (first | exact Pick.here | apply Pick.there))))))
    refine loop_o (fun (st : Int) L => ∃ j : Nat, j ≤ ks.length ∧ st = j ∧ L = [row b11 (ks.take j |>.foldl (stP o ws) (cd ws 0)).cells tCmd, own tFd 4 (.slice p ks.length cap) ks.length (flatF (ks.map (fdOf ⟨o, 0, 0, 0, 0, 0, 0, 0, false⟩))), row b7 [.int .i64 0, .int .i64 0, .int .i64 0, .int .i64 0, .int .i64 0, .int .i64 0, .int .i64 0, .int .i64 0, .bool false] tCmd, row b5 (wI ws) tW4])
      (fun (st : Int) => ((ks.length : Int) - st).toNat) H ⟨0, by omega, rfl, rfl⟩ ?_
    rintro _ _ wx ⟨j, hj, rfl, rfl⟩ H
    unfold crierref16_Decode_l4
    refine cnd_i (fun hc => ?_) fun hc => ?_
    · have hc := of_decide_eq_true hc
      have hlt : j < ks.length := by omega
      obtain ⟨k, hk2⟩ : ∃ k, ks[j]? = some k := ⟨_, List.getElem?_eq_getElem hlt⟩
      obtain ⟨hk8, hph⟩ := hks j k hk2
      have hf : (ks.map (fdOf ⟨o, 0, 0, 0, 0, 0, 0, 0, false⟩))[j]? = some (fdOf ⟨o, 0, 0, 0, 0, 0, 0, 0, false⟩ k) := by rw [List.getElem?_map, hk2]; rfl
      refine ix_i hlt ?_
      obtain ⟨x1, rfl, e1, ee⟩ := slot_cells (Own.rdS H (i := own tFd 4 (.slice p ks.length cap) ks.length (flatF (ks.map (fdOf ⟨o, 0, 0, 0, 0, 0, 0, 0, false⟩)))) (by repeat (first | exact Pick.here | apply Pick.there)) ownF_slots) hf
      dsimp only [nn]
      refine ⟨_, e1 _ rfl, ⟨_, ee 1 _ rfl, ⟨_, ee 2 _ rfl, ⟨_, ee 3 _ rfl, ?_⟩⟩⟩⟩
      refine alc_o H fun b81 wx H => ?_
      refine st1_a H fun wx H => ?_
      refine st1_a H fun wx H => ?_
      refine st1_a H fun wx H => ?_
      refine st1_a H fun wx H => ?_
      refine drw_o H fun wx H => ?_
      repeat (first | refine ldI_a H ?_ | refine ldL_a H ?_ | refine ldB_a H ?_ | refine ldP_a H ?_ | refine ldS_a H ?_)
      refine ix_i (pw_lt o k) ?_
      rw [add_lit, Nat.mul_one, Nat.zero_add]
      refine ldI_o H (by repeat (first | exact Pick.here | apply Pick.there)) (wI_get (by rw [hl]; exact pw_lt _ _)) ?_
      repeat (first | refine ldI_a H ?_ | refine ldL_a H ?_ | refine ldB_a H ?_ | refine ldP_a H ?_ | refine ldS_a H ?_)
      have hwr : 0 ≤ ws.getD (pw o k) 0 ∧ ws.getD (pw o k) 0 < 2 ^ 64 := by
        refine ha _ ?_
        rw [List.getD_eq_getElem?_getD, List.getElem?_eq_getElem (by rw [hl]; exact pw_lt _ _)]
        exact List.getElem_mem _
      refine call_pa H (part_t (n := ws.getD (pw o k) 0) (f := pf o k) (s := ps o k) hwr (pf_lt o k) (by have := ps_le o k; omega)) fun wx H => ?_
      refine ⟨_, rfl, join_o ?_⟩
      refine asg (J97 := fun (_ : crierref16_Decode_J32403.S) w129 => crierref16_Decode_j0 (j : Int) _ w129) (o := o) (k := k) (n := ext (ws.getD (pw o k) 0) (pf o k) (ps o k)) (c := ks.take j |>.foldl (stP o ws) (cd ws 0)) hk8 hph H .here fun wx H => ?_
      unfold crierref16_Decode_j0
      have e1' : IntKind.i64.wrap ((j : Int) + 1) = ((j + 1 : Nat) : Int) := by rw [W_id (by omega) (by omega)]; push_cast; rfl
      rw [e1']
      refine ⟨⟨_, ⟨j + 1, by omega, rfl, rfl⟩, ?_⟩, by omega⟩
      have e2 : (ks.take (j + 1)).foldl (stP o ws) (cd ws 0) = stP o ws ((ks.take j).foldl (stP o ws) (cd ws 0)) k := by
        obtain ⟨h1, h2⟩ := List.getElem?_eq_some_iff.1 hk2
        rw [List.take_succ_eq_append_getElem h1, List.foldl_append, h2]; rfl
      rw [e2]
      exact H.dp
    · have hc := of_decide_eq_false hc
      have : j = ks.length := by omega
      subst this
      rw [List.take_length, ← hcd] at H
      have hI : -9223372036854775808 ≤ (cd ws 8).addr ∧ (cd ws 8).addr ≤ 9223372036854775807 := by
        rw [hcd]
        refine hfa ks _ ?_
        rw [hc0]
        exact ⟨by show (-9223372036854775808 : Int) ≤ 0; decide, by show (0 : Int) ≤ 9223372036854775807; decide⟩
      repeat (first | refine ldI_a H ?_ | refine ldL_a H ?_ | refine ldB_a H ?_ | refine ldP_a H ?_ | refine ldS_a H ?_)
      refine call_pa H (refEncode_t (cd ws 8) hI) fun wx H => ?_
      have fin : ∀ bb : Bool, (bb = true ↔ encM (cd ws 8) ≠ some ws) → ∀ wx L, X.Own w S (row b11 (cd ws 8).cells tCmd :: row b7 [.int .i64 0, .int .i64 0, .int .i64 0, .int .i64 0, .int .i64 0, .int .i64 0, .int .i64 0, .int .i64 0, .bool false] tCmd :: L) wx →
          crierref16_Decode_j3 (fun v w' => ∃ L', (v = refDecV ws ∧ L' = []) ∧ X.Own w S L' w') b7 b11 bb wx := by
        intro bb hbb wx L H
        unfold crierref16_Decode_j3
        rw [hd, if_pos hk]
        refine cnd_i (fun h => ?_) fun h => ?_
        · rw [if_neg (hbb.1 h)]
          refine st1_a H fun wx H => ?_
          refine st1_a H fun wx H => ?_
          refine st1_a H fun wx H => ?_
          refine st1_a H fun wx H => ?_
          refine st1_a H fun wx H => ?_
          refine st1_a H fun wx H => ?_
          refine st1_a H fun wx H => ?_
          refine st1_a H fun wx H => ?_
          refine st1_a H fun wx H => ?_
          repeat (first | refine ldI_a H ?_ | refine ldL_a H ?_ | refine ldB_a H ?_ | refine ldP_a H ?_ | refine ldS_a H ?_)
          exact ⟨_, ⟨rfl, rfl⟩, H.drop .nil⟩
        · rw [if_pos (Classical.not_not.1 fun hn => by rw [hbb.2 hn] at h; cases h)]
          repeat (first | refine ldI_a H ?_ | refine ldL_a H ?_ | refine ldB_a H ?_ | refine ldP_a H ?_ | refine ldS_a H ?_)
          refine st1_a H fun wx H => ?_
          refine st1_a H fun wx H => ?_
          refine st1_a H fun wx H => ?_
          refine st1_a H fun wx H => ?_
          refine st1_a H fun wx H => ?_
          refine st1_a H fun wx H => ?_
          refine st1_a H fun wx H => ?_
          refine st1_a H fun wx H => ?_
          refine st1_a H fun wx H => ?_
          repeat (first | refine ldI_a H ?_ | refine ldL_a H ?_ | refine ldB_a H ?_ | refine ldP_a H ?_ | refine ldS_a H ?_)
          exact ⟨_, ⟨rfl, rfl⟩, H.drop .nil⟩
      have hre := ref_enc (c := cd ws 8) hI
      cases he : encM (cd ws 8) with
      | none =>
        have e : refV (cd ws 8) = .tuple [.agg [.int .u64 0, .int .u64 0, .int .u64 0, .int .u64 0].toArray, .bool false].toArray := by unfold refV; rw [hre, he]; rfl
        rw [e]
        refine ⟨_, _, _, _, _, rfl, ?_⟩
        refine alc_o H fun b146 wx H => ?_
        refine st1_a H fun wx H => ?_
        refine st1_a H fun wx H => ?_
        refine st1_a H fun wx H => ?_
        refine st1_a H fun wx H => ?_
        refine join_o (cnd_i (fun _ => ?_) (fun h => by cases h))
        exact fin true (by rw [he]; simp) _ _ (H.perm (L1 := [row b11 (cd ws 8).cells tCmd, row b7 [.int .i64 0, .int .i64 0, .int .i64 0, .int .i64 0, .int .i64 0, .int .i64 0, .int .i64 0, .int .i64 0, .bool false] tCmd]) (by repeat (first | exact Cut.nil | (apply Cut.cons; (repeat (first | exact Pick.here | apply Pick.there))))))
      | some xs =>
        obtain ⟨x0, x1, x2, x3, rfl⟩ := four (enc_range he).1
        have e : refV (cd ws 8) = .tuple [.agg [.int .u64 x0, .int .u64 x1, .int .u64 x2, .int .u64 x3].toArray, .bool true].toArray := by unfold refV; rw [hre, he]; rfl
        rw [e]
        refine ⟨_, _, _, _, _, rfl, ?_⟩
        refine alc_o H fun b146 wx H => ?_
        refine st1_a H fun wx H => ?_
        refine st1_a H fun wx H => ?_
        refine st1_a H fun wx H => ?_
        refine st1_a H fun wx H => ?_
        refine join_o (cnd_i (fun h => by cases h) fun _ => ?_)
        subst hws
        repeat (first | refine ldI_a H ?_ | refine ldL_a H ?_ | refine ldB_a H ?_ | refine ldP_a H ?_ | refine ldS_a H ?_)
        refine eq4 ?_
        exact fin _ (by rw [he]; simp only [ne_eq, Option.some.injEq, Bool.not_eq_true', decide_eq_false_iff_not]) _ _ (H.perm (L1 := [row b11 (cd [a0, a1, a2, a3] 8).cells tCmd, row b7 [.int .i64 0, .int .i64 0, .int .i64 0, .int .i64 0, .int .i64 0, .int .i64 0, .int .i64 0, .int .i64 0, .bool false] tCmd]) (by repeat (first | exact Cut.nil | (apply Cut.cons; (repeat (first | exact Pick.here | apply Pick.there))))))
end Go.Proofs.YtggmapokmlbgbaaDoor
