/-
  queue: both queues are alike.
-/
import Derived.Test.YtggchklafbpgpaaL7
import Derived.Test.YtggchklafbpgpaaMA
namespace Go.Proofs.Ytggchklafbpgpaa
open Go Go.RowKit X
set_option maxRecDepth 100000
set_option linter.unusedVariables false
set_option linter.unusedSimpArgs false
set_option maxHeartbeats 1000000
theorem alike_t (m m' : Nat) (q : Qu) (hs : SmallS q) (bs : List Int) : Tri P F.crierlaw17_alike [quV q, ptr m, quV q, ptr m'] [memI m bs, memI m' bs] fun v L' => v = .bool true ∧ L' = [memI m bs, memI m' bs] := by
  intro w S hS
  refine crierlaw17_alike_cv ?_
  unfold crierlaw17_alike
  have H := Own.start hS
  refine alc_o H fun b11 wx H => alc_o H fun b13 wx H => alc_o H fun b15 wx H => alc_o H fun b17 wx H => ?_
  repeat (first | refine ldI_o H (by repeat (first | exact Pick.here | apply Pick.there)) (by rfl) ?_ | refine ldL_o H (by repeat (first | exact Pick.here | apply Pick.there)) (by rfl) ?_ | refine ldB_o H (by repeat (first | exact Pick.here | apply Pick.there)) (by rfl) ?_ | refine ldP_o H (by repeat (first | exact Pick.here | apply Pick.there)) (by rfl) ?_ | refine ldS_o H (by repeat (first | exact Pick.here | apply Pick.there)) (by rfl) ?_)
  refine call_o H (rWaits_t q hs) (by repeat (first | exact Cut.nil | (apply Cut.cons; (repeat (first | exact Pick.here | apply Pick.there))))) fun vx L' wx hq H => ?_
  obtain ⟨p, c, rfl, rfl⟩ := hq
  simp only [List.cons_append, List.nil_append] at H
  refine ⟨_, _, _, rfl, alc_o H fun b28 wx H => ?_⟩
  refine st1_o H (by repeat (first | exact Rep.here | apply Rep.there)) (by simp) fun wx H => ?_
  refine join_o ?_
  refine drw_o H fun wx H => ?_
  repeat (first | refine ldI_o H (by repeat (first | exact Pick.here | apply Pick.there)) (by rfl) ?_ | refine ldL_o H (by repeat (first | exact Pick.here | apply Pick.there)) (by rfl) ?_ | refine ldB_o H (by repeat (first | exact Pick.here | apply Pick.there)) (by rfl) ?_ | refine ldP_o H (by repeat (first | exact Pick.here | apply Pick.there)) (by rfl) ?_ | refine ldS_o H (by repeat (first | exact Pick.here | apply Pick.there)) (by rfl) ?_)
  refine call_p H (told_t q) (by repeat (first | exact Cut.nil | (apply Cut.cons; (repeat (first | exact Pick.here | apply Pick.there))))) fun wx H => ?_
  refine ⟨_, _, _, _, rfl, ldI_o H (by repeat (first | exact Pick.here | apply Pick.there)) rfl (ldI_o H (by repeat (first | exact Pick.here | apply Pick.there)) rfl (ldI_o H (by repeat (first | exact Pick.here | apply Pick.there)) rfl (ldI_o H (by repeat (first | exact Pick.here | apply Pick.there)) rfl rfl))), ?_⟩
  refine rq_ne (p := q) (q := q) (cnd_i (fun h => by simp at h) fun _ => ?_)
  repeat (first | refine ldI_o H (by repeat (first | exact Pick.here | apply Pick.there)) (by rfl) ?_ | refine ldL_o H (by repeat (first | exact Pick.here | apply Pick.there)) (by rfl) ?_ | refine ldB_o H (by repeat (first | exact Pick.here | apply Pick.there)) (by rfl) ?_ | refine ldP_o H (by repeat (first | exact Pick.here | apply Pick.there)) (by rfl) ?_ | refine ldS_o H (by repeat (first | exact Pick.here | apply Pick.there)) (by rfl) ?_)
  refine call_p H (Left_t q) (by repeat (first | exact Cut.nil | (apply Cut.cons; (repeat (first | exact Pick.here | apply Pick.there))))) fun wx H => ?_
  rw [left_cnt hs]
  refine ⟨_, rfl, rfl, ldL_o H (by repeat (first | exact Pick.here | apply Pick.there)) rfl rfl, cnd_i (fun h => by simp at h) fun _ => ?_⟩
  repeat (first | refine ldI_o H (by repeat (first | exact Pick.here | apply Pick.there)) (by rfl) ?_ | refine ldL_o H (by repeat (first | exact Pick.here | apply Pick.there)) (by rfl) ?_ | refine ldB_o H (by repeat (first | exact Pick.here | apply Pick.there)) (by rfl) ?_ | refine ldP_o H (by repeat (first | exact Pick.here | apply Pick.there)) (by rfl) ?_ | refine ldS_o H (by repeat (first | exact Pick.here | apply Pick.there)) (by rfl) ?_)
  refine call_p H (Room_t q) (by repeat (first | exact Cut.nil | (apply Cut.cons; (repeat (first | exact Pick.here | apply Pick.there))))) fun wx H => ?_
  refine ⟨_, rfl, ldI_o H (by repeat (first | exact Pick.here | apply Pick.there)) rfl (ldI_o H (by repeat (first | exact Pick.here | apply Pick.there)) rfl (ldI_o H (by repeat (first | exact Pick.here | apply Pick.there)) rfl (ldI_o H (by repeat (first | exact Pick.here | apply Pick.there)) rfl rfl))), ?_⟩
  refine call_p H (rRoom_t q hs) (by repeat (first | exact Cut.nil | (apply Cut.cons; (repeat (first | exact Pick.here | apply Pick.there))))) fun wx H => ?_
  refine ⟨_, rfl, cnd_i (fun h => by simp at h) fun _ => ?_⟩
  repeat (first | refine ldI_o H (by repeat (first | exact Pick.here | apply Pick.there)) (by rfl) ?_ | refine ldL_o H (by repeat (first | exact Pick.here | apply Pick.there)) (by rfl) ?_ | refine ldB_o H (by repeat (first | exact Pick.here | apply Pick.there)) (by rfl) ?_ | refine ldP_o H (by repeat (first | exact Pick.here | apply Pick.there)) (by rfl) ?_ | refine ldS_o H (by repeat (first | exact Pick.here | apply Pick.there)) (by rfl) ?_)
  refine call_p H (same_t m m' bs) (by repeat (first | exact Cut.nil | (apply Cut.cons; (repeat (first | exact Pick.here | apply Pick.there))))) fun wx H => ?_
  refine ⟨_, rfl, ?_⟩
  unfold crierlaw17_alike_j6
  refine cnd_i (fun h => by cases h) fun _ => ?_
  repeat (first | refine ldI_o H (by repeat (first | exact Pick.here | apply Pick.there)) (by rfl) ?_ | refine ldL_o H (by repeat (first | exact Pick.here | apply Pick.there)) (by rfl) ?_ | refine ldB_o H (by repeat (first | exact Pick.here | apply Pick.there)) (by rfl) ?_ | refine ldP_o H (by repeat (first | exact Pick.here | apply Pick.there)) (by rfl) ?_ | refine ldS_o H (by repeat (first | exact Pick.here | apply Pick.there)) (by rfl) ?_)
  refine call_p H (Head_t m q bs) (by repeat (first | exact Cut.nil | (apply Cut.cons; (repeat (first | exact Pick.here | apply Pick.there))))) fun wx H => ?_
  refine ⟨_, _, _, _, _, _, _, _, _, _, rfl, alc_o H fun b52 wx H => ?_⟩
  refine st1_o H (by repeat (first | exact Rep.here | apply Rep.there)) (by simp) fun wx H => ?_
  refine st1_o H (by repeat (first | exact Rep.here | apply Rep.there)) (by simp) fun wx H => ?_
  refine st1_o H (by repeat (first | exact Rep.here | apply Rep.there)) (by simp) fun wx H => ?_
  refine st1_o H (by repeat (first | exact Rep.here | apply Rep.there)) (by simp) fun wx H => ?_
  refine st1_o H (by repeat (first | exact Rep.here | apply Rep.there)) (by simp) fun wx H => ?_
  refine st1_o H (by repeat (first | exact Rep.here | apply Rep.there)) (by simp) fun wx H => ?_
  refine st1_o H (by repeat (first | exact Rep.here | apply Rep.there)) (by simp) fun wx H => ?_
  refine st1_o H (by repeat (first | exact Rep.here | apply Rep.there)) (by simp) fun wx H => ?_
  refine st1_o H (by repeat (first | exact Rep.here | apply Rep.there)) (by simp) fun wx H => ?_
  repeat (first | refine ldI_o H (by repeat (first | exact Pick.here | apply Pick.there)) (by rfl) ?_ | refine ldL_o H (by repeat (first | exact Pick.here | apply Pick.there)) (by rfl) ?_ | refine ldB_o H (by repeat (first | exact Pick.here | apply Pick.there)) (by rfl) ?_ | refine ldP_o H (by repeat (first | exact Pick.here | apply Pick.there)) (by rfl) ?_ | refine ldS_o H (by repeat (first | exact Pick.here | apply Pick.there)) (by rfl) ?_)
  refine call_p H (rHead_t m' q hs bs) (by repeat (first | exact Cut.nil | (apply Cut.cons; (repeat (first | exact Pick.here | apply Pick.there))))) fun wx H => ?_
  generalize headQ q bs = hd at *
  refine ⟨_, _, _, _, _, _, _, _, _, _, rfl, alc_o H fun b80 wx H => ?_⟩
  refine st1_o H (by repeat (first | exact Rep.here | apply Rep.there)) (by simp) fun wx H => ?_
  refine st1_o H (by repeat (first | exact Rep.here | apply Rep.there)) (by simp) fun wx H => ?_
  refine st1_o H (by repeat (first | exact Rep.here | apply Rep.there)) (by simp) fun wx H => ?_
  refine st1_o H (by repeat (first | exact Rep.here | apply Rep.there)) (by simp) fun wx H => ?_
  refine st1_o H (by repeat (first | exact Rep.here | apply Rep.there)) (by simp) fun wx H => ?_
  refine st1_o H (by repeat (first | exact Rep.here | apply Rep.there)) (by simp) fun wx H => ?_
  refine st1_o H (by repeat (first | exact Rep.here | apply Rep.there)) (by simp) fun wx H => ?_
  refine st1_o H (by repeat (first | exact Rep.here | apply Rep.there)) (by simp) fun wx H => ?_
  refine st1_o H (by repeat (first | exact Rep.here | apply Rep.there)) (by simp) fun wx H => ?_
  refine join_o ?_
  repeat (first | refine ldI_o H (by repeat (first | exact Pick.here | apply Pick.there)) (by rfl) ?_ | refine ldL_o H (by repeat (first | exact Pick.here | apply Pick.there)) (by rfl) ?_ | refine ldB_o H (by repeat (first | exact Pick.here | apply Pick.there)) (by rfl) ?_ | refine ldP_o H (by repeat (first | exact Pick.here | apply Pick.there)) (by rfl) ?_ | refine ldS_o H (by repeat (first | exact Pick.here | apply Pick.there)) (by rfl) ?_)
  refine cm_ne (c := hd.1) (d := hd.1) (cnd_i (fun h => by simp at h) fun _ => ?_)
  rw [show (hd.2 != hd.2) = false by simp]
  unfold crierlaw17_alike_j5
  refine cnd_i (fun h => by cases h) fun _ => alc_o H fun b96 wx H => alc_o H fun b98 wx H => ?_
  refine st1_o H (by repeat (first | exact Rep.here | apply Rep.there)) (by simp) fun wx H => ?_
  refine st1_o H (by repeat (first | exact Rep.here | apply Rep.there)) (by simp) fun wx H => ?_
  repeat (first | refine ldI_o H (by repeat (first | exact Pick.here | apply Pick.there)) (by rfl) ?_ | refine ldL_o H (by repeat (first | exact Pick.here | apply Pick.there)) (by rfl) ?_ | refine ldB_o H (by repeat (first | exact Pick.here | apply Pick.there)) (by rfl) ?_ | refine ldP_o H (by repeat (first | exact Pick.here | apply Pick.there)) (by rfl) ?_ | refine ldS_o H (by repeat (first | exact Pick.here | apply Pick.there)) (by rfl) ?_)
  refine call_o H (Each_t m q bs) (by repeat (first | exact Cut.nil | (apply Cut.cons; (repeat (first | exact Pick.here | apply Pick.there))))) fun vx L' wx hq H => ?_
  obtain ⟨g, h, rfl, rfl⟩ := hq
  refine ⟨_, rfl, ?_⟩
  let rows : Nat → List It := fun k => [row b98 [.int .i64 ((wrongN q bs k : Nat) : Int)] tInt, row b96 [.int .i64 (k : Int)] tInt, row b28 [.slice p q.cnt c] tPl, own tInt 1 (.slice p q.cnt c) q.cnt (i64s (waitL q)), row b17 [.bool false] T.t4, row b15 [ptr m'] T.t58, row b13 q.cells tRq, row b11 q.cells tQ, memI m' bs]
  have H := H.drop (L1 := rows 0 ++ eachE g h m q bs) (by unfold eachE Qu.cells; exact (by repeat (first | exact Cut.nil | (apply Cut.cons; (repeat (first | exact Pick.here | apply Pick.there))))))
  have hcnt : (comsL q bs).length = q.cnt := by simp [comsL]
  have hc63 : (q.cnt : Int) ≤ 9223372036854775807 := by have := (left_facts q).1; unfold Qu.cnt; omega
  refine rf_o (fun k Li => Li = rows k) (fun _ _ => False) each_enters (each_it g h m q bs) (coms_len q bs) H rfl ?_ ?_ ?_
  · rintro k x _ F l r d wx Q2 hx rfl H hgo hdone
    obtain ⟨hk, rfl⟩ := coms_at hx
    have hle := wrongN_le q bs k
    have hnx := wrongN_next q bs k
    have hwk : (waitL q)[k]? = some (nth q.s q.r k) := by simp [waitL, hk]
    have hwl := waitL_len q
    have hpl : ∀ wx L, X.Own w S L wx → ∀ F', Pick L (own tInt 1 (.slice p q.cnt c) q.cnt (i64s (waitL q))) F' → ∃ a, p = some a ∧ wx.cell? (a.add k) = some (.int .i64 (nth q.s q.r k)) := by
      intro wx L H F' hp
      exact (H.rd hp own_sl) k _ (by unfold i64s; rw [List.getElem?_map, hwk]; rfl)
    generalize hz : loadM bs q.a q.s (nth q.s q.r k) = z at *
    have eN : loadV bs q.a q.s (nth q.s q.r k) = .tuple [cmV z.1, .int .i64 z.2].toArray := by unfold loadV; rw [hz]
    unfold crierlaw17_alike_r3
    dsimp only [X.b2]
    refine ⟨_, _, _, _, _, _, _, _, _, rfl, _, rfl, alc_o H fun b126 wx H => ?_⟩
    dsimp only [rows] at H
    simp only [List.cons_append, List.nil_append] at H
    refine st1_o H (by repeat (first | exact Rep.here | apply Rep.there)) (by simp) fun wx H => ?_
    refine st1_o H (by repeat (first | exact Rep.here | apply Rep.there)) (by simp) fun wx H => ?_
    refine st1_o H (by repeat (first | exact Rep.here | apply Rep.there)) (by simp) fun wx H => ?_
    refine st1_o H (by repeat (first | exact Rep.here | apply Rep.there)) (by simp) fun wx H => ?_
    refine st1_o H (by repeat (first | exact Rep.here | apply Rep.there)) (by simp) fun wx H => ?_
    refine st1_o H (by repeat (first | exact Rep.here | apply Rep.there)) (by simp) fun wx H => ?_
    refine st1_o H (by repeat (first | exact Rep.here | apply Rep.there)) (by simp) fun wx H => ?_
    refine st1_o H (by repeat (first | exact Rep.here | apply Rep.there)) (by simp) fun wx H => ?_
    refine st1_o H (by repeat (first | exact Rep.here | apply Rep.there)) (by simp) fun wx H => ?_
    refine rec_o H (.there .here) fun wx H => ?_
    repeat (first | refine ldI_o H (by repeat (first | exact Pick.here | apply Pick.there)) (by rfl) ?_ | refine ldL_o H (by repeat (first | exact Pick.here | apply Pick.there)) (by rfl) ?_ | refine ldB_o H (by repeat (first | exact Pick.here | apply Pick.there)) (by rfl) ?_ | refine ldP_o H (by repeat (first | exact Pick.here | apply Pick.there)) (by rfl) ?_ | refine ldS_o H (by repeat (first | exact Pick.here | apply Pick.there)) (by rfl) ?_)
    refine cnd_i (fun hb2 => by have := of_decide_eq_true hb2; omega) fun _ => join_o ?_
    have fin : ∀ bb wx, X.Own w S (row bb z.1.cells tCmd :: row b126 z.1.cells tCmd :: recI l r .busy none :: defI d :: (rows k ++ (eachE g h m q bs ++ F))) wx → crierlaw17_alike_j2 b17 b96 b98 l r Q2 z.2 b126 bb z.2 wx := by
      intro bb wx H
      dsimp only [rows] at H
      simp only [List.cons_append, List.nil_append] at H
      unfold crierlaw17_alike_j2
      refine join_o ?_
      repeat (first | refine ldI_o H (by repeat (first | exact Pick.here | apply Pick.there)) (by rfl) ?_ | refine ldL_o H (by repeat (first | exact Pick.here | apply Pick.there)) (by rfl) ?_ | refine ldB_o H (by repeat (first | exact Pick.here | apply Pick.there)) (by rfl) ?_ | refine ldP_o H (by repeat (first | exact Pick.here | apply Pick.there)) (by rfl) ?_ | refine ldS_o H (by repeat (first | exact Pick.here | apply Pick.there)) (by rfl) ?_)
      refine cm_ne (c := z.1) (d := z.1) (cnd_i (fun h => by simp at h) fun _ => ?_)
      rw [show (z.2 != z.2) = false by simp]
      unfold crierlaw17_alike_j1
      refine cnd_i (fun h => by cases h) fun _ => join_o ?_
      unfold crierlaw17_alike_j0
      have e1 : IntKind.i64.wrap ((k : Int) + 1) = ((k + 1 : Nat) : Int) := by rw [W_id (by omega) (by omega)]; push_cast; rfl
      refine cnd_i (fun hb => ?_) fun hb => ?_
      · rw [hb, if_pos rfl] at hnx
        refine ldI_o H (.there (.there (.there (.there .here)))) rfl ?_
        refine st1_o H (.there (.there (.there (.there .here)))) (by simp) fun wx H => ?_
        refine ldI_o H (.there (.there (.there (.there (.there .here))))) rfl ?_
        rw [e1]
        refine st1_o H (.there (.there (.there (.there (.there .here))))) (by simp) fun wx H => ?_
        rw [W_id (n := ((wrongN q bs k : Nat) : Int) + 1) (by omega) (by omega)] at H
        refine rec_o H (.there (.there .here)) fun wx H => hgo (rows (k + 1)) wx rfl ?_
        dsimp only [rows]
        rw [hnx]
        push_cast
        exact H.rest (L1 := [row bb _ _, row b126 _ _]) (.cons .here (.cons .here .nil))
      · rw [hb, if_neg (by decide)] at hnx
        refine ldI_o H (.there (.there (.there (.there (.there .here))))) rfl ?_
        rw [e1]
        refine st1_o H (.there (.there (.there (.there (.there .here))))) (by simp) fun wx H => ?_
        refine rec_o H (.there (.there .here)) fun wx H => hgo (rows (k + 1)) wx rfl ?_
        dsimp only [rows]
        rw [hnx]
        exact H.rest (L1 := [row bb _ _, row b126 _ _]) (.cons .here (.cons .here .nil))
    refine drw_o H fun wx H => ?_
    repeat (first | refine ldI_o H (by repeat (first | exact Pick.here | apply Pick.there)) (by rfl) ?_ | refine ldL_o H (by repeat (first | exact Pick.here | apply Pick.there)) (by rfl) ?_ | refine ldB_o H (by repeat (first | exact Pick.here | apply Pick.there)) (by rfl) ?_ | refine ldP_o H (by repeat (first | exact Pick.here | apply Pick.there)) (by rfl) ?_ | refine ldS_o H (by repeat (first | exact Pick.here | apply Pick.there)) (by rfl) ?_)
    refine ix_i hk ?_
    obtain ⟨a1, rfl, hcell⟩ := hpl _ _ H _ (by repeat (first | exact Pick.here | apply Pick.there))
    dsimp only [nn]
    rw [Nat.mul_one]
    refine ⟨_, hcell, ?_, ?_⟩
    · refine call_p H (refLoad_t m' bs q.a q.s (nth q.s q.r k)) (by repeat (first | exact Cut.nil | (apply Cut.cons; (repeat (first | exact Pick.here | apply Pick.there))))) fun wx H => ?_
      rw [eN]
      refine ⟨_, _, _, _, _, _, _, _, _, _, rfl, alc_o H fun b209 wx H => ?_⟩
      obtain ⟨a1', ea, hcell'⟩ := hpl _ _ H _ (by repeat (first | exact Pick.here | apply Pick.there))
      cases ea
      refine ⟨⟨_, hcell', rfl⟩, ldI_o H (by repeat (first | exact Pick.here | apply Pick.there)) rfl rfl, ldL_o H (by repeat (first | exact Pick.here | apply Pick.there)) rfl rfl, ldI_o H (by repeat (first | exact Pick.here | apply Pick.there)) rfl (ldI_o H (by repeat (first | exact Pick.here | apply Pick.there)) rfl rfl), ldP_o H (by repeat (first | exact Pick.here | apply Pick.there)) rfl rfl, ?_⟩
      refine st1_o H (by repeat (first | exact Rep.here | apply Rep.there)) (by simp) fun wx H => ?_
      refine st1_o H (by repeat (first | exact Rep.here | apply Rep.there)) (by simp) fun wx H => ?_
      refine st1_o H (by repeat (first | exact Rep.here | apply Rep.there)) (by simp) fun wx H => ?_
      refine st1_o H (by repeat (first | exact Rep.here | apply Rep.there)) (by simp) fun wx H => ?_
      refine st1_o H (by repeat (first | exact Rep.here | apply Rep.there)) (by simp) fun wx H => ?_
      refine st1_o H (by repeat (first | exact Rep.here | apply Rep.there)) (by simp) fun wx H => ?_
      refine st1_o H (by repeat (first | exact Rep.here | apply Rep.there)) (by simp) fun wx H => ?_
      refine st1_o H (by repeat (first | exact Rep.here | apply Rep.there)) (by simp) fun wx H => ?_
      refine st1_o H (by repeat (first | exact Rep.here | apply Rep.there)) (by simp) fun wx H => ?_
      exact fin _ _ H
    · refine alc_o H fun b228 wx H => ?_
      obtain ⟨a1', ea, hcell'⟩ := hpl _ _ H _ (by repeat (first | exact Pick.here | apply Pick.there))
      cases ea
      refine ⟨⟨_, hcell', rfl⟩, ldI_o H (by repeat (first | exact Pick.here | apply Pick.there)) rfl rfl, ldL_o H (by repeat (first | exact Pick.here | apply Pick.there)) rfl rfl, ldI_o H (by repeat (first | exact Pick.here | apply Pick.there)) rfl (ldI_o H (by repeat (first | exact Pick.here | apply Pick.there)) rfl rfl), ldP_o H (by repeat (first | exact Pick.here | apply Pick.there)) rfl rfl, ?_⟩
      refine call_p H (refLoad_t m' bs q.a q.s (nth q.s q.r k)) (by repeat (first | exact Cut.nil | (apply Cut.cons; (repeat (first | exact Pick.here | apply Pick.there))))) fun wx H => ?_
      rw [eN]
      refine ⟨_, _, _, _, _, _, _, _, _, _, rfl, ?_⟩
      refine st1_o H (by repeat (first | exact Rep.here | apply Rep.there)) (by simp) fun wx H => ?_
      refine st1_o H (by repeat (first | exact Rep.here | apply Rep.there)) (by simp) fun wx H => ?_
      refine st1_o H (by repeat (first | exact Rep.here | apply Rep.there)) (by simp) fun wx H => ?_
      refine st1_o H (by repeat (first | exact Rep.here | apply Rep.there)) (by simp) fun wx H => ?_
      refine st1_o H (by repeat (first | exact Rep.here | apply Rep.there)) (by simp) fun wx H => ?_
      refine st1_o H (by repeat (first | exact Rep.here | apply Rep.there)) (by simp) fun wx H => ?_
      refine st1_o H (by repeat (first | exact Rep.here | apply Rep.there)) (by simp) fun wx H => ?_
      refine st1_o H (by repeat (first | exact Rep.here | apply Rep.there)) (by simp) fun wx H => ?_
      refine st1_o H (by repeat (first | exact Rep.here | apply Rep.there)) (by simp) fun wx H => ?_
      exact fin _ _ H
  · rintro d _ wx rfl H
    dsimp only [jmpX]
    rw [hcnt] at H
    dsimp only [rows] at H
    unfold eachE Qu.cells at H
    simp only [List.cons_append, List.nil_append] at H
    refine join_o ?_
    refine drw_o H fun wx H => ?_
    repeat (first | refine ldI_o H (by repeat (first | exact Pick.here | apply Pick.there)) (by rfl) ?_ | refine ldL_o H (by repeat (first | exact Pick.here | apply Pick.there)) (by rfl) ?_ | refine ldB_o H (by repeat (first | exact Pick.here | apply Pick.there)) (by rfl) ?_ | refine ldP_o H (by repeat (first | exact Pick.here | apply Pick.there)) (by rfl) ?_ | refine ldS_o H (by repeat (first | exact Pick.here | apply Pick.there)) (by rfl) ?_)
    refine cnd_i (fun _ => ?_) (fun h => by simp at h)
    repeat (first | refine ldI_o H (by repeat (first | exact Pick.here | apply Pick.there)) (by rfl) ?_ | refine ldL_o H (by repeat (first | exact Pick.here | apply Pick.there)) (by rfl) ?_ | refine ldB_o H (by repeat (first | exact Pick.here | apply Pick.there)) (by rfl) ?_ | refine ldP_o H (by repeat (first | exact Pick.here | apply Pick.there)) (by rfl) ?_ | refine ldS_o H (by repeat (first | exact Pick.here | apply Pick.there)) (by rfl) ?_)
    refine call_p H (Wrong_t m q bs) (by repeat (first | exact Cut.nil | (apply Cut.cons; (repeat (first | exact Pick.here | apply Pick.there))))) fun wx H => ?_
    refine ⟨_, rfl, ldI_o H (by repeat (first | exact Pick.here | apply Pick.there)) rfl rfl, ?_⟩
    refine st1_o H (by repeat (first | exact Rep.here | apply Rep.there)) (by simp) fun wx H => ?_
    rw [show ((((wrongN q bs q.cnt : Nat) : Int)) == ((wrongN q bs q.cnt : Nat) : Int)) = true by simp] at H
    unfold crierlaw17_alike_j4
    refine take_o H (by repeat (first | exact Pick.here | apply Pick.there)) fun wx H => ?_
    repeat (first | refine ldI_o H (by repeat (first | exact Pick.here | apply Pick.there)) (by rfl) ?_ | refine ldL_o H (by repeat (first | exact Pick.here | apply Pick.there)) (by rfl) ?_ | refine ldB_o H (by repeat (first | exact Pick.here | apply Pick.there)) (by rfl) ?_ | refine ldP_o H (by repeat (first | exact Pick.here | apply Pick.there)) (by rfl) ?_ | refine ldS_o H (by repeat (first | exact Pick.here | apply Pick.there)) (by rfl) ?_)
    exact ⟨_, ⟨rfl, rfl⟩, H.drop (by repeat (first | exact Cut.nil | (apply Cut.cons; (repeat (first | exact Pick.here | apply Pick.there)))))⟩
  · rintro d c' L wx h H
    exact h.elim
end Go.Proofs.Ytggchklafbpgpaa
