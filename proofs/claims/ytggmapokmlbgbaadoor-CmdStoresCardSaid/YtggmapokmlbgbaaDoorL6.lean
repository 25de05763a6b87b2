/-
  cmd: what becomes of a memory into which a command is put, and which command stands anywhere: CmdStores.
-/
import Derived.Test.YtggmapokmlbgbaaDoorL5
import Derived.Test.YtggmapokmlbgbaaDoorE11
namespace Go.Proofs.YtggmapokmlbgbaaDoor
open Go Go.RowKit X
set_option maxRecDepth 100000
set_option linter.unusedVariables false
set_option linter.unusedSimpArgs false
set_option maxHeartbeats 1000000
theorem cmdStores_cv {W : World} (hT : PowAt W) {p : Option Addr} {m cp : Nat} (hacts : Acts W p m) (hm : m ≤ 9223372036854775807) (n0 a s off : Int) (c : Cm) (hI : -9223372036854775808 ≤ c.addr ∧ c.addr ≤ 9223372036854775807) (t : Int) :
    CV P F.crierlaw16_CmdStores [.int .i64 n0, .slice p m cp, winV a s, .int .i64 off, cmV c, .int .i64 t] W fun v w' => v = .bool true ∧ Below W.heap.size W w' := by
  refine crierlaw16_CmdStores_cv ?_
  unfold crierlaw16_CmdStores
  have H := keep_start W
  refine alc_o H fun b18 wx H => alc_o H fun b20 wx H => ?_
  refine call_p H (awake_t hT) (by repeat (first | exact Cut.nil | (apply Cut.cons; (repeat (first | exact Pick.here | apply Pick.there))))) fun wx H => ?_
  refine ⟨_, rfl, cnd_i (fun h => by cases h) fun _ => ?_⟩
  refine call_o H (lawNew_t n0) (by repeat (first | exact Cut.nil | (apply Cut.cons; (repeat (first | exact Pick.here | apply Pick.there))))) fun vx L' wx hq H => ?_
  obtain ⟨b, b', N, hN, rfl, rfl⟩ := hq
  simp only [List.cons_append, List.nil_append] at H
  refine ⟨_, _, rfl, join_o (cnd_i (fun h => by cases h) fun _ => ?_)⟩
  unfold crierlaw16_CmdStores_j4
  refine cnd_i (fun h => by cases h) fun _ => ?_
  refine loop_o (fun (i : Int) L => ∃ (j : Nat) (bs : List Int), i = j ∧ j ≤ m ∧ bs.length = N ∧ L = [memI b bs, memI b' bs, row b20 c.cells tCmd, row b18 [.int .i64 a, .int .i64 s] tWin, keep W])
    (fun (i : Int) => ((m : Int) - i).toNat) (H.drop (L1 := [memI b _, memI b' _, row b20 c.cells tCmd, row b18 [.int .i64 a, .int .i64 s] tWin, keep W]) (by repeat (first | exact Cut.nil | (apply Cut.cons; (repeat (first | exact Pick.here | apply Pick.there)))))) ⟨0, _, rfl, by omega, List.length_replicate .., rfl⟩ ?_
  rintro _ _ wx ⟨j, bs, rfl, hj, hbl, rfl⟩ H
  unfold crierlaw16_CmdStores_l3
  refine cnd_i (fun h => ?_) fun h => ?_
  · have h := of_decide_eq_true h
    refine ⟨⟨by omega, by omega⟩, ?_⟩
    rw [show ((j : Int)).toNat = j from rfl]
    obtain ⟨ad, k', x', s', o', n', v', q', c2, xs', rfl, hact⟩ := hacts j (by omega)
    obtain ⟨e0, e1, e2, e3, e4, e5, e6, e7, e8, e9, ev⟩ := hact.keep (H.below (by repeat (first | exact Pick.here | apply Pick.there)))
    refine ⟨_, e0, _, e1, _, e2, _, e3, _, e4, _, e5, _, _, _, e6, ?_⟩
    refine call_o H (does_t b bs k' x' s' o' n' v' (keep W) (keep_sl hact.2.2.2.2.2.2.2.1) e8 e9) (by repeat (first | exact Cut.nil | (apply Cut.cons; (repeat (first | exact Pick.here | apply Pick.there))))) fun vx L' wx hq H => ?_
    obtain ⟨rfl, rfl⟩ := hq
    simp only [List.cons_append, List.nil_append] at H
    refine ⟨_, rfl, ⟨by omega, by omega⟩, ?_⟩
    obtain ⟨e0, e1, e2, e3, e4, e5, e6, e7, e8, e9, ev⟩ := hact.keep (H.below (by repeat (first | exact Pick.here | apply Pick.there)))
    refine ⟨_, e0, _, e1, _, e2, _, e3, _, e4, _, e5, _, _, _, e6, ?_⟩
    refine call_o H (model_t b' bs k' x' s' o' n' v' ev (keep W) (keep_sl hact.2.2.2.2.2.2.2.1) e8) (by repeat (first | exact Cut.nil | (apply Cut.cons; (repeat (first | exact Pick.here | apply Pick.there))))) fun vx L' wx hq H => ?_
    obtain ⟨rfl, rfl⟩ := hq
    simp only [List.cons_append, List.nil_append] at H
    refine ⟨_, rfl, ⟨_, ⟨j + 1, (doM bs k' x' s' o' n' v' xs').1, ?_, by omega, by rw [doM_length]; exact hbl, rfl⟩, H.drop (by repeat (first | exact Cut.nil | (apply Cut.cons; (repeat (first | exact Pick.here | apply Pick.there)))))⟩, ?_⟩
    · rw [W_id (by omega) (by omega)]; rfl
    · rw [W_id (by omega) (by omega)]
      show ((m : Int) - ((j : Int) + 1)).toNat < ((m : Int) - (j : Int)).toNat
      omega
  · refine join_o ?_
    refine drw_o H fun wx H => ?_
    repeat (first | refine ldI_o H (by repeat (first | exact Pick.here | apply Pick.there)) (by rfl) ?_ | refine ldL_o H (by repeat (first | exact Pick.here | apply Pick.there)) (by rfl) ?_ | refine ldB_o H (by repeat (first | exact Pick.here | apply Pick.there)) (by rfl) ?_ | refine ldP_o H (by repeat (first | exact Pick.here | apply Pick.there)) (by rfl) ?_ | refine ldS_o H (by repeat (first | exact Pick.here | apply Pick.there)) (by rfl) ?_)
    refine call_o H (Store_t b bs a s off c) (by repeat (first | exact Cut.nil | (apply Cut.cons; (repeat (first | exact Pick.here | apply Pick.there))))) fun vx L' wx hq H => ?_
    obtain ⟨rfl, rfl⟩ := hq
    simp only [List.cons_append, List.nil_append] at H
    refine ⟨_, rfl, ?_, ?_, ?_⟩
    · repeat (first | refine ldI_o H (by repeat (first | exact Pick.here | apply Pick.there)) (by rfl) ?_ | refine ldL_o H (by repeat (first | exact Pick.here | apply Pick.there)) (by rfl) ?_ | refine ldB_o H (by repeat (first | exact Pick.here | apply Pick.there)) (by rfl) ?_ | refine ldP_o H (by repeat (first | exact Pick.here | apply Pick.there)) (by rfl) ?_ | refine ldS_o H (by repeat (first | exact Pick.here | apply Pick.there)) (by rfl) ?_)
      rfl
    · repeat (first | refine ldI_o H (by repeat (first | exact Pick.here | apply Pick.there)) (by rfl) ?_ | refine ldL_o H (by repeat (first | exact Pick.here | apply Pick.there)) (by rfl) ?_ | refine ldB_o H (by repeat (first | exact Pick.here | apply Pick.there)) (by rfl) ?_ | refine ldP_o H (by repeat (first | exact Pick.here | apply Pick.there)) (by rfl) ?_ | refine ldS_o H (by repeat (first | exact Pick.here | apply Pick.there)) (by rfl) ?_)
      rfl
    refine call_o H (refStore_t b' bs a s off c hI) (by repeat (first | exact Cut.nil | (apply Cut.cons; (repeat (first | exact Pick.here | apply Pick.there))))) fun vx L' wx hq H => ?_
    obtain ⟨rfl, rfl⟩ := hq
    simp only [List.cons_append, List.nil_append] at H
    refine ⟨_, rfl, cnd_i (fun h => by simp at h) fun _ => ?_⟩
    refine call_p H (same_t b b' (storeM bs a s off c)) (by repeat (first | exact Cut.nil | (apply Cut.cons; (repeat (first | exact Pick.here | apply Pick.there))))) fun wx H => ?_
    refine ⟨_, rfl, ?_⟩
    unfold crierlaw16_CmdStores_j2
    refine cnd_i (fun h => by cases h) fun _ => alc_o H fun b67 wx H => ?_
    refine loop_o (fun (i : Int) L => ∃ (j : Nat), i = j ∧ j ≤ 2 ∧ L = [row b67 [.int .i64 off, .int .i64 t] tInt, memI b (storeM bs a s off c), memI b' (storeM bs a s off c), row b18 [.int .i64 a, .int .i64 s] tWin, keep W])
      (fun (i : Int) => (2 - i).toNat) (H.drop (L1 := [row b67 [.int .i64 off, .int .i64 t] tInt, memI b (storeM bs a s off c), memI b' (storeM bs a s off c), row b18 [.int .i64 a, .int .i64 s] tWin, keep W]) (by repeat (first | exact Cut.nil | (apply Cut.cons; (repeat (first | exact Pick.here | apply Pick.there)))))) ⟨0, rfl, by omega, rfl⟩ ?_
    rintro _ _ wx ⟨j, rfl, hj, rfl⟩ H
    unfold crierlaw16_CmdStores_l1
    refine cnd_i (fun h => ?_) fun h => ⟨rfl, keep_done H (by repeat (first | exact Pick.here | apply Pick.there))⟩
    have h := of_decide_eq_true h
    refine ix_i (by omega) ?_
    obtain ⟨k, hk⟩ : ∃ k, ([.int .i64 off, .int .i64 t] : List Value)[j]? = some (.int .i64 k) := by
      match j, h with
      | 0, _ => exact ⟨_, rfl⟩
      | 1, _ => exact ⟨_, rfl⟩
    rw [add_lit, Nat.mul_one, Nat.zero_add]
    refine ldI_o H .here hk ?_
    repeat (first | refine ldI_o H (by repeat (first | exact Pick.here | apply Pick.there)) (by rfl) ?_ | refine ldL_o H (by repeat (first | exact Pick.here | apply Pick.there)) (by rfl) ?_ | refine ldB_o H (by repeat (first | exact Pick.here | apply Pick.there)) (by rfl) ?_ | refine ldP_o H (by repeat (first | exact Pick.here | apply Pick.there)) (by rfl) ?_ | refine ldS_o H (by repeat (first | exact Pick.here | apply Pick.there)) (by rfl) ?_)
    refine call_p H (Load_t b (storeM bs a s off c) a s k) (by repeat (first | exact Cut.nil | (apply Cut.cons; (repeat (first | exact Pick.here | apply Pick.there))))) fun wx H => ?_
    obtain ⟨d, e, hd⟩ : ∃ d e, loadV (storeM bs a s off c) a s k = .tuple [cmV d, .int .i64 e].toArray := ⟨_, _, rfl⟩
    rw [hd]
    refine ⟨_, _, _, _, _, _, _, _, _, _, rfl, alc_o H fun b89 wx H => ?_⟩
    refine st1_o H (by repeat (first | exact Rep.here | apply Rep.there)) (by simp) fun wx H => ?_
    refine st1_o H (by repeat (first | exact Rep.here | apply Rep.there)) (by simp) fun wx H => ?_
    refine st1_o H (by repeat (first | exact Rep.here | apply Rep.there)) (by simp) fun wx H => ?_
    refine st1_o H (by repeat (first | exact Rep.here | apply Rep.there)) (by simp) fun wx H => ?_
    refine st1_o H (by repeat (first | exact Rep.here | apply Rep.there)) (by simp) fun wx H => ?_
    refine st1_o H (by repeat (first | exact Rep.here | apply Rep.there)) (by simp) fun wx H => ?_
    refine st1_o H (by repeat (first | exact Rep.here | apply Rep.there)) (by simp) fun wx H => ?_
    refine st1_o H (by repeat (first | exact Rep.here | apply Rep.there)) (by simp) fun wx H => ?_
    refine st1_o H (by repeat (first | exact Rep.here | apply Rep.there)) (by simp) fun wx H => ?_
    repeat (first | refine ldI_o H (by repeat (first | exact Pick.here | apply Pick.there)) (by rfl) ?_ | refine ldL_o H (by repeat (first | exact Pick.here | apply Pick.there)) (by rfl) ?_ | refine ldB_o H (by repeat (first | exact Pick.here | apply Pick.there)) (by rfl) ?_ | refine ldP_o H (by repeat (first | exact Pick.here | apply Pick.there)) (by rfl) ?_ | refine ldS_o H (by repeat (first | exact Pick.here | apply Pick.there)) (by rfl) ?_)
    refine call_p H (refLoad_t b' (storeM bs a s off c) a s k) (by repeat (first | exact Cut.nil | (apply Cut.cons; (repeat (first | exact Pick.here | apply Pick.there))))) fun wx H => ?_
    rw [hd]
    refine ⟨_, _, _, _, _, _, _, _, _, _, rfl, alc_o H fun b114 wx H => ?_⟩
    refine st1_o H (by repeat (first | exact Rep.here | apply Rep.there)) (by simp) fun wx H => ?_
    refine st1_o H (by repeat (first | exact Rep.here | apply Rep.there)) (by simp) fun wx H => ?_
    refine st1_o H (by repeat (first | exact Rep.here | apply Rep.there)) (by simp) fun wx H => ?_
    refine st1_o H (by repeat (first | exact Rep.here | apply Rep.there)) (by simp) fun wx H => ?_
    refine st1_o H (by repeat (first | exact Rep.here | apply Rep.there)) (by simp) fun wx H => ?_
    refine st1_o H (by repeat (first | exact Rep.here | apply Rep.there)) (by simp) fun wx H => ?_
    refine st1_o H (by repeat (first | exact Rep.here | apply Rep.there)) (by simp) fun wx H => ?_
    refine st1_o H (by repeat (first | exact Rep.here | apply Rep.there)) (by simp) fun wx H => ?_
    refine st1_o H (by repeat (first | exact Rep.here | apply Rep.there)) (by simp) fun wx H => ?_
    refine join_o ?_
    repeat (first | refine ldI_o H (by repeat (first | exact Pick.here | apply Pick.there)) (by rfl) ?_ | refine ldL_o H (by repeat (first | exact Pick.here | apply Pick.there)) (by rfl) ?_ | refine ldB_o H (by repeat (first | exact Pick.here | apply Pick.there)) (by rfl) ?_ | refine ldP_o H (by repeat (first | exact Pick.here | apply Pick.there)) (by rfl) ?_ | refine ldS_o H (by repeat (first | exact Pick.here | apply Pick.there)) (by rfl) ?_)
    refine cm_ne (c := d) (d := d) (cnd_i (fun h => by simp at h) fun _ => ?_)
    unfold crierlaw16_CmdStores_j0
    refine cnd_i (fun h => by simp at h) fun _ => ?_
    rw [W_id (by omega) (by omega)]
    exact ⟨⟨_, ⟨j + 1, rfl, by omega, rfl⟩, H.drop (by repeat (first | exact Cut.nil | (apply Cut.cons; (repeat (first | exact Pick.here | apply Pick.there)))))⟩, by show (2 - ((j : Int) + 1)).toNat < (2 - (j : Int)).toNat; omega⟩
end Go.Proofs.YtggmapokmlbgbaaDoor
