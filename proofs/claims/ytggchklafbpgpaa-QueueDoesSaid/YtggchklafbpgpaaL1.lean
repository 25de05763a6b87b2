/-
  queue: the document's examples; a new queue in a memory.
-/
import Derived.Test.YtggchklafbpgpaaQA
namespace Go.Proofs.Ytggchklafbpgpaa
open Go Go.RowKit X
set_option maxRecDepth 100000
set_option linter.unusedVariables false
set_option linter.unusedSimpArgs false
set_option maxHeartbeats 1000000
def c5 : Cm := ⟨5, 0, 0, 0, 0, 0, 0, 0, false⟩
def z200 : List Int := List.replicate 200 0
theorem z200_len : z200.length = 200 := by unfold z200; rw [List.length_replicate]
theorem c5_enc : encM c5 = some [5, 0, 0, 0] := by kernel_rfl
def b1 : List Int := storeM z200 8 96 0 c5
def b2 : List Int := storeM b1 8 96 32 c5
theorem aw0 : FQ 8 200 3 0 ⟨8, 96, 0, 0⟩ z200 [] := FQ.new (by omega) (by omega) (by omega) z200_len
theorem aw1 : putQ ⟨8, 96, 0, 0⟩ z200 c5 = (⟨8, 96, 0, 32⟩, b1, 0) := by
  rw [aw0.put_eq (by simp) c5_enc]
  rw [show nextQ (96 : Int) 0 = 32 by kernel_rfl]; rfl
theorem aw1f : FQ 8 200 3 0 ⟨8, 96, 0, 32⟩ b1 [c5] := by
  have := (aw0.put (by simp) c5_enc).2
  rw [aw1] at this; exact this
theorem aw2 : putQ ⟨8, 96, 0, 32⟩ b1 c5 = (⟨8, 96, 0, 64⟩, b2, 0) := by
  rw [aw1f.put_eq (by simp) c5_enc]
  rw [show nextQ (96 : Int) 32 = 64 by kernel_rfl]; rfl
theorem aw2f : FQ 8 200 3 0 ⟨8, 96, 0, 64⟩ b2 [c5, c5] := by
  have := (aw1f.put (by simp) c5_enc).2
  rw [aw2] at this; exact this
theorem aw3 : putQ ⟨8, 96, 0, 64⟩ b2 c5 = (⟨8, 96, 0, 64⟩, b2, 2) := aw2f.full (by simp) c5
theorem awfill : fillQ [c5, c5, c5] ⟨8, 96, 0, 0⟩ z200 = (⟨8, 96, 0, 64⟩, b2, 2, 2) := by
  simp only [fillQ, aw1, aw2, aw3]
  rfl
theorem awpass : passQ ⟨8, 96, 0, 64⟩ = (⟨8, 96, 32, 64⟩, 0) := by kernel_rfl
theorem awwrong : wrongN ⟨8, 96, 32, 0⟩ b2 (Qu.cnt ⟨8, 96, 32, 0⟩) = 1 := by
  have hg0 : GoodP z200.length 8 96 0 := by rw [z200_len]; refine ⟨by omega, by omega, by omega, by omega, by omega, by omega⟩
  have hg0' : GoodP z200.length 8 96 64 := by rw [z200_len]; refine ⟨by omega, by omega, by omega, by omega, by omega, by omega⟩
  have hl : b1.length = 200 := by unfold b1; rw [storeM_length, z200_len]
  have hg1 : GoodP b1.length 8 96 32 := by rw [hl]; refine ⟨by omega, by omega, by omega, by omega, by omega, by omega⟩
  have hg1' : GoodP b1.length 8 96 64 := by rw [hl]; refine ⟨by omega, by omega, by omega, by omega, by omega, by omega⟩
  have e1 : loadM b2 8 96 32 = (c5, 0) := load_store hg1 c5_enc
  have e2 : loadM b2 8 96 64 = loadM z200 8 96 64 := by
    unfold b2
    rw [load_store_ne c5 hg1 hg1' (.inl (by omega))]
    unfold b1
    rw [load_store_ne c5 hg0 hg0' (.inl (by omega))]
  have e3 : loadM z200 8 96 64 = (cm0, 160) := by kernel_rfl
  rw [show Qu.cnt ⟨8, 96, 32, 0⟩ = 2 by kernel_rfl, wrongN_next, wrongN_next]
  dsimp only
  rw [show nth (96 : Int) 32 0 = 32 from rfl, show nth (96 : Int) 32 1 = 64 by kernel_rfl, e1, e2, e3]
  rfl
theorem awake_t : Tri P F.crierlaw17_awake [] [] fun v L' => v = .bool true ∧ L' = [] := by
  intro w S hS
  refine crierlaw17_awake_cv ?_
  unfold crierlaw17_awake
  have H := Own.start hS
  refine call_o H (new_t 200) (by repeat (first | exact Cut.nil | (apply Cut.cons; (repeat (first | exact Pick.here | apply Pick.there))))) fun vx L' wx hq H => ?_
  rw [if_pos (by omega)] at hq
  obtain ⟨m, rfl, rfl⟩ := hq
  simp only [List.cons_append, List.nil_append] at H
  refine ⟨_, _, rfl, ?_⟩
  refine call_p H (NewQ_t 8 96) (by repeat (first | exact Cut.nil | (apply Cut.cons; (repeat (first | exact Pick.here | apply Pick.there))))) fun wx H => ?_
  rw [show newQ 8 96 = (⟨8, 96, 0, 0⟩, 0) by kernel_rfl]
  refine ⟨_, _, _, _, _, rfl, alc_o H fun b12 wx H => ?_⟩
  refine st1_o H (by repeat (first | exact Rep.here | apply Rep.there)) (by simp) fun wx H => ?_
  refine st1_o H (by repeat (first | exact Rep.here | apply Rep.there)) (by simp) fun wx H => ?_
  refine st1_o H (by repeat (first | exact Rep.here | apply Rep.there)) (by simp) fun wx H => ?_
  refine st1_o H (by repeat (first | exact Rep.here | apply Rep.there)) (by simp) fun wx H => ?_
  refine join_o (cnd_i (fun h => by cases h) fun _ => cnd_i (fun h => by cases h) fun _ => ?_)
  repeat (first | refine ldI_o H (by repeat (first | exact Pick.here | apply Pick.there)) (by rfl) ?_ | refine ldL_o H (by repeat (first | exact Pick.here | apply Pick.there)) (by rfl) ?_ | refine ldB_o H (by repeat (first | exact Pick.here | apply Pick.there)) (by rfl) ?_ | refine ldP_o H (by repeat (first | exact Pick.here | apply Pick.there)) (by rfl) ?_ | refine ldS_o H (by repeat (first | exact Pick.here | apply Pick.there)) (by rfl) ?_)
  refine call_p H (Room_t ⟨8, 96, 0, 0⟩) (by repeat (first | exact Cut.nil | (apply Cut.cons; (repeat (first | exact Pick.here | apply Pick.there))))) fun wx H => ?_
  rw [show Qu.room ⟨8, 96, 0, 0⟩ = 2 by kernel_rfl]
  refine ⟨_, rfl, ?_⟩
  unfold crierlaw17_awake_j1
  refine cnd_i (fun h => by cases h) fun _ => alc_o H fun b21 wx H => ?_
  refine st1_o H (by repeat (first | exact Rep.here | apply Rep.there)) (by simp) fun wx H => ?_
  refine st1_o H (by repeat (first | exact Rep.here | apply Rep.there)) (by simp) fun wx H => ?_
  refine st1_o H (by repeat (first | exact Rep.here | apply Rep.there)) (by simp) fun wx H => ?_
  refine st1_o H (by repeat (first | exact Rep.here | apply Rep.there)) (by simp) fun wx H => ?_
  refine st1_o H (by repeat (first | exact Rep.here | apply Rep.there)) (by simp) fun wx H => ?_
  refine st1_o H (by repeat (first | exact Rep.here | apply Rep.there)) (by simp) fun wx H => ?_
  refine st1_o H (by repeat (first | exact Rep.here | apply Rep.there)) (by simp) fun wx H => ?_
  refine st1_o H (by repeat (first | exact Rep.here | apply Rep.there)) (by simp) fun wx H => ?_
  refine st1_o H (by repeat (first | exact Rep.here | apply Rep.there)) (by simp) fun wx H => ?_
  repeat (first | refine ldI_o H (by repeat (first | exact Pick.here | apply Pick.there)) (by rfl) ?_ | refine ldL_o H (by repeat (first | exact Pick.here | apply Pick.there)) (by rfl) ?_ | refine ldB_o H (by repeat (first | exact Pick.here | apply Pick.there)) (by rfl) ?_ | refine ldP_o H (by repeat (first | exact Pick.here | apply Pick.there)) (by rfl) ?_ | refine ldS_o H (by repeat (first | exact Pick.here | apply Pick.there)) (by rfl) ?_)
  refine alc_o H fun b59 wx H => ?_
  refine call_o H (Fill_t b12 m ⟨8, 96, 0, 0⟩ z200 (row b59 (c5.cells ++ (c5.cells ++ c5.cells)) _) (p := some ⟨b59, 0, none⟩) (cc := 3) (cs := [c5, c5, c5]) ?_ (by simp)) (by repeat (first | exact Cut.nil | (apply Cut.cons; (repeat (first | exact Pick.here | apply Pick.there))))) fun vx L' wx hq H => ?_
  · rintro w S ⟨hr, -⟩ i cs hi
    refine ⟨_, rfl, fun j v hv => ?_⟩
    rw [add_lit, add_lit, Nat.zero_add]
    rw [hr.cell]
    match i, hi with
    | 0, hi => cases hi; rw [Nat.zero_mul, Nat.zero_add, List.getElem?_append_left (List.getElem?_eq_some_iff.1 hv).1]; exact hv
    | 1, hi => cases hi; rw [List.getElem?_append_right (by show 9 ≤ _; omega)]
               show (c5.cells ++ c5.cells)[1 * 9 + j - 9]? = _
               rw [show 1 * 9 + j - 9 = j by omega, List.getElem?_append_left (List.getElem?_eq_some_iff.1 hv).1]; exact hv
    | 2, hi => cases hi; rw [List.getElem?_append_right (by show 9 ≤ _; omega)]
               show (c5.cells ++ c5.cells)[2 * 9 + j - 9]? = _
               rw [List.getElem?_append_right (by show 9 ≤ _; omega)]
               show (c5.cells)[2 * 9 + j - 9 - 9]? = _
               rw [show 2 * 9 + j - 9 - 9 = j by omega]; exact hv
    | n + 3, hi => simp at hi
  obtain ⟨rfl, rfl⟩ := hq
  rw [awfill] at *
  simp only [List.cons_append, List.nil_append] at H
  refine ⟨_, _, rfl, ?_⟩
  repeat (first | refine ldI_o H (by repeat (first | exact Pick.here | apply Pick.there)) (by rfl) ?_ | refine ldL_o H (by repeat (first | exact Pick.here | apply Pick.there)) (by rfl) ?_ | refine ldB_o H (by repeat (first | exact Pick.here | apply Pick.there)) (by rfl) ?_ | refine ldP_o H (by repeat (first | exact Pick.here | apply Pick.there)) (by rfl) ?_ | refine ldS_o H (by repeat (first | exact Pick.here | apply Pick.there)) (by rfl) ?_)
  refine call_p H (Head_t m ⟨8, 96, 0, 64⟩ b2) (by repeat (first | exact Cut.nil | (apply Cut.cons; (repeat (first | exact Pick.here | apply Pick.there))))) fun wx H => ?_
  rw [show headQ ⟨8, 96, 0, 64⟩ b2 = (c5, 0) from aw2f.head]
  refine ⟨_, _, _, _, _, _, _, _, _, _, rfl, alc_o H fun b81 wx H => ?_⟩
  refine st1_o H (by repeat (first | exact Rep.here | apply Rep.there)) (by simp) fun wx H => ?_
  refine st1_o H (by repeat (first | exact Rep.here | apply Rep.there)) (by simp) fun wx H => ?_
  refine st1_o H (by repeat (first | exact Rep.here | apply Rep.there)) (by simp) fun wx H => ?_
  refine st1_o H (by repeat (first | exact Rep.here | apply Rep.there)) (by simp) fun wx H => ?_
  refine st1_o H (by repeat (first | exact Rep.here | apply Rep.there)) (by simp) fun wx H => ?_
  refine st1_o H (by repeat (first | exact Rep.here | apply Rep.there)) (by simp) fun wx H => ?_
  refine st1_o H (by repeat (first | exact Rep.here | apply Rep.there)) (by simp) fun wx H => ?_
  refine st1_o H (by repeat (first | exact Rep.here | apply Rep.there)) (by simp) fun wx H => ?_
  refine st1_o H (by repeat (first | exact Rep.here | apply Rep.there)) (by simp) fun wx H => ?_
  refine call_o H (Pass_t b12 ⟨8, 96, 0, 64⟩) (by repeat (first | exact Cut.nil | (apply Cut.cons; (repeat (first | exact Pick.here | apply Pick.there))))) fun vx L' wx hq H => ?_
  rw [awpass] at hq
  obtain ⟨rfl, rfl⟩ := hq
  simp only [List.cons_append, List.nil_append] at H
  refine ⟨_, rfl, join_o (cnd_i (fun _ => cnd_i (fun _ => ?_) (fun h => by cases h)) (fun h => by cases h))⟩
  repeat (first | refine ldI_o H (by repeat (first | exact Pick.here | apply Pick.there)) (by rfl) ?_ | refine ldL_o H (by repeat (first | exact Pick.here | apply Pick.there)) (by rfl) ?_ | refine ldB_o H (by repeat (first | exact Pick.here | apply Pick.there)) (by rfl) ?_ | refine ldP_o H (by repeat (first | exact Pick.here | apply Pick.there)) (by rfl) ?_ | refine ldS_o H (by repeat (first | exact Pick.here | apply Pick.there)) (by rfl) ?_)
  refine cm_eq (c := c5) (d := c5) ?_
  refine cnd_i (fun _ => cnd_i (fun _ => cnd_i (fun _ => ?_) (fun h => by cases h)) (fun h => by cases h)) (fun h => by simp at h)
  repeat (first | refine ldI_o H (by repeat (first | exact Pick.here | apply Pick.there)) (by rfl) ?_ | refine ldL_o H (by repeat (first | exact Pick.here | apply Pick.there)) (by rfl) ?_ | refine ldB_o H (by repeat (first | exact Pick.here | apply Pick.there)) (by rfl) ?_ | refine ldP_o H (by repeat (first | exact Pick.here | apply Pick.there)) (by rfl) ?_ | refine ldS_o H (by repeat (first | exact Pick.here | apply Pick.there)) (by rfl) ?_)
  refine call_p H (Left_t ⟨8, 96, 32, 64⟩) (by repeat (first | exact Cut.nil | (apply Cut.cons; (repeat (first | exact Pick.here | apply Pick.there))))) fun wx H => ?_
  rw [show Qu.left ⟨8, 96, 32, 64⟩ = 1 by kernel_rfl]
  refine ⟨_, rfl, cnd_i (fun _ => ?_) (fun h => by cases h)⟩
  repeat (first | refine ldI_o H (by repeat (first | exact Pick.here | apply Pick.there)) (by rfl) ?_ | refine ldL_o H (by repeat (first | exact Pick.here | apply Pick.there)) (by rfl) ?_ | refine ldB_o H (by repeat (first | exact Pick.here | apply Pick.there)) (by rfl) ?_ | refine ldP_o H (by repeat (first | exact Pick.here | apply Pick.there)) (by rfl) ?_ | refine ldS_o H (by repeat (first | exact Pick.here | apply Pick.there)) (by rfl) ?_)
  refine call_p H (Room_t ⟨8, 96, 32, 64⟩) (by repeat (first | exact Cut.nil | (apply Cut.cons; (repeat (first | exact Pick.here | apply Pick.there))))) fun wx H => ?_
  rw [show Qu.room ⟨8, 96, 32, 64⟩ = 1 by kernel_rfl]
  refine ⟨_, rfl, cnd_i (fun _ => ?_) (fun h => by cases h)⟩
  refine call_o H (SetWrite_t b12 ⟨8, 96, 32, 64⟩ 33) (by repeat (first | exact Cut.nil | (apply Cut.cons; (repeat (first | exact Pick.here | apply Pick.there))))) fun vx L' wx hq H => ?_
  rw [show setQ ⟨8, 96, 32, 64⟩ 33 = (⟨8, 96, 32, 64⟩, 1) by kernel_rfl] at hq
  obtain ⟨rfl, rfl⟩ := hq
  simp only [List.cons_append, List.nil_append] at H
  refine ⟨_, rfl, cnd_i (fun _ => ?_) (fun h => by cases h)⟩
  refine call_o H (SetWrite_t b12 ⟨8, 96, 32, 64⟩ 0) (by repeat (first | exact Cut.nil | (apply Cut.cons; (repeat (first | exact Pick.here | apply Pick.there))))) fun vx L' wx hq H => ?_
  rw [show setQ ⟨8, 96, 32, 64⟩ 0 = (⟨8, 96, 32, 0⟩, 0) by kernel_rfl] at hq
  obtain ⟨rfl, rfl⟩ := hq
  simp only [List.cons_append, List.nil_append] at H
  refine ⟨_, rfl, cnd_i (fun _ => ?_) (fun h => by cases h)⟩
  repeat (first | refine ldI_o H (by repeat (first | exact Pick.here | apply Pick.there)) (by rfl) ?_ | refine ldL_o H (by repeat (first | exact Pick.here | apply Pick.there)) (by rfl) ?_ | refine ldB_o H (by repeat (first | exact Pick.here | apply Pick.there)) (by rfl) ?_ | refine ldP_o H (by repeat (first | exact Pick.here | apply Pick.there)) (by rfl) ?_ | refine ldS_o H (by repeat (first | exact Pick.here | apply Pick.there)) (by rfl) ?_)
  refine call_p H (Left_t ⟨8, 96, 32, 0⟩) (by repeat (first | exact Cut.nil | (apply Cut.cons; (repeat (first | exact Pick.here | apply Pick.there))))) fun wx H => ?_
  rw [show Qu.left ⟨8, 96, 32, 0⟩ = 2 by kernel_rfl]
  refine ⟨_, rfl, cnd_i (fun _ => ?_) (fun h => by cases h)⟩
  repeat (first | refine ldI_o H (by repeat (first | exact Pick.here | apply Pick.there)) (by rfl) ?_ | refine ldL_o H (by repeat (first | exact Pick.here | apply Pick.there)) (by rfl) ?_ | refine ldB_o H (by repeat (first | exact Pick.here | apply Pick.there)) (by rfl) ?_ | refine ldP_o H (by repeat (first | exact Pick.here | apply Pick.there)) (by rfl) ?_ | refine ldS_o H (by repeat (first | exact Pick.here | apply Pick.there)) (by rfl) ?_)
  refine call_p H (Wrong_t m ⟨8, 96, 32, 0⟩ b2) (by repeat (first | exact Cut.nil | (apply Cut.cons; (repeat (first | exact Pick.here | apply Pick.there))))) fun wx H => ?_
  rw [awwrong]
  refine ⟨_, rfl, ?_⟩
  unfold crierlaw17_awake_j0
  exact ⟨_, ⟨rfl, rfl⟩, H.drop (by repeat (first | exact Cut.nil | (apply Cut.cons; (repeat (first | exact Pick.here | apply Pick.there)))))⟩
def frN (e : Int) : Nat := 1 + (e % 20).toNat
theorem frN_range (e : Int) : 1 ≤ frN e ∧ frN e ≤ 20 := by unfold frN; omega
theorem fresh_t (e : Int) (he : 0 ≤ e ∧ e ≤ 255) : Tri P F.crierlaw17_fresh [.int .u8 e] [] fun v L' => ∃ m bs, bs.length = 700 ∧ v = .tuple [quV ⟨16, 32 * ((frN e : Nat) : Int), 0, 0⟩, ptr m].toArray ∧ L' = [memI m bs] := by
  intro w S hS
  refine crierlaw17_fresh_cv ?_
  unfold crierlaw17_fresh
  have H := Own.start hS
  refine alc_o H fun b2 wx H => ?_
  refine call_o H (lawNewX_t 700) (by repeat (first | exact Cut.nil | (apply Cut.cons; (repeat (first | exact Pick.here | apply Pick.there))))) fun vx L' wx hq H => ?_
  obtain ⟨m, m', rfl, rfl⟩ := hq
  simp only [List.cons_append, List.nil_append] at H
  refine ⟨_, _, rfl, by omega, ?_⟩
  have e1 : IntKind.i64.wrap (32 * IntKind.i64.wrap (1 + IntKind.i64.wrap (Int.tmod e 20))) = 32 * ((frN e : Nat) : Int) := by
    rw [Int.tmod_eq_emod_of_nonneg he.1, W_id (n := e % 20) (by omega) (by omega), W_id (n := 1 + e % 20) (by omega) (by omega), W_id (by omega) (by omega)]
    unfold frN
    omega
  rw [e1]
  have hr := frN_range e
  refine call_p H (NewQ_t 16 (32 * ((frN e : Nat) : Int))) (by repeat (first | exact Cut.nil | (apply Cut.cons; (repeat (first | exact Pick.here | apply Pick.there))))) fun wx H => ?_
  have e2 : newQ 16 (32 * ((frN e : Nat) : Int)) = (⟨16, 32 * ((frN e : Nat) : Int), 0, 0⟩, 0) := by
    unfold newQ
    rw [right_n (by omega) (by omega)]
    rfl
  rw [e2]
  refine ⟨_, _, _, _, _, rfl, alc_o H fun b15 wx H => ?_⟩
  refine st1_o H (by repeat (first | exact Rep.here | apply Rep.there)) (by simp) fun wx H => ?_
  refine st1_o H (by repeat (first | exact Rep.here | apply Rep.there)) (by simp) fun wx H => ?_
  refine st1_o H (by repeat (first | exact Rep.here | apply Rep.there)) (by simp) fun wx H => ?_
  refine st1_o H (by repeat (first | exact Rep.here | apply Rep.there)) (by simp) fun wx H => ?_
  repeat (first | refine ldI_o H (by repeat (first | exact Pick.here | apply Pick.there)) (by rfl) ?_ | refine ldL_o H (by repeat (first | exact Pick.here | apply Pick.there)) (by rfl) ?_ | refine ldB_o H (by repeat (first | exact Pick.here | apply Pick.there)) (by rfl) ?_ | refine ldP_o H (by repeat (first | exact Pick.here | apply Pick.there)) (by rfl) ?_ | refine ldS_o H (by repeat (first | exact Pick.here | apply Pick.there)) (by rfl) ?_)
  refine st1_o H (by repeat (first | exact Rep.here | apply Rep.there)) (by simp) fun wx H => ?_
  refine st1_o H (by repeat (first | exact Rep.here | apply Rep.there)) (by simp) fun wx H => ?_
  refine st1_o H (by repeat (first | exact Rep.here | apply Rep.there)) (by simp) fun wx H => ?_
  refine st1_o H (by repeat (first | exact Rep.here | apply Rep.there)) (by simp) fun wx H => ?_
  repeat (first | refine ldI_o H (by repeat (first | exact Pick.here | apply Pick.there)) (by rfl) ?_ | refine ldL_o H (by repeat (first | exact Pick.here | apply Pick.there)) (by rfl) ?_ | refine ldB_o H (by repeat (first | exact Pick.here | apply Pick.there)) (by rfl) ?_ | refine ldP_o H (by repeat (first | exact Pick.here | apply Pick.there)) (by rfl) ?_ | refine ldS_o H (by repeat (first | exact Pick.here | apply Pick.there)) (by rfl) ?_)
  exact ⟨_, ⟨m, List.replicate (lawN 700) 0, by rw [List.length_replicate]; rfl, rfl, rfl⟩, H.drop (by repeat (first | exact Cut.nil | (apply Cut.cons; (repeat (first | exact Pick.here | apply Pick.there)))))⟩
end Go.Proofs.Ytggchklafbpgpaa
