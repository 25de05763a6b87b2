/-
  cmd: CmdTurned.
-/
import Derived.Test.YtggmapokmlbgbaaDoorL1
namespace Go.Proofs.YtggmapokmlbgbaaDoor
open Go Go.RowKit X
set_option maxRecDepth 100000
set_option linter.unusedVariables false
set_option linter.unusedSimpArgs false
set_option maxHeartbeats 1000000
def flipB (x b : Int) : Int := bitX .xor .u64 x (IntKind.u64.wrap (1 * 2 ^ min (Int.toNat (Int.tmod b 64)) IntKind.u64.bits))
theorem flip_ne {x b : Int} (hx : 0 ≤ x ∧ x < 2 ^ 64) (hb : 0 ≤ b) : flipB x b ≠ x := by
  have hm : 0 ≤ b % 64 ∧ b % 64 < 64 := ⟨Int.emod_nonneg _ (by omega), Int.emod_lt_of_pos _ (by omega)⟩
  obtain ⟨m, rfl⟩ := Int.eq_ofNat_of_zero_le hx.1
  have hmm : m < 2 ^ 64 := by omega
  unfold flipB
  rw [Int.tmod_eq_emod_of_nonneg hb]
  obtain ⟨s, hs⟩ := Int.eq_ofNat_of_zero_le hm.1
  rw [hs] at hm ⊢
  have hs64 : s < 64 := by omega
  rw [shl1_u64 hs64]
  have hp : (2 : Nat) ^ s < 2 ^ 64 := Nat.pow_lt_pow_right (by omega) hs64
  intro h
  have h : IntKind.u64.wrap ((BitVec.ofInt 64 (m : Int) ^^^ BitVec.ofInt 64 ((2 ^ s : Nat) : Int)).toNat : Int) = (m : Int) := h
  rw [BitVec.toNat_xor, BitVec.ofInt_natCast, BitVec.ofInt_natCast, BitVec.toNat_ofNat, BitVec.toNat_ofNat, Nat.mod_eq_of_lt hmm, Nat.mod_eq_of_lt hp] at h
  have hlt : m ^^^ 2 ^ s < 2 ^ 64 := Nat.xor_lt_two_pow hmm hp
  rw [u64_id hlt] at h
  have h : m ^^^ 2 ^ s = m := by exact_mod_cast h
  have h2 := congrArg (fun n => n.testBit s) h
  simp [Nat.testBit_xor, Nat.testBit_two_pow_self] at h2
theorem cmdTurned_cv {W : World} (hT : PowAt W) (c : Cm) (a b : Int) (ha : 0 ≤ a ∧ a ≤ 255) (hb : 0 ≤ b ∧ b ≤ 255) :
    CV P F.crierlaw16_CmdTurned [cmV c, .int .u8 a, .int .u8 b] W fun v w' => v = .bool true ∧ Below W.heap.size W w' := by
  refine crierlaw16_CmdTurned_cv ?_
  unfold crierlaw16_CmdTurned
  have H := keep_start W
  refine alc_o H fun b12 wx H => ?_
  refine call_p H (awake_t hT) (by repeat (first | exact Cut.nil | (apply Cut.cons; (repeat (first | exact Pick.here | apply Pick.there))))) fun wx H => ?_
  refine ⟨_, rfl, cnd_i (fun h => by cases h) fun _ => ?_⟩
  repeat (first | refine ldI_o H (by repeat (first | exact Pick.here | apply Pick.there)) (by rfl) ?_ | refine ldL_o H (by repeat (first | exact Pick.here | apply Pick.there)) (by rfl) ?_ | refine ldB_o H (by repeat (first | exact Pick.here | apply Pick.there)) (by rfl) ?_ | refine ldP_o H (by repeat (first | exact Pick.here | apply Pick.there)) (by rfl) ?_ | refine ldS_o H (by repeat (first | exact Pick.here | apply Pick.there)) (by rfl) ?_)
  refine call_p H (Encode_t c) (by repeat (first | exact Cut.nil | (apply Cut.cons; (repeat (first | exact Pick.here | apply Pick.there))))) fun wx H => ?_
  cases he : encM c with
  | none =>
    have e : encV c = .tuple [.agg [.int .u64 0, .int .u64 0, .int .u64 0, .int .u64 0].toArray, .int .i64 160].toArray := by unfold encV; rw [he]; rfl
    rw [e]
    refine ⟨_, _, _, _, _, rfl, alc_o H fun b33 wx H => ?_⟩
    refine st1_o H (by repeat (first | exact Rep.here | apply Rep.there)) (by simp) fun wx H => ?_
    refine st1_o H (by repeat (first | exact Rep.here | apply Rep.there)) (by simp) fun wx H => ?_
    refine st1_o H (by repeat (first | exact Rep.here | apply Rep.there)) (by simp) fun wx H => ?_
    refine st1_o H (by repeat (first | exact Rep.here | apply Rep.there)) (by simp) fun wx H => ?_
    exact cnd_i (fun _ => ⟨rfl, keep_done H (by repeat (first | exact Pick.here | apply Pick.there))⟩) (fun h => by cases h)
  | some ws =>
    obtain ⟨hl, hwr⟩ := enc_range he
    obtain ⟨x0, x1, x2, x3, rfl⟩ := four hl
    have e : encV c = .tuple [.agg [.int .u64 x0, .int .u64 x1, .int .u64 x2, .int .u64 x3].toArray, .int .i64 0].toArray := by unfold encV; rw [he]; rfl
    rw [e]
    refine ⟨_, _, _, _, _, rfl, alc_o H fun b33 wx H => ?_⟩
    refine st1_o H (by repeat (first | exact Rep.here | apply Rep.there)) (by simp) fun wx H => ?_
    refine st1_o H (by repeat (first | exact Rep.here | apply Rep.there)) (by simp) fun wx H => ?_
    refine st1_o H (by repeat (first | exact Rep.here | apply Rep.there)) (by simp) fun wx H => ?_
    refine st1_o H (by repeat (first | exact Rep.here | apply Rep.there)) (by simp) fun wx H => ?_
    refine cnd_i (fun h => by cases h) fun _ => ⟨by omega, by omega, ?_⟩
    obtain ⟨i, hi, hi4⟩ : ∃ i : Nat, Int.tmod a 4 = (i : Int) ∧ i < 4 := ⟨(a % 4).toNat, by rw [Int.tmod_eq_emod_of_nonneg ha.1]; omega, by omega⟩
    rw [hi]
    refine ix_i hi4 ?_
    rw [add_lit, Nat.mul_one, Nat.zero_add]
    refine ldI_o H .here (wI_get (ws := [x0, x1, x2, x3]) hi4) ⟨by omega, by rw [Int.tmod_eq_emod_of_nonneg hb.1]; omega, ix_i hi4 ?_⟩
    rw [add_lit, Nat.mul_one, Nat.zero_add]
    have hx : 0 ≤ ([x0, x1, x2, x3] : List Int).getD i 0 ∧ ([x0, x1, x2, x3] : List Int).getD i 0 < 2 ^ 64 := by
      refine hwr _ ?_
      rw [List.getD_eq_getElem?_getD, List.getElem?_eq_getElem (by exact hi4)]
      exact List.getElem_mem _
    have hne : ([x0, x1, x2, x3] : List Int).set i (flipB (([x0, x1, x2, x3] : List Int).getD i 0) b) ≠ [x0, x1, x2, x3] := by
      intro h
      have h2 := congrArg (fun l => l.getD i 0) h
      rw [show (([x0, x1, x2, x3] : List Int).set i (flipB (([x0, x1, x2, x3] : List Int).getD i 0) b)).getD i 0 = flipB (([x0, x1, x2, x3] : List Int).getD i 0) b by
        rw [List.getD_eq_getElem?_getD, List.getElem?_set_self (by exact hi4)]; rfl] at h2
      exact flip_ne hx hb.1 h2
    refine st1_o H .here (by exact hi4) fun wx H => ?_
    have H : X.Own W (fun k => k < W.heap.size) (row b33 (wI (([x0, x1, x2, x3] : List Int).set i (flipB (([x0, x1, x2, x3] : List Int).getD i 0) b))) tW4 :: [row b12 c.cells tCmd, keep W]) wx := by
      rw [← wI_set]; exact H
    obtain ⟨y0, y1, y2, y3, hy⟩ := four (ws := ([x0, x1, x2, x3] : List Int).set i (flipB (([x0, x1, x2, x3] : List Int).getD i 0) b)) (by rw [List.length_set]; rfl)
    rw [hy] at H hne
    repeat (first | refine ldI_o H (by repeat (first | exact Pick.here | apply Pick.there)) (by rfl) ?_ | refine ldL_o H (by repeat (first | exact Pick.here | apply Pick.there)) (by rfl) ?_ | refine ldB_o H (by repeat (first | exact Pick.here | apply Pick.there)) (by rfl) ?_ | refine ldP_o H (by repeat (first | exact Pick.here | apply Pick.there)) (by rfl) ?_ | refine ldS_o H (by repeat (first | exact Pick.here | apply Pick.there)) (by rfl) ?_)
    refine call_p H (Decode_t y0 y1 y2 y3) (by repeat (first | exact Cut.nil | (apply Cut.cons; (repeat (first | exact Pick.here | apply Pick.there))))) fun wx H => ?_
    unfold decV
    cases hd : decM [y0, y1, y2, y3] with
    | none =>
      refine ⟨_, _, _, _, _, _, _, _, _, _, rfl, alc_o H fun b59 wx H => ?_⟩
      refine st1_o H (by repeat (first | exact Rep.here | apply Rep.there)) (by simp) fun wx H => ?_
      refine st1_o H (by repeat (first | exact Rep.here | apply Rep.there)) (by simp) fun wx H => ?_
      refine st1_o H (by repeat (first | exact Rep.here | apply Rep.there)) (by simp) fun wx H => ?_
      refine st1_o H (by repeat (first | exact Rep.here | apply Rep.there)) (by simp) fun wx H => ?_
      refine st1_o H (by repeat (first | exact Rep.here | apply Rep.there)) (by simp) fun wx H => ?_
      refine st1_o H (by repeat (first | exact Rep.here | apply Rep.there)) (by simp) fun wx H => ?_
      refine st1_o H (by repeat (first | exact Rep.here | apply Rep.there)) (by simp) fun wx H => ?_
      refine st1_o H (by repeat (first | exact Rep.here | apply Rep.there)) (by simp) fun wx H => ?_
      refine st1_o H (by repeat (first | exact Rep.here | apply Rep.there)) (by simp) fun wx H => ?_
      refine join_o (cnd_i (fun _ => cnd_i (fun _ => ?_) (fun h => by cases h)) (fun h => by cases h))
      repeat (first | refine ldI_o H (by repeat (first | exact Pick.here | apply Pick.there)) (by rfl) ?_ | refine ldL_o H (by repeat (first | exact Pick.here | apply Pick.there)) (by rfl) ?_ | refine ldB_o H (by repeat (first | exact Pick.here | apply Pick.there)) (by rfl) ?_ | refine ldP_o H (by repeat (first | exact Pick.here | apply Pick.there)) (by rfl) ?_ | refine ldS_o H (by repeat (first | exact Pick.here | apply Pick.there)) (by rfl) ?_)
      refine cm_eq (c := cm0) (d := cm0) (cnd_i (fun _ => ?_) fun h => by simp at h)
      unfold crierlaw16_CmdTurned_j0
      exact ⟨rfl, keep_done H (by repeat (first | exact Pick.here | apply Pick.there))⟩
    | some d =>
      have hdc : d ≠ c := by
        intro h
        have := enc_dec hd
        rw [h, he] at this
        exact hne (Option.some.inj this).symm
      refine ⟨_, _, _, _, _, _, _, _, _, _, rfl, alc_o H fun b59 wx H => ?_⟩
      refine st1_o H (by repeat (first | exact Rep.here | apply Rep.there)) (by simp) fun wx H => ?_
      refine st1_o H (by repeat (first | exact Rep.here | apply Rep.there)) (by simp) fun wx H => ?_
      refine st1_o H (by repeat (first | exact Rep.here | apply Rep.there)) (by simp) fun wx H => ?_
      refine st1_o H (by repeat (first | exact Rep.here | apply Rep.there)) (by simp) fun wx H => ?_
      refine st1_o H (by repeat (first | exact Rep.here | apply Rep.there)) (by simp) fun wx H => ?_
      refine st1_o H (by repeat (first | exact Rep.here | apply Rep.there)) (by simp) fun wx H => ?_
      refine st1_o H (by repeat (first | exact Rep.here | apply Rep.there)) (by simp) fun wx H => ?_
      refine st1_o H (by repeat (first | exact Rep.here | apply Rep.there)) (by simp) fun wx H => ?_
      refine st1_o H (by repeat (first | exact Rep.here | apply Rep.there)) (by simp) fun wx H => ?_
      refine join_o (cnd_i (fun _ => cnd_i (fun h => by cases h) fun _ => cnd_i (fun _ => ?_) (fun h => by cases h)) (fun h => by cases h))
      repeat (first | refine ldI_o H (by repeat (first | exact Pick.here | apply Pick.there)) (by rfl) ?_ | refine ldL_o H (by repeat (first | exact Pick.here | apply Pick.there)) (by rfl) ?_ | refine ldB_o H (by repeat (first | exact Pick.here | apply Pick.there)) (by rfl) ?_ | refine ldP_o H (by repeat (first | exact Pick.here | apply Pick.there)) (by rfl) ?_ | refine ldS_o H (by repeat (first | exact Pick.here | apply Pick.there)) (by rfl) ?_)
      refine cm_ne (c := d) (d := c) ?_
      unfold crierlaw16_CmdTurned_j0
      rw [decide_eq_false hdc]
      exact ⟨rfl, keep_done H (by repeat (first | exact Pick.here | apply Pick.there))⟩
end Go.Proofs.YtggmapokmlbgbaaDoor
