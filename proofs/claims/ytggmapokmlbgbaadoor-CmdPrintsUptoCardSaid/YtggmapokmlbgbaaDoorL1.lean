/-
  cmd: the document's examples; CmdWords.
-/
import Derived.Test.YtggmapokmlbgbaaDoorU3
import Derived.Test.YtggmapokmlbgbaaDoorE10
namespace Go.Proofs.YtggmapokmlbgbaaDoor
open Go Go.RowKit X
set_option maxRecDepth 100000
set_option linter.unusedVariables false
set_option linter.unusedSimpArgs false
set_option maxHeartbeats 1000000
theorem eq4e {a0 a1 a2 a3 x0 x1 x2 x3 : Int} {w : World} {K : Bool → Prop} (hK : K (decide ([x0, x1, x2, x3] = [a0, a1, a2, a3]))) :
    eqA P .eql tW4 (.agg [.int .u64 x0, .int .u64 x1, .int .u64 x2, .int .u64 x3].toArray) (.agg [.int .u64 a0, .int .u64 a1, .int .u64 a2, .int .u64 a3].toArray) w K :=
  eqA_arrE Tryd.underlying26 (by kernel_rfl) (by kernel_rfl) (w4_items a0 a1 a2 a3 x0 x1 x2 x3 w) hK
def c10 : Cm := ⟨10, 3, 2, 8200, 1, 0, 0, 0, false⟩
theorem c10_enc : encM c10 = some [12884901898, 35218731827202, 1, 0] := by kernel_rfl
theorem dd1 {u : Nat} (h : u < 10) : Lib.itoa (u : Int) = [UInt8.ofNat (48 + u)] := by
  unfold Lib.itoa
  rw [if_neg (by omega), Int.toNat_natCast, Lib.decDigits_one h]
theorem dd8200 : Lib.itoa 8200 = [56, 50, 48, 48] := by
  unfold Lib.itoa
  rw [if_neg (by omega), show (8200 : Int).toNat = 8200 from rfl, Lib.decDigits, dif_neg (by omega), Lib.decDigits, dif_neg (by omega), Lib.decDigits_two (by omega) (by omega)]
  rfl
theorem c10_print : printL c10 = [109, 97, 112, 116, 105, 32, 51, 32, 50, 32, 56, 50, 48, 48, 32, 49] := by
  have h3 : Lib.itoa 3 = [51] := dd1 (u := 3) (by omega)
  have h2 : Lib.itoa 2 = [50] := dd1 (u := 2) (by omega)
  have h1 : Lib.itoa 1 = [49] := dd1 (u := 1) (by omega)
  have hw : wordsK c10 8 = [⟨#[109, 97, 112, 116, 105]⟩, ⟨(Lib.itoa 3).toArray⟩, ⟨(Lib.itoa 2).toArray⟩, ⟨(Lib.itoa 8200).toArray⟩, ⟨(Lib.itoa 1).toArray⟩] := by kernel_rfl
  unfold printL
  rw [hw, h3, h2, h1, dd8200]
  decide +kernel
theorem told_t (e : Int) (ok : Bool) (h : (ok = true ∧ e = 0) ∨ (ok = false ∧ e = 160)) : Tri P F.crierlaw16_told [.int .i64 e, .bool ok] [] fun v L' => v = .bool true ∧ L' = [] := by
  intro w S hS
  refine crierlaw16_told_cv ?_
  unfold crierlaw16_told
  have H := Own.start hS
  refine join_o ?_
  unfold crierlaw16_told_j0
  rcases h with ⟨rfl, rfl⟩ | ⟨rfl, rfl⟩
  · exact cnd_i (fun _ => cnd_i (fun _ => ⟨_, ⟨rfl, rfl⟩, H⟩) (fun h => by cases h)) (fun h => by cases h)
  · exact cnd_i (fun h => by cases h) fun _ => cnd_i (fun _ => ⟨_, ⟨rfl, rfl⟩, H⟩) (fun h => by cases h)
theorem awake_t {W : World} (hT : PowAt W) : Tri P F.crierlaw16_awake [] [keep W] fun v L' => v = .bool true ∧ L' = [keep W] := by
  intro w S hS
  refine crierlaw16_awake_cv ?_
  unfold crierlaw16_awake
  have H := Own.start hS
  refine alc_o H fun b1 wx H => ?_
  refine st1_a H fun wx H => ?_
  refine st1_a H fun wx H => ?_
  refine st1_a H fun wx H => ?_
  refine st1_a H fun wx H => ?_
  refine st1_a H fun wx H => ?_
  refine st1_a H fun wx H => ?_
  refine st1_a H fun wx H => ?_
  refine st1_a H fun wx H => ?_
  refine st1_a H fun wx H => ?_
  repeat (first | refine ldI_a H ?_ | refine ldL_a H ?_ | refine ldB_a H ?_ | refine ldP_a H ?_ | refine ldS_a H ?_)
  refine call_pa H (Encode_t c10) fun wx H => ?_
  rw [show encV c10 = .tuple [.agg [.int .u64 12884901898, .int .u64 35218731827202, .int .u64 1, .int .u64 0].toArray, .int .i64 0].toArray by unfold encV; rw [c10_enc]; rfl]
  refine ⟨_, _, _, _, _, rfl, alc_o H fun b28 wx H => ?_⟩
  refine st1_a H fun wx H => ?_
  refine st1_a H fun wx H => ?_
  refine st1_a H fun wx H => ?_
  refine st1_a H fun wx H => ?_
  repeat (first | refine ldI_a H ?_ | refine ldL_a H ?_ | refine ldB_a H ?_ | refine ldP_a H ?_ | refine ldS_a H ?_)
  refine call_pa H (Print_t hT c10) fun wx H => ?_
  rw [show printV c10 = .tuple [strV [109, 97, 112, 116, 105, 32, 51, 32, 50, 32, 56, 50, 48, 48, 32, 49], .int .i64 0].toArray by unfold printV; rw [c10_enc, c10_print]]
  refine ⟨_, _, rfl, ?_⟩
  refine call_pa H (Decode_t 4294967304 3 9223372036854777856 0) fun wx H => ?_
  rw [show decV [4294967304, 3, 9223372036854777856, 0] = .tuple [cmV ⟨8, 1, 0, 0, 0, 0, 3, 2048, true⟩, .int .i64 0].toArray by
    unfold decV
    rw [show decM [4294967304, 3, 9223372036854777856, 0] = some ⟨8, 1, 0, 0, 0, 0, 3, 2048, true⟩ by kernel_rfl]]
  refine ⟨_, _, _, _, _, _, _, _, _, _, rfl, alc_o H fun b59 wx H => ?_⟩
  refine st1_a H fun wx H => ?_
  refine st1_a H fun wx H => ?_
  refine st1_a H fun wx H => ?_
  refine st1_a H fun wx H => ?_
  refine st1_a H fun wx H => ?_
  refine st1_a H fun wx H => ?_
  refine st1_a H fun wx H => ?_
  refine st1_a H fun wx H => ?_
  refine st1_a H fun wx H => ?_
  refine call_pa H (Encode_t ⟨5, 0, 0, 0, 1, 0, 0, 0, false⟩) fun wx H => ?_
  rw [show encV ⟨5, 0, 0, 0, 1, 0, 0, 0, false⟩ = .tuple [.agg [.int .u64 0, .int .u64 0, .int .u64 0, .int .u64 0].toArray, .int .i64 160].toArray by
    unfold encV
    rw [show encM ⟨5, 0, 0, 0, 1, 0, 0, 0, false⟩ = none by kernel_rfl]; rfl]
  refine ⟨_, _, _, _, _, rfl, alc_o H fun b77 wx H => ?_⟩
  refine st1_a H fun wx H => ?_
  refine st1_a H fun wx H => ?_
  refine st1_a H fun wx H => ?_
  refine st1_a H fun wx H => ?_
  refine join_o ?_
  unfold crierlaw16_awake_j0
  repeat (first | refine ldI_a H ?_ | refine ldL_a H ?_ | refine ldB_a H ?_ | refine ldP_a H ?_ | refine ldS_a H ?_)
  refine eq4e (cnd_i (fun _ => cnd_i (fun _ => cnd_i (fun _ => cnd_i (fun _ => ?_) (fun h => by cases h)) fun h => ?_) (fun h => by cases h)) fun h => by simp at h)
  · repeat (first | refine ldI_a H ?_ | refine ldL_a H ?_ | refine ldB_a H ?_ | refine ldP_a H ?_ | refine ldS_a H ?_)
    refine cm_eq (c := ⟨8, 1, 0, 0, 0, 0, 3, 2048, true⟩) (d := ⟨8, 1, 0, 0, 0, 0, 3, 2048, true⟩) (cnd_i (fun _ => cnd_i (fun _ => ?_) (fun h => by cases h)) fun h => by simp at h)
    exact ⟨_, ⟨rfl, rfl⟩, H.dp⟩
  · exfalso
    revert h
    simp
theorem enc_told (c : Cm) : ∃ x0 x1 x2 x3 e, encV c = .tuple [.agg [.int .u64 x0, .int .u64 x1, .int .u64 x2, .int .u64 x3].toArray, .int .i64 e].toArray ∧ ∀ hI : -9223372036854775808 ≤ c.addr ∧ c.addr ≤ 9223372036854775807, ∃ ok, refV c = .tuple [.agg [.int .u64 x0, .int .u64 x1, .int .u64 x2, .int .u64 x3].toArray, .bool ok].toArray ∧ ((ok = true ∧ e = 0) ∨ (ok = false ∧ e = 160)) := by
  cases he : encM c with
  | none => exact ⟨0, 0, 0, 0, 160, by unfold encV; rw [he]; rfl, fun hI => ⟨false, by unfold refV; rw [ref_enc hI, he]; rfl, .inr ⟨rfl, rfl⟩⟩⟩
  | some ws =>
    obtain ⟨x0, x1, x2, x3, rfl⟩ := four (enc_range he).1
    exact ⟨x0, x1, x2, x3, 0, by unfold encV; rw [he]; rfl, fun hI => ⟨true, by unfold refV; rw [ref_enc hI, he]; rfl, .inl ⟨rfl, rfl⟩⟩⟩
theorem cmdWords_cv {W : World} (hT : PowAt W) (c : Cm) (hI : -9223372036854775808 ≤ c.addr ∧ c.addr ≤ 9223372036854775807) (a0 a1 a2 a3 : Int) (ha : ∀ x ∈ [a0, a1, a2, a3], 0 ≤ x ∧ x < 2 ^ 64) :
    CV P F.crierlaw16_CmdWords [cmV c, .agg [.int .u64 a0, .int .u64 a1, .int .u64 a2, .int .u64 a3].toArray] W fun v w' => v = .bool true ∧ Below W.heap.size W w' := by
  refine crierlaw16_CmdWords_cv ?_
  unfold crierlaw16_CmdWords
  have H := keep_start W
  refine alc_o H fun b14 wx H => alc_o H fun b16 wx H => ?_
  repeat (first | refine ldI_a H ?_ | refine ldL_a H ?_ | refine ldB_a H ?_ | refine ldP_a H ?_ | refine ldS_a H ?_)
  refine call_pa H (Encode_t c) fun wx H => ?_
  obtain ⟨x0, x1, x2, x3, e, e1, e2⟩ := enc_told c
  obtain ⟨ok, e2, e3⟩ := e2 hI
  rw [e1]
  refine ⟨_, _, _, _, _, rfl, alc_o H fun b34 wx H => ?_⟩
  refine st1_a H fun wx H => ?_
  refine st1_a H fun wx H => ?_
  refine st1_a H fun wx H => ?_
  refine st1_a H fun wx H => ?_
  repeat (first | refine ldI_a H ?_ | refine ldL_a H ?_ | refine ldB_a H ?_ | refine ldP_a H ?_ | refine ldS_a H ?_)
  refine call_pa H (refEncode_t c hI) fun wx H => ?_
  rw [e2]
  refine ⟨_, _, _, _, _, rfl, alc_o H fun b56 wx H => ?_⟩
  refine st1_a H fun wx H => ?_
  refine st1_a H fun wx H => ?_
  refine st1_a H fun wx H => ?_
  refine st1_a H fun wx H => ?_
  repeat (first | refine ldI_a H ?_ | refine ldL_a H ?_ | refine ldB_a H ?_ | refine ldP_a H ?_ | refine ldS_a H ?_)
  refine call_pa H (Decode_t a0 a1 a2 a3) fun wx H => ?_
  have hd : ∃ d f fine, decV [a0, a1, a2, a3] = .tuple [cmV d, .int .i64 f].toArray ∧ refDecV [a0, a1, a2, a3] = .tuple [cmV d, .bool fine].toArray ∧ ((fine = true ∧ f = 0) ∨ (fine = false ∧ f = 160)) := by
    unfold decV refDecV
    cases decM [a0, a1, a2, a3] with
    | none => exact ⟨cm0, 160, false, rfl, rfl, .inr ⟨rfl, rfl⟩⟩
    | some d => exact ⟨d, 0, true, rfl, rfl, .inl ⟨rfl, rfl⟩⟩
  obtain ⟨d, f, fine, d1, d2, d3⟩ := hd
  rw [d1]
  refine ⟨_, _, _, _, _, _, _, _, _, _, rfl, alc_o H fun b78 wx H => ?_⟩
  refine st1_a H fun wx H => ?_
  refine st1_a H fun wx H => ?_
  refine st1_a H fun wx H => ?_
  refine st1_a H fun wx H => ?_
  refine st1_a H fun wx H => ?_
  refine st1_a H fun wx H => ?_
  refine st1_a H fun wx H => ?_
  refine st1_a H fun wx H => ?_
  refine st1_a H fun wx H => ?_
  repeat (first | refine ldI_a H ?_ | refine ldL_a H ?_ | refine ldB_a H ?_ | refine ldP_a H ?_ | refine ldS_a H ?_)
  refine call_pa H (refDecode_t a0 a1 a2 a3 ha) fun wx H => ?_
  rw [d2]
  refine ⟨_, _, _, _, _, _, _, _, _, _, rfl, alc_o H fun b105 wx H => ?_⟩
  refine st1_a H fun wx H => ?_
  refine st1_a H fun wx H => ?_
  refine st1_a H fun wx H => ?_
  refine st1_a H fun wx H => ?_
  refine st1_a H fun wx H => ?_
  refine st1_a H fun wx H => ?_
  refine st1_a H fun wx H => ?_
  refine st1_a H fun wx H => ?_
  refine st1_a H fun wx H => ?_
  refine join_o ?_
  unfold crierlaw16_CmdWords_j0
  refine drw_o H fun wx H => ?_
  refine call_pa H (awake_t hT) fun wx H => ?_
  refine ⟨_, rfl, cnd_i (fun _ => ?_) (fun h => by cases h)⟩
  repeat (first | refine ldI_a H ?_ | refine ldL_a H ?_ | refine ldB_a H ?_ | refine ldP_a H ?_ | refine ldS_a H ?_)
  refine eq4e (cnd_i (fun _ => ?_) fun h => by simp at h)
  refine call_pa H (told_t e ok e3) fun wx H => ?_
  refine ⟨_, rfl, cnd_i (fun _ => ?_) (fun h => by cases h)⟩
  repeat (first | refine ldI_a H ?_ | refine ldL_a H ?_ | refine ldB_a H ?_ | refine ldP_a H ?_ | refine ldS_a H ?_)
  refine cm_eq (c := d) (d := d) (cnd_i (fun _ => ?_) fun h => by simp at h)
  refine call_pa H (told_t f fine d3) fun wx H => ?_
  refine ⟨_, rfl, cnd_i (fun _ => ?_) (fun h => by cases h)⟩
  repeat (first | refine ldI_a H ?_ | refine ldL_a H ?_ | refine ldB_a H ?_ | refine ldP_a H ?_ | refine ldS_a H ?_)
  refine call_pa H (Known_t c.op) fun wx H => ?_
  refine ⟨_, rfl, ldI_o H (by repeat (first | exact Pick.here | apply Pick.there)) rfl rfl, ?_⟩
  refine call_pa H (refKnown_t c.op) fun wx H => ?_
  exact ⟨_, rfl, by simp, keep_done H (by repeat (first | exact Pick.here | apply Pick.there))⟩
end Go.Proofs.YtggmapokmlbgbaaDoor
