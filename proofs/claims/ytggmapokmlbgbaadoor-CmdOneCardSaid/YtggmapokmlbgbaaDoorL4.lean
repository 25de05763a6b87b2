/-
  cmd: CmdOne's walk.
-/
import Derived.Test.YtggmapokmlbgbaaDoorL3
import Derived.Laws.Strings
namespace Go.Proofs.YtggmapokmlbgbaaDoor
open Go Go.RowKit X
set_option maxRecDepth 100000
set_option linter.unusedVariables false
set_option linter.unusedSimpArgs false
set_option maxHeartbeats 1000000
theorem pr_told (c : Cm) : ∃ x0 x1 x2 x3 e s, encV c = .tuple [.agg [.int .u64 x0, .int .u64 x1, .int .u64 x2, .int .u64 x3].toArray, .int .i64 e].toArray ∧ printV c = .tuple [.string s, .int .i64 e].toArray ∧
    ((e = 0 ∧ encM c = some [x0, x1, x2, x3] ∧ s.toList = printL c) ∨ (e = 160)) := by
  cases he : encM c with
  | none => exact ⟨0, 0, 0, 0, 160, ⟨#[]⟩, by unfold encV; rw [he]; rfl, by unfold printV; rw [he], .inr rfl⟩
  | some ws =>
    obtain ⟨x0, x1, x2, x3, rfl⟩ := four (enc_range he).1
    exact ⟨x0, x1, x2, x3, 0, ⟨(printL c).toArray⟩, by unfold encV; rw [he]; rfl, by unfold printV; rw [he]; rfl, .inl ⟨rfl, rfl, ByteArray.toList_mk _⟩⟩
theorem cmdOne_cv {W : World} (hT : PowAt W) (c d : Cm) :
    CV P F.crierlaw16_CmdOne [cmV c, cmV d] W fun v w' => v = .bool true ∧ Below W.heap.size W w' := by
  refine crierlaw16_CmdOne_cv ?_
  unfold crierlaw16_CmdOne
  have H := keep_start W
  refine alc_o H fun b19 wx H => alc_o H fun b21 wx H => ?_
  refine call_p H (awake_t hT) (by repeat (first | exact Cut.nil | (apply Cut.cons; (repeat (first | exact Pick.here | apply Pick.there))))) fun wx H => ?_
  refine ⟨_, rfl, cnd_i (fun h => by cases h) fun _ => ?_⟩
  obtain ⟨x0, x1, x2, x3, e, s, e1, p1, h1⟩ := pr_told c
  obtain ⟨y0, y1, y2, y3, f, t, e2, p2, h2⟩ := pr_told d
  repeat (first | refine ldI_o H (by repeat (first | exact Pick.here | apply Pick.there)) (by rfl) ?_ | refine ldL_o H (by repeat (first | exact Pick.here | apply Pick.there)) (by rfl) ?_ | refine ldB_o H (by repeat (first | exact Pick.here | apply Pick.there)) (by rfl) ?_ | refine ldP_o H (by repeat (first | exact Pick.here | apply Pick.there)) (by rfl) ?_ | refine ldS_o H (by repeat (first | exact Pick.here | apply Pick.there)) (by rfl) ?_)
  refine call_p H (Encode_t c) (by repeat (first | exact Cut.nil | (apply Cut.cons; (repeat (first | exact Pick.here | apply Pick.there))))) fun wx H => ?_
  rw [e1]
  refine ⟨_, _, _, _, _, rfl, alc_o H fun b42 wx H => ?_⟩
  refine st1_o H (by repeat (first | exact Rep.here | apply Rep.there)) (by simp) fun wx H => ?_
  refine st1_o H (by repeat (first | exact Rep.here | apply Rep.there)) (by simp) fun wx H => ?_
  refine st1_o H (by repeat (first | exact Rep.here | apply Rep.there)) (by simp) fun wx H => ?_
  refine st1_o H (by repeat (first | exact Rep.here | apply Rep.there)) (by simp) fun wx H => ?_
  repeat (first | refine ldI_o H (by repeat (first | exact Pick.here | apply Pick.there)) (by rfl) ?_ | refine ldL_o H (by repeat (first | exact Pick.here | apply Pick.there)) (by rfl) ?_ | refine ldB_o H (by repeat (first | exact Pick.here | apply Pick.there)) (by rfl) ?_ | refine ldP_o H (by repeat (first | exact Pick.here | apply Pick.there)) (by rfl) ?_ | refine ldS_o H (by repeat (first | exact Pick.here | apply Pick.there)) (by rfl) ?_)
  refine call_p H (Encode_t d) (by repeat (first | exact Cut.nil | (apply Cut.cons; (repeat (first | exact Pick.here | apply Pick.there))))) fun wx H => ?_
  rw [e2]
  refine ⟨_, _, _, _, _, rfl, alc_o H fun b64 wx H => ?_⟩
  refine st1_o H (by repeat (first | exact Rep.here | apply Rep.there)) (by simp) fun wx H => ?_
  refine st1_o H (by repeat (first | exact Rep.here | apply Rep.there)) (by simp) fun wx H => ?_
  refine st1_o H (by repeat (first | exact Rep.here | apply Rep.there)) (by simp) fun wx H => ?_
  refine st1_o H (by repeat (first | exact Rep.here | apply Rep.there)) (by simp) fun wx H => ?_
  repeat (first | refine ldI_o H (by repeat (first | exact Pick.here | apply Pick.there)) (by rfl) ?_ | refine ldL_o H (by repeat (first | exact Pick.here | apply Pick.there)) (by rfl) ?_ | refine ldB_o H (by repeat (first | exact Pick.here | apply Pick.there)) (by rfl) ?_ | refine ldP_o H (by repeat (first | exact Pick.here | apply Pick.there)) (by rfl) ?_ | refine ldS_o H (by repeat (first | exact Pick.here | apply Pick.there)) (by rfl) ?_)
  refine call_p H (Print_t hT c) (by repeat (first | exact Cut.nil | (apply Cut.cons; (repeat (first | exact Pick.here | apply Pick.there))))) fun wx H => ?_
  rw [p1]
  refine ⟨_, _, rfl, ?_⟩
  repeat (first | refine ldI_o H (by repeat (first | exact Pick.here | apply Pick.there)) (by rfl) ?_ | refine ldL_o H (by repeat (first | exact Pick.here | apply Pick.there)) (by rfl) ?_ | refine ldB_o H (by repeat (first | exact Pick.here | apply Pick.there)) (by rfl) ?_ | refine ldP_o H (by repeat (first | exact Pick.here | apply Pick.there)) (by rfl) ?_ | refine ldS_o H (by repeat (first | exact Pick.here | apply Pick.there)) (by rfl) ?_)
  refine call_p H (Print_t hT d) (by repeat (first | exact Cut.nil | (apply Cut.cons; (repeat (first | exact Pick.here | apply Pick.there))))) fun wx H => ?_
  rw [p2]
  refine ⟨_, _, rfl, join_o (cnd_i (fun h => by simp at h) fun _ => ?_)⟩
  unfold crierlaw16_CmdOne_j1
  refine cnd_i (fun h => by simp at h) fun _ => join_o ?_
  refine drw_o H fun wx H => ?_
  refine cnd_i (fun _ => ?_) (fun h => by cases h)
  refine cnd_i (fun _ => ⟨rfl, keep_done H (by repeat (first | exact Pick.here | apply Pick.there))⟩) fun he => cnd_i (fun _ => ⟨rfl, keep_done H (by repeat (first | exact Pick.here | apply Pick.there))⟩) fun hf => ?_
  have he : e = 0 := by simpa using he
  have hf : f = 0 := by simpa using hf
  rcases h1 with ⟨_, h1, s1⟩ | h1
  · rcases h2 with ⟨_, h2, s2⟩ | h2
    · repeat (first | refine ldI_o H (by repeat (first | exact Pick.here | apply Pick.there)) (by rfl) ?_ | refine ldL_o H (by repeat (first | exact Pick.here | apply Pick.there)) (by rfl) ?_ | refine ldB_o H (by repeat (first | exact Pick.here | apply Pick.there)) (by rfl) ?_ | refine ldP_o H (by repeat (first | exact Pick.here | apply Pick.there)) (by rfl) ?_ | refine ldS_o H (by repeat (first | exact Pick.here | apply Pick.there)) (by rfl) ?_)
      refine cm_eq (c := c) (d := d) ?_
      repeat (first | refine ldI_o H (by repeat (first | exact Pick.here | apply Pick.there)) (by rfl) ?_ | refine ldL_o H (by repeat (first | exact Pick.here | apply Pick.there)) (by rfl) ?_ | refine ldB_o H (by repeat (first | exact Pick.here | apply Pick.there)) (by rfl) ?_ | refine ldP_o H (by repeat (first | exact Pick.here | apply Pick.there)) (by rfl) ?_ | refine ldS_o H (by repeat (first | exact Pick.here | apply Pick.there)) (by rfl) ?_)
      refine eq4e ?_
      have hw : decide (c = d) = decide ([x0, x1, x2, x3] = [y0, y1, y2, y3]) := by
        rw [decide_eq_decide]
        constructor
        · rintro rfl; rw [h1] at h2; exact Option.some.inj h2
        · intro h; rw [← h] at h2; exact enc_inj h1 h2
      have hs : decide (c = d) = (s.toList == t.toList) := by
        rw [s1, s2]
        by_cases h : c = d
        · subst h; simp
        · rw [decide_eq_false h]
          symm
          rw [beq_eq_false_iff_ne]
          exact fun hp => h (print_inj h1 h2 hp)
      refine cnd_i (fun _ => ?_) fun h => by rw [hw] at h; simp at h
      repeat (first | refine ldI_o H (by repeat (first | exact Pick.here | apply Pick.there)) (by rfl) ?_ | refine ldL_o H (by repeat (first | exact Pick.here | apply Pick.there)) (by rfl) ?_ | refine ldB_o H (by repeat (first | exact Pick.here | apply Pick.there)) (by rfl) ?_ | refine ldP_o H (by repeat (first | exact Pick.here | apply Pick.there)) (by rfl) ?_ | refine ldS_o H (by repeat (first | exact Pick.here | apply Pick.there)) (by rfl) ?_)
      refine cm_eq (c := c) (d := d) ?_
      have hh : (decide (c = d) == (s.toList == t.toList)) = true := by rw [hs]; simp
      rw [hh]
      exact ⟨rfl, keep_done H (by repeat (first | exact Pick.here | apply Pick.there))⟩
    · omega
  · omega
end Go.Proofs.YtggmapokmlbgbaaDoor
