/-
  tables: the document's examples.
-/
import Derived.Test.YthoieihffbahpaaL5
import Derived.Test.YthoieihffbahpaaA4
import Derived.Tactics
import Derived.Tactics2
namespace Go.Proofs.Ythoieihffbahpaa
open Go Go.RowKit X
set_option maxRecDepth 100000
set_option linter.unusedVariables false
set_option maxHeartbeats 1000000
def z5 : List Int := List.replicate 512 0
def z6 : List Int := (leadM z5 0 32 32 5 64).1
def z7 : List Int := (putM z6 0 32 32 5 true 1 256).1
def z8 : List Int := (setM z7 true 1 256 3 8200 2 true).1
theorem aw1 : getM z5 0 32 32 5 = ((false, 0, 0), 180) := by decide +kernel
theorem aw2 : (leadM z5 0 32 32 5 64).2 = 0 := by decide +kernel
theorem aw3 : (putM z6 0 32 32 5 true 1 256).2 = 0 := by decide +kernel
theorem aw4 : getM z7 0 32 32 5 = ((true, 1, 256), 0) := by decide +kernel
theorem aw5 : w8 z7 72 = 9223372036854776065 := by decide +kernel
theorem aw6 : (setM z7 true 1 256 3 8200 2 true).2 = 0 := by decide +kernel
theorem aw7 : w8 z8 280 = 9223372045444718600 := by decide +kernel
theorem aw8 : (routeM z8 true 1 256 4).2 = 182 := by decide +kernel
theorem aw9 : evN 1 = 4 := by decide +kernel
theorem aw10 : z6.length = 512 ∧ z7.length = 512 ∧ z8.length = 512 := by decide +kernel
theorem dev_fields (a a' : Bool) (b b' c c' : Int) (w : World) : (Op.eqFields 9999 [.bool a, .int .i64 b, .int .i64 c].toArray [.bool a', .int .i64 b', .int .i64 c'].toArray (P.fieldsOf T.t36).toList).run P w = .ok (a == a' && (b == b' && c == c')) w := by
  simp only [Program.fieldsOf, Try.underlying36]
  have u3 := Try.underlying3
  have a3 := Try.isAgg3
  have z3 := Try.sizeOf3
  have u4 := Try.underlying4
  have a4 := Try.isAgg4
  have z4 := Try.sizeOf4
  go_simp
  cases a <;> cases a' <;> by_cases h1 : b = b' <;> by_cases h2 : c = c' <;> simp [h1, h2]
theorem rou_fields (b b' c c' : Int) (a a' : Bool) (w : World) : (Op.eqFields 9999 [.int .i64 b, .int .i64 c, .bool a].toArray [.int .i64 b', .int .i64 c', .bool a'].toArray (P.fieldsOf T.t45).toList).run P w = .ok (b == b' && (c == c' && a == a')) w := by
  simp only [Program.fieldsOf, Try.underlying45]
  have u3 := Try.underlying3
  have a3 := Try.isAgg3
  have z3 := Try.sizeOf3
  have u4 := Try.underlying4
  have a4 := Try.isAgg4
  have z4 := Try.sizeOf4
  go_simp
  cases a <;> cases a' <;> by_cases h1 : b = b' <;> by_cases h2 : c = c' <;> simp [h1, h2]
theorem dev_eq {a a' : Bool} {b b' c c' : Int} {w : World} {K : Bool → Prop} (hk : K (a == a' && (b == b' && c == c'))) : eqA P .eql T.t36 (.agg [.bool a, .int .i64 b, .int .i64 c].toArray) (.agg [.bool a', .int .i64 b', .int .i64 c'].toArray) w K :=
  eqA_eql (by kernel_rfl) (by kernel_rfl) (by kernel_rfl) (dev_fields a a' b b' c c' w) hk
theorem dev_ne {a a' : Bool} {b b' c c' : Int} {w : World} {K : Bool → Prop} (hk : K (!(a == a' && (b == b' && c == c')))) : eqA P .neq T.t36 (.agg [.bool a, .int .i64 b, .int .i64 c].toArray) (.agg [.bool a', .int .i64 b', .int .i64 c'].toArray) w K :=
  eqA_neq (by kernel_rfl) (by kernel_rfl) (by kernel_rfl) (dev_fields a a' b b' c c' w) hk
theorem rou_ne {a a' : Bool} {b b' c c' : Int} {w : World} {K : Bool → Prop} (hk : K (!(b == b' && (c == c' && a == a')))) : eqA P .neq T.t45 (.agg [.int .i64 b, .int .i64 c, .bool a].toArray) (.agg [.int .i64 b', .int .i64 c', .bool a'].toArray) w K :=
  eqA_neq (by kernel_rfl) (by kernel_rfl) (by kernel_rfl) (rou_fields b b' c c' a a' w) hk
theorem z5_range : ∀ x ∈ z5, 0 ≤ x ∧ x < 256 := by
  intro x hx; rw [(List.mem_replicate.1 hx).2]; omega
theorem leadM_range {bs : List Int} (h : ∀ x ∈ bs, 0 ≤ x ∧ x < 256) (a s pg id at' : Int) : ∀ x ∈ (leadM bs a s pg id at').1, 0 ≤ x ∧ x < 256 := by
  unfold leadM
  split
  · exact h
  · split
    · exact h
    · split
      · exact h
      · exact wr_range h _ _ _
theorem putM_range {bs : List Int} (h : ∀ x ∈ bs, 0 ≤ x ∧ x < 256) (a s pg id : Int) (v : Bool) (b at' : Int) : ∀ x ∈ (putM bs a s pg id v b at').1, 0 ≤ x ∧ x < 256 := by
  unfold putM
  split
  · exact h
  · split
    · exact wr_range h _ _ _
    · split
      · exact h
      · exact wr_range h _ _ _
theorem setM_range {bs : List Int} (h : ∀ x ∈ bs, 0 ≤ x ∧ x < 256) (v : Bool) (b a ev n c : Int) (r : Bool) : ∀ x ∈ (setM bs v b a ev n c r).1, 0 ≤ x ∧ x < 256 := by
  unfold setM
  split
  · exact h
  · split
    · exact wr_range h _ _ _
    · split
      · exact h
      · exact wr_range h _ _ _
theorem stgM_range {bs : List Int} (h : ∀ x ∈ bs, 0 ≤ x ∧ x < 256) (a s c t : Int) (is : Bool) : ∀ x ∈ (stgM bs a s c t is).1, 0 ≤ x ∧ x < 256 := by
  unfold stgM
  split
  · exact h
  · split
    · exact h
    · split
      · exact h
      · exact wr_range h _ _ _
theorem leadM_length (bs : List Int) (a s pg id at' : Int) : (leadM bs a s pg id at').1.length = bs.length := by
  unfold leadM
  split
  · rfl
  · split
    · rfl
    · split
      · rfl
      · exact wr_length _ _ _ _
theorem putM_length (bs : List Int) (a s pg id : Int) (v : Bool) (b at' : Int) : (putM bs a s pg id v b at').1.length = bs.length := by
  unfold putM
  split
  · rfl
  · split
    · exact wr_length _ _ _ _
    · split
      · rfl
      · exact wr_length _ _ _ _
theorem setM_length (bs : List Int) (v : Bool) (b a ev n c : Int) (r : Bool) : (setM bs v b a ev n c r).1.length = bs.length := by
  unfold setM
  split
  · rfl
  · split
    · exact wr_length _ _ _ _
    · split
      · rfl
      · exact wr_length _ _ _ _
theorem stgM_length (bs : List Int) (a s c t : Int) (is : Bool) : (stgM bs a s c t is).1.length = bs.length := by
  unfold stgM
  split
  · rfl
  · split
    · rfl
    · split
      · rfl
      · exact wr_length _ _ _ _
theorem awake_t : Tri P F.crierlaw18_awake [] [] fun v L' => v = .bool true ∧ L' = [] := by
  intro w S hS
  refine crierlaw18_awake_cv ?_
  unfold crierlaw18_awake
  have H := Own.start hS
  refine call_o H (new_t 512) (by repeat (first | exact Cut.nil | (apply Cut.cons; (repeat (first | exact Pick.here | apply Pick.there))))) fun vx L' wx hq H => ?_
  rw [if_pos ⟨by omega, by omega⟩] at hq
  obtain ⟨b, rfl, rfl⟩ := hq
  simp only [List.cons_append, List.nil_append] at H
  refine ⟨_, _, rfl, cnd_i (fun h => by cases h) fun _ => alc_o H fun b5 wx H => ?_⟩
  have hz : List.replicate (Int.toNat 512) (0 : Int) = z5 := rfl
  rw [hz] at H
  refine st1_o H (by repeat (first | exact Rep.here | apply Rep.there)) (by simp) fun wx H => ?_
  refine st1_o H (by repeat (first | exact Rep.here | apply Rep.there)) (by simp) fun wx H => ?_
  refine st1_o H (by repeat (first | exact Rep.here | apply Rep.there)) (by simp) fun wx H => ?_
  repeat (first | refine ldI_o H (by repeat (first | exact Pick.here | apply Pick.there)) (by rfl) ?_ | refine ldL_o H (by repeat (first | exact Pick.here | apply Pick.there)) (by rfl) ?_ | refine ldB_o H (by repeat (first | exact Pick.here | apply Pick.there)) (by rfl) ?_ | refine ldP_o H (by repeat (first | exact Pick.here | apply Pick.there)) (by rfl) ?_ | refine ldS_o H (by repeat (first | exact Pick.here | apply Pick.there)) (by rfl) ?_)
  refine call_p H (get_t b z5 z5_range (by rw [z5, List.length_replicate]; omega) 0 32 32 5) (by repeat (first | exact Cut.nil | (apply Cut.cons; (repeat (first | exact Pick.here | apply Pick.there))))) fun wx H => ?_
  rw [aw1]
  refine ⟨_, _, _, _, rfl, alc_o H fun b19 wx H => ?_⟩
  refine st1_o H (by repeat (first | exact Rep.here | apply Rep.there)) (by simp) fun wx H => ?_
  refine st1_o H (by repeat (first | exact Rep.here | apply Rep.there)) (by simp) fun wx H => ?_
  refine st1_o H (by repeat (first | exact Rep.here | apply Rep.there)) (by simp) fun wx H => ?_
  refine alc_o H fun b24 wx H => ?_
  refine st1_o H (by repeat (first | exact Rep.here | apply Rep.there)) (by simp) fun wx H => ?_
  refine st1_o H (by repeat (first | exact Rep.here | apply Rep.there)) (by simp) fun wx H => ?_
  refine st1_o H (by repeat (first | exact Rep.here | apply Rep.there)) (by simp) fun wx H => ?_
  refine drw_o H fun wx H => ?_
  repeat (first | refine ldI_o H (by repeat (first | exact Pick.here | apply Pick.there)) (by rfl) ?_ | refine ldL_o H (by repeat (first | exact Pick.here | apply Pick.there)) (by rfl) ?_ | refine ldB_o H (by repeat (first | exact Pick.here | apply Pick.there)) (by rfl) ?_ | refine ldP_o H (by repeat (first | exact Pick.here | apply Pick.there)) (by rfl) ?_ | refine ldS_o H (by repeat (first | exact Pick.here | apply Pick.there)) (by rfl) ?_)
  refine call_o H (lead_t b z5 z5_range (by rw [z5, List.length_replicate]; omega) 0 32 32 5 64) (by repeat (first | exact Cut.nil | (apply Cut.cons; (repeat (first | exact Pick.here | apply Pick.there))))) fun vx L' wx hq H => ?_
  obtain ⟨rfl, rfl⟩ := hq
  rw [aw2]
  simp only [List.cons_append, List.nil_append] at H
  rw [show (leadM z5 0 32 32 5 64).1 = z6 from rfl] at H
  refine ⟨_, rfl, ldB_o H (by repeat (first | exact Pick.here | apply Pick.there)) (by rfl) (ldI_o H (by repeat (first | exact Pick.here | apply Pick.there)) (by rfl) (ldI_o H (by repeat (first | exact Pick.here | apply Pick.there)) (by rfl) rfl)), ldI_o H (by repeat (first | exact Pick.here | apply Pick.there)) (by rfl) (ldI_o H (by repeat (first | exact Pick.here | apply Pick.there)) (by rfl) (ldI_o H (by repeat (first | exact Pick.here | apply Pick.there)) (by rfl) rfl)), ?_⟩
  have r6 : ∀ x ∈ z6, 0 ≤ x ∧ x < 256 := leadM_range z5_range _ _ _ _ _
  have n6 : z6.length ≤ 131072 := by rw [aw10.1]; omega
  refine call_o H (put_t b z6 r6 n6 0 32 32 5 true 1 256 (by omega)) (by repeat (first | exact Cut.nil | (apply Cut.cons; (repeat (first | exact Pick.here | apply Pick.there))))) fun vx L' wx hq H => ?_
  obtain ⟨rfl, rfl⟩ := hq
  rw [aw3]
  simp only [List.cons_append, List.nil_append] at H
  rw [show (putM z6 0 32 32 5 true 1 256).1 = z7 from rfl] at H
  have r7 : ∀ x ∈ z7, 0 ≤ x ∧ x < 256 := putM_range r6 _ _ _ _ _ _ _
  have n7 : z7.length ≤ 131072 := by rw [aw10.2.1]; omega
  refine ⟨_, rfl, ?_⟩
  repeat (first | refine ldI_o H (by repeat (first | exact Pick.here | apply Pick.there)) (by rfl) ?_ | refine ldL_o H (by repeat (first | exact Pick.here | apply Pick.there)) (by rfl) ?_ | refine ldB_o H (by repeat (first | exact Pick.here | apply Pick.there)) (by rfl) ?_ | refine ldP_o H (by repeat (first | exact Pick.here | apply Pick.there)) (by rfl) ?_ | refine ldS_o H (by repeat (first | exact Pick.here | apply Pick.there)) (by rfl) ?_)
  refine call_p H (get_t b z7 r7 n7 0 32 32 5) (by repeat (first | exact Cut.nil | (apply Cut.cons; (repeat (first | exact Pick.here | apply Pick.there))))) fun wx H => ?_
  rw [aw4]
  refine ⟨_, _, _, _, rfl, alc_o H fun b60 wx H => ?_⟩
  refine st1_o H (by repeat (first | exact Rep.here | apply Rep.there)) (by simp) fun wx H => ?_
  refine st1_o H (by repeat (first | exact Rep.here | apply Rep.there)) (by simp) fun wx H => ?_
  refine st1_o H (by repeat (first | exact Rep.here | apply Rep.there)) (by simp) fun wx H => ?_
  refine call_p H (read_t b z7 0 512 72 8) (by repeat (first | exact Cut.nil | (apply Cut.cons; (repeat (first | exact Pick.here | apply Pick.there))))) fun wx H => ?_
  rw [readV, if_pos (show errE z7.length 0 512 72 8 = 0 by decide +kernel), show le (cut z7 (0 + 72 : Int).toNat (Int.toNat 8)) = 9223372036854776065 from aw5]
  refine ⟨_, _, rfl, ?_⟩
  repeat (first | refine ldI_o H (by repeat (first | exact Pick.here | apply Pick.there)) (by rfl) ?_ | refine ldL_o H (by repeat (first | exact Pick.here | apply Pick.there)) (by rfl) ?_ | refine ldB_o H (by repeat (first | exact Pick.here | apply Pick.there)) (by rfl) ?_ | refine ldP_o H (by repeat (first | exact Pick.here | apply Pick.there)) (by rfl) ?_ | refine ldS_o H (by repeat (first | exact Pick.here | apply Pick.there)) (by rfl) ?_)
  refine call_o H (setRoute_t b z7 true 1 256 3 8200 2 true) (by repeat (first | exact Cut.nil | (apply Cut.cons; (repeat (first | exact Pick.here | apply Pick.there))))) fun vx L' wx hq H => ?_
  obtain ⟨rfl, rfl⟩ := hq
  rw [aw6]
  simp only [List.cons_append, List.nil_append] at H
  rw [show (setM z7 true 1 256 3 8200 2 true).1 = z8 from rfl] at H
  have r8 : ∀ x ∈ z8, 0 ≤ x ∧ x < 256 := setM_range r7 _ _ _ _ _ _ _
  refine ⟨_, rfl, ?_⟩
  refine call_p H (read_t b z8 0 512 280 8) (by repeat (first | exact Cut.nil | (apply Cut.cons; (repeat (first | exact Pick.here | apply Pick.there))))) fun wx H => ?_
  rw [readV, if_pos (show errE z8.length 0 512 280 8 = 0 by decide +kernel), show le (cut z8 (0 + 280 : Int).toNat (Int.toNat 8)) = 9223372045444718600 from aw7]
  refine ⟨_, _, rfl, ?_⟩
  repeat (first | refine ldI_o H (by repeat (first | exact Pick.here | apply Pick.there)) (by rfl) ?_ | refine ldL_o H (by repeat (first | exact Pick.here | apply Pick.there)) (by rfl) ?_ | refine ldB_o H (by repeat (first | exact Pick.here | apply Pick.there)) (by rfl) ?_ | refine ldP_o H (by repeat (first | exact Pick.here | apply Pick.there)) (by rfl) ?_ | refine ldS_o H (by repeat (first | exact Pick.here | apply Pick.there)) (by rfl) ?_)
  refine call_p H (route_t b z8 r8 true 1 256 4) (by repeat (first | exact Cut.nil | (apply Cut.cons; (repeat (first | exact Pick.here | apply Pick.there))))) fun wx H => ?_
  refine ⟨_, _, _, _, rfl, alc_o H fun b88 wx H => ?_⟩
  rw [aw8]
  refine st1_o H (by repeat (first | exact Rep.here | apply Rep.there)) (by simp) fun wx H => ?_
  refine st1_o H (by repeat (first | exact Rep.here | apply Rep.there)) (by simp) fun wx H => ?_
  refine st1_o H (by repeat (first | exact Rep.here | apply Rep.there)) (by simp) fun wx H => ?_
  refine join_o (cnd_i (fun _ => cnd_i (fun _ => cnd_i (fun _ => ?_) (fun h => by cases h)) (fun h => by cases h)) (fun h => by cases h))
  repeat (first | refine ldI_o H (by repeat (first | exact Pick.here | apply Pick.there)) (by rfl) ?_ | refine ldL_o H (by repeat (first | exact Pick.here | apply Pick.there)) (by rfl) ?_ | refine ldB_o H (by repeat (first | exact Pick.here | apply Pick.there)) (by rfl) ?_ | refine ldP_o H (by repeat (first | exact Pick.here | apply Pick.there)) (by rfl) ?_ | refine ldS_o H (by repeat (first | exact Pick.here | apply Pick.there)) (by rfl) ?_)
  refine dev_eq (cnd_i (fun _ => cnd_i (fun _ => cnd_i (fun _ => ?_) (fun h => by cases h)) (fun h => by cases h)) (fun h => by cases h))
  repeat (first | refine ldI_o H (by repeat (first | exact Pick.here | apply Pick.there)) (by rfl) ?_ | refine ldL_o H (by repeat (first | exact Pick.here | apply Pick.there)) (by rfl) ?_ | refine ldB_o H (by repeat (first | exact Pick.here | apply Pick.there)) (by rfl) ?_ | refine ldP_o H (by repeat (first | exact Pick.here | apply Pick.there)) (by rfl) ?_ | refine ldS_o H (by repeat (first | exact Pick.here | apply Pick.there)) (by rfl) ?_)
  refine call_p H (tri_plain (events_plain true 1 256)) (by repeat (first | exact Cut.nil | (apply Cut.cons; (repeat (first | exact Pick.here | apply Pick.there))))) fun wx H => ?_
  rw [aw9]
  refine ⟨_, rfl, cnd_i (fun _ => cnd_i (fun _ => cnd_i (fun _ => ?_) (fun h => by cases h)) (fun h => by cases h)) (fun h => by cases h)⟩
  unfold crierlaw18_awake_j0
  exact ⟨[], ⟨rfl, rfl⟩, H.drop (by repeat (first | exact Cut.nil | (apply Cut.cons; (repeat (first | exact Pick.here | apply Pick.there)))))⟩
end Go.Proofs.Ythoieihffbahpaa
