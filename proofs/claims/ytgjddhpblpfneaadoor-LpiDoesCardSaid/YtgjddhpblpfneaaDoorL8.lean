/-
  lpi: the document's examples.
-/
import Derived.Test.YtgjddhpblpfneaaDoorL7
namespace Go.Proofs.YtgjddhpblpfneaaDoor
open Go Go.RowKit X
set_option maxRecDepth 100000
set_option linter.unusedVariables false
set_option linter.unusedSimpArgs false
set_option maxHeartbeats 1000000
def w1 : List Int := writeM (writeM (List.replicate 32 0) 0 32 3 1 161) 0 32 16 1 8
def a1 : Lp × List Int := enM (newLp 16 0 16 16 2) w1
def a2 : Lp := setMs a1.1 8195 false
def v2 : List Int := setMb a1.1 a1.2 8195 false
def a3 : Lp := setMs a2 8200 true
def v3 : List Int := setMb a2 v2 8200 true
def v4 : List Int := diB v3 a3.qa a3.wt
theorem can_fields (b b' c c' e e' : Int) (a a' : Bool) (w : World) : (Op.eqFields 9999 [.int .i64 b, .int .i64 c, .int .i64 e, .bool a].toArray [.int .i64 b', .int .i64 c', .int .i64 e', .bool a'].toArray (P.fieldsOf T.t43).toList).run P w = .ok (b == b' && (c == c' && (e == e' && a == a'))) w := by
  simp only [Program.fieldsOf, Tryd.underlying43]
  have u3 := Tryd.underlying3
  have a3 := Tryd.isAgg3
  have z3 := Tryd.sizeOf3
  have u4 := Tryd.underlying4
  have a4 := Tryd.isAgg4
  have z4 := Tryd.sizeOf4
  go_simp
  cases a <;> cases a' <;> by_cases h1 : b = b' <;> by_cases h2 : c = c' <;> by_cases h3 : e = e' <;> simp [h1, h2, h3]
theorem can_eq {b b' c c' e e' : Int} {a a' : Bool} {w : World} {K : Bool → Prop} (h : K (b == b' && (c == c' && (e == e' && a == a')))) : eqA P .eql T.t43 (.agg [.int .i64 b, .int .i64 c, .int .i64 e, .bool a].toArray) (.agg [.int .i64 b', .int .i64 c', .int .i64 e', .bool a'].toArray) w K :=
  eqA_eql (by kernel_rfl) (by kernel_rfl) (by kernel_rfl) (can_fields b b' c c' e e' a a' w) h
theorem can_ne {b b' c c' e e' : Int} {a a' : Bool} {w : World} {K : Bool → Prop} (h : K (!(b == b' && (c == c' && (e == e' && a == a'))))) : eqA P .neq T.t43 (.agg [.int .i64 b, .int .i64 c, .int .i64 e, .bool a].toArray) (.agg [.int .i64 b', .int .i64 c', .int .i64 e', .bool a'].toArray) w K :=
  eqA_neq (by kernel_rfl) (by kernel_rfl) (by kernel_rfl) (can_fields b b' c c' e e' a a' w) h
theorem awake_t {W : World} (hT : TabAt W) : Tri P F.crierlaw15_awake [] [keep W] fun v L' => v = .bool true ∧ L' = [keep W] := by
  intro w S hS
  refine crierlaw15_awake_cv ?_
  unfold crierlaw15_awake
  have H := Own.start hS
  refine call_o H (new_t 32) (by repeat (first | exact Cut.nil | (apply Cut.cons; (repeat (first | exact Pick.here | apply Pick.there))))) fun vx L' wx hq H => ?_
  rw [if_pos (by omega)] at hq
  obtain ⟨m, rfl, rfl⟩ := hq
  simp only [List.cons_append, List.nil_append] at H
  refine ⟨_, _, rfl, cnd_i (fun h => by cases h) fun _ => alc_o H fun b5 wx H => ?_⟩
  refine st1_o H (by repeat (first | exact Rep.here | apply Rep.there)) (by simp) fun wx H => ?_
  refine st1_o H (by repeat (first | exact Rep.here | apply Rep.there)) (by simp) fun wx H => ?_
  simp only [List.set_cons_zero, List.set_cons_succ] at H
  repeat (first | refine ldI_o H (by repeat (first | exact Pick.here | apply Pick.there)) (by rfl) ?_ | refine ldL_o H (by repeat (first | exact Pick.here | apply Pick.there)) (by rfl) ?_ | refine ldB_o H (by repeat (first | exact Pick.here | apply Pick.there)) (by rfl) ?_ | refine ldP_o H (by repeat (first | exact Pick.here | apply Pick.there)) (by rfl) ?_ | refine ldS_o H (by repeat (first | exact Pick.here | apply Pick.there)) (by rfl) ?_)
  refine call_o H (write_t m (List.replicate (Int.toNat 32) 0) 0 32 3 1 161) (by repeat (first | exact Cut.nil | (apply Cut.cons; (repeat (first | exact Pick.here | apply Pick.there))))) fun vx L' wx hq H => ?_
  obtain ⟨rfl, rfl⟩ := hq
  simp only [List.cons_append, List.nil_append] at H
  refine ⟨_, rfl, ?_⟩
  repeat (first | refine ldI_o H (by repeat (first | exact Pick.here | apply Pick.there)) (by rfl) ?_ | refine ldL_o H (by repeat (first | exact Pick.here | apply Pick.there)) (by rfl) ?_ | refine ldB_o H (by repeat (first | exact Pick.here | apply Pick.there)) (by rfl) ?_ | refine ldP_o H (by repeat (first | exact Pick.here | apply Pick.there)) (by rfl) ?_ | refine ldS_o H (by repeat (first | exact Pick.here | apply Pick.there)) (by rfl) ?_)
  refine call_o H (write_t m (writeM (List.replicate (Int.toNat 32) 0) 0 32 3 1 161) 0 32 16 1 8) (by repeat (first | exact Cut.nil | (apply Cut.cons; (repeat (first | exact Pick.here | apply Pick.there))))) fun vx L' wx hq H => ?_
  obtain ⟨rfl, rfl⟩ := hq
  simp only [List.cons_append, List.nil_append] at H
  refine ⟨_, rfl, ?_⟩
  have e1 : writeM (writeM (List.replicate (Int.toNat 32) 0) 0 32 3 1 161) 0 32 16 1 8 = w1 := rfl
  rw [e1] at H
  have l1 : w1.length = 32 := by decide +kernel
  have n1 : newE w1.length 16 0 16 16 2 = 0 := by decide +kernel
  have hnew := newE_ok n1
  have hf1 : a1.1.Fit a1.2.length := by
    show (enM _ _).1.Fit (enM _ _).2.length
    rw [enM_len]; exact enM_fit hnew.2 w1
  have hf2 : a2.Fit v2.length := by show (setMs _ _ _).Fit (setMb _ _ _ _).length; rw [setMb_len]; exact setMs_fit hf1 _ _
  have hf3 : a3.Fit v3.length := by show (setMs _ _ _).Fit (setMb _ _ _ _).length; rw [setMb_len]; exact setMs_fit hf2 _ _
  refine call_o H (newP_t m w1 16 0 16 16 2 (by unfold I64; omega)) (by repeat (first | exact Cut.nil | (apply Cut.cons; (repeat (first | exact Pick.here | apply Pick.there))))) fun vx L' wx hq H => ?_
  rw [if_pos n1] at hq
  obtain ⟨b, rfl, rfl⟩ := hq
  simp only [List.cons_append, List.nil_append] at H
  refine ⟨_, _, rfl, join_o (cnd_i (fun h => by cases h) fun _ => ?_)⟩
  unfold crierlaw15_awake_j1
  refine cnd_i (fun h => by cases h) fun _ => ?_
  refine call_o H (enable_t b m (newLp 16 0 16 16 2) w1 hnew.2) (by repeat (first | exact Cut.nil | (apply Cut.cons; (repeat (first | exact Pick.here | apply Pick.there))))) fun vx L' wx hq H => ?_
  obtain ⟨rfl, rfl⟩ := hq
  have ea : enM (newLp 16 0 16 16 2) w1 = a1 := rfl
  rw [ea] at H
  simp only [List.cons_append, List.nil_append] at H
  refine ⟨rfl, ?_⟩
  refine call_p H (best_t hT b a1.1) (by repeat (first | exact Cut.nil | (apply Cut.cons; (repeat (first | exact Pick.here | apply Pick.there))))) fun wx H => ?_
  have eb : bestR a1.1 a1.1.wt = ⟨8195, 160, 1, true⟩ := by kernel_rfl
  rw [eb]
  refine ⟨_, _, _, _, rfl, alc_o H fun b34 wx H => ?_⟩
  refine st1_o H (by repeat (first | exact Rep.here | apply Rep.there)) (by simp) fun wx H => ?_
  refine st1_o H (by repeat (first | exact Rep.here | apply Rep.there)) (by simp) fun wx H => ?_
  refine st1_o H (by repeat (first | exact Rep.here | apply Rep.there)) (by simp) fun wx H => ?_
  refine st1_o H (by repeat (first | exact Rep.here | apply Rep.there)) (by simp) fun wx H => ?_
  simp only [List.set_cons_zero, List.set_cons_succ] at H
  repeat (first | refine ldI_o H (by repeat (first | exact Pick.here | apply Pick.there)) (by rfl) ?_ | refine ldL_o H (by repeat (first | exact Pick.here | apply Pick.there)) (by rfl) ?_ | refine ldB_o H (by repeat (first | exact Pick.here | apply Pick.there)) (by rfl) ?_ | refine ldP_o H (by repeat (first | exact Pick.here | apply Pick.there)) (by rfl) ?_ | refine ldS_o H (by repeat (first | exact Pick.here | apply Pick.there)) (by rfl) ?_)
  refine call_p H (read_t m a1.2 0 32 16 1) (by repeat (first | exact Cut.nil | (apply Cut.cons; (repeat (first | exact Pick.here | apply Pick.there))))) fun wx H => ?_
  have er : readV a1.2 0 32 16 1 = .tuple [.int .u64 0, .int .i64 0].toArray := by kernel_rfl
  rw [er]
  refine ⟨_, _, rfl, ?_⟩
  refine call_o H (set_t b m a1.1 a1.2 hf1 8195 (by unfold I64; omega) false) (by repeat (first | exact Cut.nil | (apply Cut.cons; (repeat (first | exact Pick.here | apply Pick.there))))) fun vx L' wx hq H => ?_
  have es : setR a1.1 a1.2 8195 = (true, 0) := by decide +kernel
  rw [es] at hq
  obtain ⟨rfl, rfl⟩ := hq
  have ea : setMs a1.1 8195 false = a2 := rfl
  have ev : setMb a1.1 a1.2 8195 false = v2 := rfl
  rw [ea, ev] at H
  simp only [List.cons_append, List.nil_append] at H
  refine ⟨_, _, rfl, ?_⟩
  refine call_p H (best_t hT b a2) (by repeat (first | exact Cut.nil | (apply Cut.cons; (repeat (first | exact Pick.here | apply Pick.there))))) fun wx H => ?_
  have eb : bestR a2 a2.wt = ⟨0, 0, 0, false⟩ := by kernel_rfl
  rw [eb]
  refine ⟨_, _, _, _, rfl, alc_o H fun b56 wx H => ?_⟩
  refine st1_o H (by repeat (first | exact Rep.here | apply Rep.there)) (by simp) fun wx H => ?_
  refine st1_o H (by repeat (first | exact Rep.here | apply Rep.there)) (by simp) fun wx H => ?_
  refine st1_o H (by repeat (first | exact Rep.here | apply Rep.there)) (by simp) fun wx H => ?_
  refine st1_o H (by repeat (first | exact Rep.here | apply Rep.there)) (by simp) fun wx H => ?_
  simp only [List.set_cons_zero, List.set_cons_succ] at H
  refine call_o H (set_t b m a2 v2 hf2 8200 (by unfold I64; omega) true) (by repeat (first | exact Cut.nil | (apply Cut.cons; (repeat (first | exact Pick.here | apply Pick.there))))) fun vx L' wx hq H => ?_
  obtain ⟨rfl, rfl⟩ := hq
  have ea : setMs a2 8200 true = a3 := rfl
  have ev : setMb a2 v2 8200 true = v3 := rfl
  rw [ea, ev] at H
  simp only [List.cons_append, List.nil_append] at H
  refine ⟨_, _, rfl, ?_⟩
  refine call_o H (disable_t hT b m a3 v3 hf3) (by repeat (first | exact Cut.nil | (apply Cut.cons; (repeat (first | exact Pick.here | apply Pick.there))))) fun vx L' wx hq H => ?_
  obtain ⟨rfl, rfl⟩ := hq
  have ev : diB v3 a3.qa a3.wt = v4 := rfl
  rw [ev] at H
  simp only [List.cons_append, List.nil_append] at H
  refine ⟨rfl, ?_⟩
  repeat (first | refine ldI_o H (by repeat (first | exact Pick.here | apply Pick.there)) (by rfl) ?_ | refine ldL_o H (by repeat (first | exact Pick.here | apply Pick.there)) (by rfl) ?_ | refine ldB_o H (by repeat (first | exact Pick.here | apply Pick.there)) (by rfl) ?_ | refine ldP_o H (by repeat (first | exact Pick.here | apply Pick.there)) (by rfl) ?_ | refine ldS_o H (by repeat (first | exact Pick.here | apply Pick.there)) (by rfl) ?_)
  refine call_p H (read_t m v4 0 32 17 1) (by repeat (first | exact Cut.nil | (apply Cut.cons; (repeat (first | exact Pick.here | apply Pick.there))))) fun wx H => ?_
  have er : readV v4 0 32 17 1 = .tuple [.int .u64 1, .int .i64 0].toArray := by kernel_rfl
  rw [er]
  refine ⟨_, _, rfl, join_o ?_⟩
  repeat (first | refine ldI_o H (by repeat (first | exact Pick.here | apply Pick.there)) (by rfl) ?_ | refine ldL_o H (by repeat (first | exact Pick.here | apply Pick.there)) (by rfl) ?_ | refine ldB_o H (by repeat (first | exact Pick.here | apply Pick.there)) (by rfl) ?_ | refine ldP_o H (by repeat (first | exact Pick.here | apply Pick.there)) (by rfl) ?_ | refine ldS_o H (by repeat (first | exact Pick.here | apply Pick.there)) (by rfl) ?_)
  refine can_eq (cnd_i (fun _ => cnd_i (fun _ => cnd_i (fun _ => cnd_i (fun _ => ?_) (fun h => by cases h)) (fun h => by cases h)) (fun h => by cases h)) (fun h => by cases h))
  repeat (first | refine ldI_o H (by repeat (first | exact Pick.here | apply Pick.there)) (by rfl) ?_ | refine ldL_o H (by repeat (first | exact Pick.here | apply Pick.there)) (by rfl) ?_ | refine ldB_o H (by repeat (first | exact Pick.here | apply Pick.there)) (by rfl) ?_ | refine ldP_o H (by repeat (first | exact Pick.here | apply Pick.there)) (by rfl) ?_ | refine ldS_o H (by repeat (first | exact Pick.here | apply Pick.there)) (by rfl) ?_)
  refine cnd_i (fun _ => ?_) (fun h => by cases h)
  unfold crierlaw15_awake_j0
  exact ⟨_, ⟨rfl, rfl⟩, H.drop (by repeat (first | exact Cut.nil | (apply Cut.cons; (repeat (first | exact Pick.here | apply Pick.there)))))⟩
end Go.Proofs.YtgjddhpblpfneaaDoor
