/-
  queue: QueueNews.
-/
import Derived.Test.YtggchklafbpgpaaL1
import Derived.Test.YtggchklafbpgpaaT3
namespace Go.Proofs.Ytggchklafbpgpaa
open Go Go.RowKit X
set_option maxRecDepth 100000
set_option linter.unusedVariables false
set_option linter.unusedSimpArgs false
set_option maxHeartbeats 1000000
theorem queueNews_cv {W0 : World} (a s : Int) (hs : -9223372036854775808 ≤ s ∧ s ≤ 9223372036854775807) : CV P F.crierlaw17_QueueNews [winV a s] W0 fun v w' => v = .bool true ∧ Below W0.heap.size W0 w' := by
  refine crierlaw17_QueueNews_cv ?_
  unfold crierlaw17_QueueNews
  have H := keep_start W0
  refine alc_o H fun b3 wx H => ?_
  refine call_p H (awake_t) (by repeat (first | exact Cut.nil | (apply Cut.cons; (repeat (first | exact Pick.here | apply Pick.there))))) fun wx H => ?_
  refine ⟨_, rfl, cnd_i (fun h => by cases h) fun _ => ?_⟩
  repeat (first | refine ldI_o H (by repeat (first | exact Pick.here | apply Pick.there)) (by rfl) ?_ | refine ldL_o H (by repeat (first | exact Pick.here | apply Pick.there)) (by rfl) ?_ | refine ldB_o H (by repeat (first | exact Pick.here | apply Pick.there)) (by rfl) ?_ | refine ldP_o H (by repeat (first | exact Pick.here | apply Pick.there)) (by rfl) ?_ | refine ldS_o H (by repeat (first | exact Pick.here | apply Pick.there)) (by rfl) ?_)
  refine call_p H (NewQ_t a s) (by repeat (first | exact Cut.nil | (apply Cut.cons; (repeat (first | exact Pick.here | apply Pick.there))))) fun wx H => ?_
  refine ⟨_, _, _, _, _, rfl, alc_o H fun b17 wx H => ?_⟩
  refine st1_o H (by repeat (first | exact Rep.here | apply Rep.there)) (by simp) fun wx H => ?_
  refine st1_o H (by repeat (first | exact Rep.here | apply Rep.there)) (by simp) fun wx H => ?_
  refine st1_o H (by repeat (first | exact Rep.here | apply Rep.there)) (by simp) fun wx H => ?_
  refine st1_o H (by repeat (first | exact Rep.here | apply Rep.there)) (by simp) fun wx H => ?_
  repeat (first | refine ldI_o H (by repeat (first | exact Pick.here | apply Pick.there)) (by rfl) ?_ | refine ldL_o H (by repeat (first | exact Pick.here | apply Pick.there)) (by rfl) ?_ | refine ldB_o H (by repeat (first | exact Pick.here | apply Pick.there)) (by rfl) ?_ | refine ldP_o H (by repeat (first | exact Pick.here | apply Pick.there)) (by rfl) ?_ | refine ldS_o H (by repeat (first | exact Pick.here | apply Pick.there)) (by rfl) ?_)
  refine join_o ?_
  have hW : ∀ x : Int, W x = IntKind.i64.wrap x := fun _ => rfl
  have bad : (rightB s 32 && decide (0 ≤ a)) = false → crierlaw17_QueueNews_j2 (fun v w' => v = .bool true ∧ Below W0.heap.size W0 w') b3 true (newQ a s).2 b17 s false wx := by
    intro hb
    have e : newQ a s = (⟨0, 0, 0, 0⟩, 1) := by unfold newQ; rw [hb]; rfl
    rw [e] at H ⊢
    unfold crierlaw17_QueueNews_j2
    refine cnd_i (fun _ => join_o (cnd_i (fun _ => cnd_i (fun _ => ?_) (fun h => by cases h)) (fun h => by cases h))) (fun h => by cases h)
    repeat (first | refine ldI_o H (by repeat (first | exact Pick.here | apply Pick.there)) (by rfl) ?_ | refine ldL_o H (by repeat (first | exact Pick.here | apply Pick.there)) (by rfl) ?_ | refine ldB_o H (by repeat (first | exact Pick.here | apply Pick.there)) (by rfl) ?_ | refine ldP_o H (by repeat (first | exact Pick.here | apply Pick.there)) (by rfl) ?_ | refine ldS_o H (by repeat (first | exact Pick.here | apply Pick.there)) (by rfl) ?_)
    refine q_eq (p := ⟨0, 0, 0, 0⟩) (q := ⟨0, 0, 0, 0⟩) ?_
    unfold crierlaw17_QueueNews_j0
    exact ⟨by simp, keep_done H (by repeat (first | exact Pick.here | apply Pick.there))⟩
  refine cnd_i (fun h => ⟨by omega, cnd_i (fun h2 => ⟨by omega, cnd_i (fun h3 => ?_) fun h3 => ?_⟩) fun h2 => ?_⟩) fun h => ?_
  · repeat (first | refine ldI_o H (by repeat (first | exact Pick.here | apply Pick.there)) (by rfl) ?_ | refine ldL_o H (by repeat (first | exact Pick.here | apply Pick.there)) (by rfl) ?_ | refine ldB_o H (by repeat (first | exact Pick.here | apply Pick.there)) (by rfl) ?_ | refine ldP_o H (by repeat (first | exact Pick.here | apply Pick.there)) (by rfl) ?_ | refine ldS_o H (by repeat (first | exact Pick.here | apply Pick.there)) (by rfl) ?_)
    have h := of_decide_eq_true h
    have h2 : Int.tmod s 32 = 0 := by simpa using h2
    have h3 := of_decide_eq_true h3
    have hr : rightB s 32 = true := by
      unfold rightB
      rw [h2, hW]
      simp
      omega
    cases hd : decide (a ≥ 0)
    · exact bad (by rw [hr]; exact hd)
    have e : newQ a s = (⟨a, s, 0, 0⟩, 0) := by unfold newQ; rw [hr, show decide (0 ≤ a) = true from hd]; rfl
    rw [e] at H ⊢
    rw [Int.tmod_eq_emod_of_nonneg (by omega)] at h2
    rw [Int.tdiv_eq_ediv_of_nonneg (by omega), W_id (by omega) (by omega)] at h3
    obtain ⟨N, rfl⟩ : ∃ N : Nat, s = 32 * (N : Int) := ⟨(s / 32).toNat, by omega⟩
    have hN : 1 ≤ N ∧ N ≤ 1024 := by omega
    have hb : Qu.both ⟨a, 32 * (N : Int), 0, 0⟩ = true := by
      have := may_n (N := N) (i := 0) hN.2 (by omega)
      unfold Qu.both
      simpa using this
    have hleft : Qu.left ⟨a, 32 * (N : Int), 0, 0⟩ = 0 := by
      have := left_n (N := N) (i := 0) (j := 0) (n := 0) hN.2 (by omega) (by omega) (by rw [Nat.zero_mod])
      unfold Qu.left
      rw [hb, if_pos rfl]
      simpa using this
    have hroom : Qu.room ⟨a, 32 * (N : Int), 0, 0⟩ = IntKind.i64.wrap (IntKind.i64.wrap (Int.tdiv (32 * (N : Int)) 32) - 1) := by
      have := left_n (N := N) (i := 0) (j := 0) (n := 0) hN.2 (by omega) (by omega) (by rw [Nat.zero_mod])
      have h0 : leftV (32 * (N : Int)) 32 0 0 = 0 := by simpa using this
      unfold Qu.room
      rw [hb, if_pos rfl]
      unfold roomV
      dsimp only
      rw [h0]
      unfold _root_.Go.Proofs.Ytggchklafbpgpaa.W
      rw [Int.tdiv_eq_ediv_of_nonneg (by omega), show 32 * (N : Int) / 32 = N by omega, W_id (n := (N : Int)) (by omega) (by omega), W_id (n := (N : Int) - 1) (by omega) (by omega), W_id (by omega) (by omega)]
      omega
    unfold crierlaw17_QueueNews_j2
    refine cnd_i (fun h => by cases h) fun _ => join_o (cnd_i (fun _ => cnd_i (fun _ => ?_) (fun h => by cases h)) (fun h => by cases h))
    repeat (first | refine ldI_o H (by repeat (first | exact Pick.here | apply Pick.there)) (by rfl) ?_ | refine ldL_o H (by repeat (first | exact Pick.here | apply Pick.there)) (by rfl) ?_ | refine ldB_o H (by repeat (first | exact Pick.here | apply Pick.there)) (by rfl) ?_ | refine ldP_o H (by repeat (first | exact Pick.here | apply Pick.there)) (by rfl) ?_ | refine ldS_o H (by repeat (first | exact Pick.here | apply Pick.there)) (by rfl) ?_)
    refine q_eq (p := ⟨a, 32 * (N : Int), 0, 0⟩) (q := ⟨a, 32 * (N : Int), 0, 0⟩) ?_
    refine cnd_i (fun _ => ?_) (fun h => by simp at h)
    repeat (first | refine ldI_o H (by repeat (first | exact Pick.here | apply Pick.there)) (by rfl) ?_ | refine ldL_o H (by repeat (first | exact Pick.here | apply Pick.there)) (by rfl) ?_ | refine ldB_o H (by repeat (first | exact Pick.here | apply Pick.there)) (by rfl) ?_ | refine ldP_o H (by repeat (first | exact Pick.here | apply Pick.there)) (by rfl) ?_ | refine ldS_o H (by repeat (first | exact Pick.here | apply Pick.there)) (by rfl) ?_)
    refine call_p H (Left_t ⟨a, 32 * (N : Int), 0, 0⟩) (by repeat (first | exact Cut.nil | (apply Cut.cons; (repeat (first | exact Pick.here | apply Pick.there))))) fun wx H => ?_
    rw [hleft]
    refine ⟨_, rfl, cnd_i (fun _ => ?_) (fun h => by cases h)⟩
    repeat (first | refine ldI_o H (by repeat (first | exact Pick.here | apply Pick.there)) (by rfl) ?_ | refine ldL_o H (by repeat (first | exact Pick.here | apply Pick.there)) (by rfl) ?_ | refine ldB_o H (by repeat (first | exact Pick.here | apply Pick.there)) (by rfl) ?_ | refine ldP_o H (by repeat (first | exact Pick.here | apply Pick.there)) (by rfl) ?_ | refine ldS_o H (by repeat (first | exact Pick.here | apply Pick.there)) (by rfl) ?_)
    refine call_p H (Room_t ⟨a, 32 * (N : Int), 0, 0⟩) (by repeat (first | exact Cut.nil | (apply Cut.cons; (repeat (first | exact Pick.here | apply Pick.there))))) fun wx H => ?_
    refine ⟨_, rfl, by omega, ?_⟩
    unfold crierlaw17_QueueNews_j1
    rw [hroom]
    exact ⟨by simp, keep_done H (by repeat (first | exact Pick.here | apply Pick.there))⟩
  · refine bad ?_
    have h := of_decide_eq_true h
    have h3 := of_decide_eq_false h3
    have hr : rightB s 32 = false := by
      unfold rightB
      rw [hW]
      simp
      omega
    rw [hr]; rfl
  · refine bad ?_
    have h2 : Int.tmod s 32 ≠ 0 := by simpa using h2
    have hr : rightB s 32 = false := by
      unfold rightB
      simp [h2]
    rw [hr]; rfl
  · refine bad ?_
    have h := of_decide_eq_false h
    have hr : rightB s 32 = false := by
      unfold rightB
      simp
      omega
    rw [hr]; rfl
end Go.Proofs.Ytggchklafbpgpaa
