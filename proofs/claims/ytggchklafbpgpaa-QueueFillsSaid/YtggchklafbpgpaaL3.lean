/-
  queue: QueueFills.
-/
import Derived.Test.YtggchklafbpgpaaL1
import Derived.Test.YtggchklafbpgpaaEC
import Derived.Test.YtggchklafbpgpaaV1
namespace Go.Proofs.Ytggchklafbpgpaa
open Go Go.RowKit X
set_option maxRecDepth 100000
set_option linter.unusedVariables false
set_option linter.unusedSimpArgs false
set_option maxHeartbeats 1000000
theorem queueFills_cv {W0 : World} {q : Option Addr} {c : Nat} {cs : List Cm} (hq0 : Slots W0 q 9 (cs.map Cm.cells)) (hl : cs.length ≤ 9223372036854775807) (hg : ∀ c ∈ cs, c.Fit) (e : Int) (he : 0 ≤ e ∧ e ≤ 255) :
    CV P F.crierlaw17_QueueFills [.int .u8 e, .slice q cs.length c] W0 fun v w' => v = .bool true ∧ Below W0.heap.size W0 w' := by
  refine crierlaw17_QueueFills_cv ?_
  unfold crierlaw17_QueueFills
  have H := keep_start W0
  refine call_p H (awake_t) (by repeat (first | exact Cut.nil | (apply Cut.cons; (repeat (first | exact Pick.here | apply Pick.there))))) fun wx H => ?_
  refine ⟨_, rfl, cnd_i (fun h => by cases h) fun _ => ?_⟩
  refine call_o H (fresh_t e he) (by repeat (first | exact Cut.nil | (apply Cut.cons; (repeat (first | exact Pick.here | apply Pick.there))))) fun vx L' wx hq H => ?_
  obtain ⟨m, bs, hlen, rfl, rfl⟩ := hq
  simp only [List.cons_append, List.nil_append] at H
  refine ⟨_, _, _, _, _, rfl, alc_o H fun b15 wx H => ?_⟩
  refine st1_o H (by repeat (first | exact Rep.here | apply Rep.there)) (by simp) fun wx H => ?_
  refine st1_o H (by repeat (first | exact Rep.here | apply Rep.there)) (by simp) fun wx H => ?_
  refine st1_o H (by repeat (first | exact Rep.here | apply Rep.there)) (by simp) fun wx H => ?_
  refine st1_o H (by repeat (first | exact Rep.here | apply Rep.there)) (by simp) fun wx H => ?_
  refine join_o (cnd_i (fun h => by cases h) fun _ => ?_)
  unfold crierlaw17_QueueFills_j3
  refine cnd_i (fun h => by cases h) fun _ => ?_
  repeat (first | refine ldI_o H (by repeat (first | exact Pick.here | apply Pick.there)) (by rfl) ?_ | refine ldL_o H (by repeat (first | exact Pick.here | apply Pick.there)) (by rfl) ?_ | refine ldB_o H (by repeat (first | exact Pick.here | apply Pick.there)) (by rfl) ?_ | refine ldP_o H (by repeat (first | exact Pick.here | apply Pick.there)) (by rfl) ?_ | refine ldS_o H (by repeat (first | exact Pick.here | apply Pick.there)) (by rfl) ?_)
  have hN := frN_range e
  have F0 : FQ 16 700 (frN e) 0 ⟨16, 32 * ((frN e : Nat) : Int), 0, 0⟩ bs [] := FQ.new hN.1 (by omega) (by omega) hlen
  generalize frN e = N at *
  refine call_p H (Room_t ⟨16, 32 * (N : Int), 0, 0⟩) (by repeat (first | exact Cut.nil | (apply Cut.cons; (repeat (first | exact Pick.here | apply Pick.there))))) fun wx H => ?_
  rw [F0.room]
  refine ⟨_, rfl, ?_⟩
  refine call_o H (Fill_t b15 m ⟨16, 32 * (N : Int), 0, 0⟩ bs (keep W0) (keep_slots hq0) hl) (by repeat (first | exact Cut.nil | (apply Cut.cons; (repeat (first | exact Pick.here | apply Pick.there))))) fun vx L' wx hq H => ?_
  obtain ⟨rfl, rfl⟩ := hq
  simp only [List.cons_append, List.nil_append] at H
  obtain ⟨n, k1, k2, F1, k4⟩ := F0.fill (ds := cs)
  rw [List.nil_append] at F1
  have hlt : (cs.take n).length = n := by rw [List.length_take, Nat.min_eq_left k1]
  have hn : n < N := by have := F1.hn; rw [hlt] at this; exact this
  refine ⟨_, _, rfl, ?_⟩
  rw [k2]
  generalize (fillQ cs ⟨16, 32 * (N : Int), 0, 0⟩ bs).2.2.2 = er at *
  generalize (fillQ cs ⟨16, 32 * (N : Int), 0, 0⟩ bs).1 = q' at *
  generalize (fillQ cs ⟨16, 32 * (N : Int), 0, 0⟩ bs).2.1 = bs' at *
  unfold Qu.cells at H
  rw [show ((([] : List Cm).length : Nat) : Int) = 0 from rfl]
  refine join_o (cnd_i (fun h => by have := of_decide_eq_true h; omega) fun _ => cnd_i (fun h => by have := of_decide_eq_true h; omega) fun _ => cnd_i (fun h => by have := of_decide_eq_true h; omega) fun _ => ?_)
  repeat (first | refine ldI_o H (by repeat (first | exact Pick.here | apply Pick.there)) (by rfl) ?_ | refine ldL_o H (by repeat (first | exact Pick.here | apply Pick.there)) (by rfl) ?_ | refine ldB_o H (by repeat (first | exact Pick.here | apply Pick.there)) (by rfl) ?_ | refine ldP_o H (by repeat (first | exact Pick.here | apply Pick.there)) (by rfl) ?_ | refine ldS_o H (by repeat (first | exact Pick.here | apply Pick.there)) (by rfl) ?_)
  refine call_p H (Left_t q') (by repeat (first | exact Cut.nil | (apply Cut.cons; (repeat (first | exact Pick.here | apply Pick.there))))) fun wx H => ?_
  rw [F1.left, hlt]
  refine ⟨_, rfl, cnd_i (fun h => by simp at h) fun _ => ?_⟩
  repeat (first | refine ldI_o H (by repeat (first | exact Pick.here | apply Pick.there)) (by rfl) ?_ | refine ldL_o H (by repeat (first | exact Pick.here | apply Pick.there)) (by rfl) ?_ | refine ldB_o H (by repeat (first | exact Pick.here | apply Pick.there)) (by rfl) ?_ | refine ldP_o H (by repeat (first | exact Pick.here | apply Pick.there)) (by rfl) ?_ | refine ldS_o H (by repeat (first | exact Pick.here | apply Pick.there)) (by rfl) ?_)
  refine call_p H (Room_t q') (by repeat (first | exact Cut.nil | (apply Cut.cons; (repeat (first | exact Pick.here | apply Pick.there))))) fun wx H => ?_
  rw [F1.room, hlt, W_id (n := (N : Int) - 1 - 0 - (n : Int)) (by omega) (by omega)]
  refine ⟨_, rfl, ?_⟩
  rw [show (((N : Int) - 1 - (n : Int)) != (N : Int) - 1 - 0 - (n : Int)) = false by simp]
  unfold crierlaw17_QueueFills_j2
  refine cnd_i (fun h => by cases h) fun _ => ?_
  rcases k4 with ⟨rfl, rfl⟩ | ⟨rfl, g1, g2⟩ | ⟨rfl, x, g1, g2⟩
  · refine cnd_i (fun _ => ⟨by simp, keep_done H (by repeat (first | exact Pick.here | apply Pick.there))⟩) (fun h => by cases h)
  · refine cnd_i (fun h => by cases h) fun _ => cnd_i (fun _ => join_o (cnd_i (fun _ => ?_) fun h => ?_)) (fun h => by cases h)
    · unfold crierlaw17_QueueFills_j0
      exact ⟨by rw [decide_eq_true (by omega)], keep_done H (by repeat (first | exact Pick.here | apply Pick.there))⟩
    · have h : ¬ ((n : Int) = (N : Int) - 1 - 0) := by simpa using h
      simp only [List.length_nil] at g2
      omega
  · refine cnd_i (fun h => by cases h) fun _ => cnd_i (fun h => by cases h) fun _ => ?_
    obtain ⟨g3, -⟩ := List.getElem?_eq_some_iff.1 g1
    have hi : (if IntKind.i64.wrap ((cs.length : Int) - 1) < (n : Int) then IntKind.i64.wrap ((cs.length : Int) - 1) else (n : Int)) = (n : Int) := by
      rw [W_id (by omega) (by omega), if_neg (by omega)]
    rw [hi]
    refine ix_i g3 ?_
    obtain ⟨a1, rfl, e0, ee⟩ := slot_cells (Own.rdS H (i := keep W0) (by repeat (first | exact Pick.here | apply Pick.there)) (keep_slots hq0)) g1
    dsimp only [nn]
    refine ⟨_, e0 _ rfl, ⟨_, ee 1 _ rfl, ⟨_, ee 2 _ rfl, ⟨_, ee 3 _ rfl, ⟨_, ee 4 _ rfl, ⟨_, ee 5 _ rfl, ⟨_, ee 6 _ rfl, ⟨_, ee 7 _ rfl, ⟨_, ee 8 _ rfl, ?_⟩⟩⟩⟩⟩⟩⟩⟩⟩
    have hfit := hg x (List.mem_of_getElem? g1)
    have hI : I64 x.addr := hfit.2.2.2.2.2.2.2
    refine call_p H (refEncode_t x hI) (by repeat (first | exact Cut.nil | (apply Cut.cons; (repeat (first | exact Pick.here | apply Pick.there))))) fun wx H => ?_
    have er : refV x = .tuple [.agg [.int .u64 0, .int .u64 0, .int .u64 0, .int .u64 0].toArray, .bool false].toArray := by unfold refV; rw [ref_enc hI, g2]; rfl
    rw [er]
    refine ⟨_, _, _, _, _, rfl, alc_o H fun b62 wx H => ?_⟩
    refine st1_o H (by repeat (first | exact Rep.here | apply Rep.there)) (by simp) fun wx H => ?_
    refine st1_o H (by repeat (first | exact Rep.here | apply Rep.there)) (by simp) fun wx H => ?_
    refine st1_o H (by repeat (first | exact Rep.here | apply Rep.there)) (by simp) fun wx H => ?_
    refine st1_o H (by repeat (first | exact Rep.here | apply Rep.there)) (by simp) fun wx H => ?_
    refine join_o (cnd_i (fun _ => ?_) fun h => by have := of_decide_eq_false h; omega)
    unfold crierlaw17_QueueFills_j1
    exact ⟨rfl, keep_done H (by repeat (first | exact Pick.here | apply Pick.there))⟩
end Go.Proofs.Ytggchklafbpgpaa
