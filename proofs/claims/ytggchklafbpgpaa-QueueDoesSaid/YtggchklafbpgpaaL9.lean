/-
  queue: QueueDoes.
-/
import Derived.Test.YtggchklafbpgpaaL8
namespace Go.Proofs.Ytggchklafbpgpaa
open Go Go.RowKit X
set_option maxRecDepth 100000
set_option linter.unusedVariables false
set_option linter.unusedSimpArgs false
set_option maxHeartbeats 1000000
theorem queueDoes_cv {W0 : World} (q : Qu) (hs : SmallS q) (size : Int) {p2 : Option Addr} {c2 : Nat} {xs : List Act17} (hq2 : Slots W0 p2 12 (xs.map Act17.cells)) (hl : xs.length ≤ 9223372036854775807) (hx : ∀ x ∈ xs, x.Good) :
    CV P F.crierlaw17_QueueDoes [quV q, .int .i64 size, .slice p2 xs.length c2] W0 fun v w' => v = .bool true ∧ Below W0.heap.size W0 w' := by
  refine crierlaw17_QueueDoes_cv ?_
  unfold crierlaw17_QueueDoes
  have H := keep_start W0
  refine alc_o H fun b9 wx H => ?_
  refine call_p H (awake_t) (by repeat (first | exact Cut.nil | (apply Cut.cons; (repeat (first | exact Pick.here | apply Pick.there))))) fun wx H => ?_
  refine ⟨_, rfl, cnd_i (fun h => by cases h) fun _ => ?_⟩
  refine call_o H (lawNewX_t size) (by repeat (first | exact Cut.nil | (apply Cut.cons; (repeat (first | exact Pick.here | apply Pick.there))))) fun vx L' wx hq H => ?_
  obtain ⟨m, m', rfl, rfl⟩ := hq
  simp only [List.cons_append, List.nil_append] at H
  refine ⟨_, _, rfl, join_o (cnd_i (fun h => by cases h) fun _ => ?_)⟩
  generalize List.replicate (lawN size) (0 : Int) = bs at H
  unfold crierlaw17_QueueDoes_j2
  refine cnd_i (fun h => by cases h) fun _ => ?_
  repeat (first | refine ldI_o H (by repeat (first | exact Pick.here | apply Pick.there)) (by rfl) ?_ | refine ldL_o H (by repeat (first | exact Pick.here | apply Pick.there)) (by rfl) ?_ | refine ldB_o H (by repeat (first | exact Pick.here | apply Pick.there)) (by rfl) ?_ | refine ldP_o H (by repeat (first | exact Pick.here | apply Pick.there)) (by rfl) ?_ | refine ldS_o H (by repeat (first | exact Pick.here | apply Pick.there)) (by rfl) ?_)
  refine call_p H (told_t q) (by repeat (first | exact Cut.nil | (apply Cut.cons; (repeat (first | exact Pick.here | apply Pick.there))))) fun wx H => ?_
  refine ⟨_, _, _, _, rfl, alc_o H fun b31 wx H => ?_⟩
  refine st1_o H (by repeat (first | exact Rep.here | apply Rep.there)) (by simp) fun wx H => ?_
  refine st1_o H (by repeat (first | exact Rep.here | apply Rep.there)) (by simp) fun wx H => ?_
  refine st1_o H (by repeat (first | exact Rep.here | apply Rep.there)) (by simp) fun wx H => ?_
  refine st1_o H (by repeat (first | exact Rep.here | apply Rep.there)) (by simp) fun wx H => ?_
  have H := H.perm (L1 := bothL b9 b31 m m' q bs ++ [keep W0]) (F := []) (by unfold bothL Qu.cells; exact (by repeat (first | exact Cut.nil | (apply Cut.cons; (repeat (first | exact Pick.here | apply Pick.there))))))
  rw [List.append_nil] at H
  refine loop_o (fun (st : Int) L => ∃ (i : Nat) (q' : Qu) (bs' : List Int), i ≤ xs.length ∧ st = i ∧ SmallS q' ∧ L = bothL b9 b31 m m' q' bs' ++ [keep W0]) (fun (st : Int) => ((xs.length : Int) - st).toNat) H ⟨0, q, bs, by omega, rfl, hs, rfl⟩ ?_
  clear H hs
  rintro _ _ wx ⟨i, q, bs, hi, rfl, hs, rfl⟩ H
  dsimp only [bothL] at H
  simp only [List.cons_append, List.nil_append] at H
  unfold crierlaw17_QueueDoes_l1
  refine cnd_i (fun hc => ?_) fun hc => ?_
  · have hc := of_decide_eq_true hc
    have hlt : i < xs.length := by omega
    obtain ⟨x, hxi⟩ : ∃ x, xs[i]? = some x := ⟨_, List.getElem?_eq_getElem hlt⟩
    refine ix_i hlt ?_
    obtain ⟨a1, rfl, e0, ee⟩ := slot_cells (Own.rdS H (i := keep W0) (by repeat (first | exact Pick.here | apply Pick.there)) (keep_slots hq2)) hxi
    dsimp only [nn]
    refine ⟨_, e0 _ rfl, ⟨_, ee 1 _ rfl, ⟨_, ee 2 _ rfl, ⟨_, ee 3 _ rfl, ⟨_, ee 4 _ rfl, ⟨_, ee 5 _ rfl, ⟨_, ee 6 _ rfl, ⟨_, ee 7 _ rfl, ⟨_, ee 8 _ rfl, ⟨_, ee 9 _ rfl, ⟨_, ee 10 _ rfl, ⟨_, ee 11 _ rfl, ?_⟩⟩⟩⟩⟩⟩⟩⟩⟩⟩⟩⟩
    refine alc_o H fun b55 wx H => ?_
    refine st1_o H (by repeat (first | exact Rep.here | apply Rep.there)) (by simp) fun wx H => ?_
    refine st1_o H (by repeat (first | exact Rep.here | apply Rep.there)) (by simp) fun wx H => ?_
    refine st1_o H (by repeat (first | exact Rep.here | apply Rep.there)) (by simp) fun wx H => ?_
    refine st1_o H (by repeat (first | exact Rep.here | apply Rep.there)) (by simp) fun wx H => ?_
    refine st1_o H (by repeat (first | exact Rep.here | apply Rep.there)) (by simp) fun wx H => ?_
    refine st1_o H (by repeat (first | exact Rep.here | apply Rep.there)) (by simp) fun wx H => ?_
    refine st1_o H (by repeat (first | exact Rep.here | apply Rep.there)) (by simp) fun wx H => ?_
    refine st1_o H (by repeat (first | exact Rep.here | apply Rep.there)) (by simp) fun wx H => ?_
    refine st1_o H (by repeat (first | exact Rep.here | apply Rep.there)) (by simp) fun wx H => ?_
    refine st1_o H (by repeat (first | exact Rep.here | apply Rep.there)) (by simp) fun wx H => ?_
    refine st1_o H (by repeat (first | exact Rep.here | apply Rep.there)) (by simp) fun wx H => ?_
    refine st1_o H (by repeat (first | exact Rep.here | apply Rep.there)) (by simp) fun wx H => ?_
    refine join_o ?_
    repeat (first | refine ldI_o H (by repeat (first | exact Pick.here | apply Pick.there)) (by rfl) ?_ | refine ldL_o H (by repeat (first | exact Pick.here | apply Pick.there)) (by rfl) ?_ | refine ldB_o H (by repeat (first | exact Pick.here | apply Pick.there)) (by rfl) ?_ | refine ldP_o H (by repeat (first | exact Pick.here | apply Pick.there)) (by rfl) ?_ | refine ldS_o H (by repeat (first | exact Pick.here | apply Pick.there)) (by rfl) ?_)
    refine call_o H (does_t b9 b31 m m' q hs bs x (hx x (List.mem_of_getElem? hxi))) (by repeat (first | exact Cut.nil | (apply Cut.cons; (repeat (first | exact Pick.here | apply Pick.there))))) fun vx L' wx hq H => ?_
    obtain ⟨rfl, rfl⟩ := hq
    have hs' : SmallS (stepD q bs x).1 := by unfold SmallS; rw [step_s]; exact hs
    generalize (stepD q bs x).1 = q' at *
    generalize (stepD q bs x).2 = bs' at *
    dsimp only [bothL] at H
    simp only [List.cons_append, List.nil_append] at H
    refine ⟨_, rfl, cnd_i (fun h => by cases h) fun _ => ?_⟩
    unfold Qu.cells at H
    repeat (first | refine ldI_o H (by repeat (first | exact Pick.here | apply Pick.there)) (by rfl) ?_ | refine ldL_o H (by repeat (first | exact Pick.here | apply Pick.there)) (by rfl) ?_ | refine ldB_o H (by repeat (first | exact Pick.here | apply Pick.there)) (by rfl) ?_ | refine ldP_o H (by repeat (first | exact Pick.here | apply Pick.there)) (by rfl) ?_ | refine ldS_o H (by repeat (first | exact Pick.here | apply Pick.there)) (by rfl) ?_)
    refine call_p H (alike_t m m' q' hs' bs') (by repeat (first | exact Cut.nil | (apply Cut.cons; (repeat (first | exact Pick.here | apply Pick.there))))) fun wx H => ?_
    refine ⟨_, rfl, ?_⟩
    unfold crierlaw17_QueueDoes_j0
    have e1 : IntKind.i64.wrap ((i : Int) + 1) = ((i + 1 : Nat) : Int) := by rw [W_id (by omega) (by omega)]; push_cast; rfl
    rw [e1]
    refine cnd_i (fun h => by cases h) fun _ => ⟨⟨_, ⟨i + 1, q', bs', by omega, rfl, hs', rfl⟩, H.drop (by unfold bothL Qu.cells; exact (by repeat (first | exact Cut.nil | (apply Cut.cons; (repeat (first | exact Pick.here | apply Pick.there))))))⟩, by omega⟩
  · unfold Qu.cells at H
    repeat (first | refine ldI_o H (by repeat (first | exact Pick.here | apply Pick.there)) (by rfl) ?_ | refine ldL_o H (by repeat (first | exact Pick.here | apply Pick.there)) (by rfl) ?_ | refine ldB_o H (by repeat (first | exact Pick.here | apply Pick.there)) (by rfl) ?_ | refine ldP_o H (by repeat (first | exact Pick.here | apply Pick.there)) (by rfl) ?_ | refine ldS_o H (by repeat (first | exact Pick.here | apply Pick.there)) (by rfl) ?_)
    refine call_p H (alike_t m m' q hs bs) (by repeat (first | exact Cut.nil | (apply Cut.cons; (repeat (first | exact Pick.here | apply Pick.there))))) fun wx H => ?_
    exact ⟨_, rfl, rfl, keep_done H (by repeat (first | exact Pick.here | apply Pick.there))⟩
end Go.Proofs.Ytggchklafbpgpaa
