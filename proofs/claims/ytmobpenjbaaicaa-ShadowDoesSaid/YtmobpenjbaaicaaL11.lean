/-
  shadow: ShadowKeeps.
-/
import Derived.Test.YtmobpenjbaaicaaL10
namespace Go.Proofs.Ytmobpenjbaaicaa
open Go Go.RowKit X
set_option maxRecDepth 100000
set_option linter.unusedVariables false
set_option linter.unusedSimpArgs false
set_option maxHeartbeats 1000000
theorem shadowKeeps_cv {W : World} {q q2 : Option Addr} {c c2 : Nat} {xs ys : List Act25} (hq : Slots W q 3 (xs.map actC)) (hl : xs.length ≤ 9223372036854775807) (hq2 : Slots W q2 3 (ys.map actC)) (hl2 : ys.length ≤ 9223372036854775807) {m : Int} (hm : 0 ≤ m ∧ m ≤ 255) (d e : Int) :
    CV P F.crierlaw25_ShadowKeeps [.int .u8 m, .slice q xs.length c, evV d e, .slice q2 ys.length c2] W fun v w' => v = .bool true ∧ Below W.heap.size W w' := by
  refine crierlaw25_ShadowKeeps_cv ?_
  unfold crierlaw25_ShadowKeeps
  have H := keep_start W
  refine alc_o H fun b10 wx H => ?_
  refine call_o H (awake_t) (by repeat (first | exact Cut.nil | (apply Cut.cons; (repeat (first | exact Pick.here | apply Pick.there))))) fun vx L' wx hq H => ?_
  obtain ⟨rfl, rfl⟩ := hq
  simp only [List.cons_append, List.nil_append] at H
  refine ⟨_, rfl, cnd_i (fun h => by cases h) fun _ => ?_⟩
  refine call_o H (played_t hq hl hm) (by repeat (first | exact Cut.nil | (apply Cut.cons; (repeat (first | exact Pick.here | apply Pick.there))))) fun vx L' wx hq H => ?_
  obtain ⟨b, n, k, A, B, rfl, hI, rfl⟩ := hq
  simp only [List.cons_append, List.nil_append] at H
  refine ⟨_, rfl, join_o (cnd_i (fun h => by cases h) fun _ => ?_)⟩
  unfold crierlaw25_ShadowKeeps_j6
  refine cnd_i (fun h => by cases h) fun _ => ?_
  repeat (first | refine ldI_o H (by repeat (first | exact Pick.here | apply Pick.there)) (by rfl) ?_ | refine ldL_o H (by repeat (first | exact Pick.here | apply Pick.there)) (by rfl) ?_ | refine ldB_o H (by repeat (first | exact Pick.here | apply Pick.there)) (by rfl) ?_ | refine ldP_o H (by repeat (first | exact Pick.here | apply Pick.there)) (by rfl) ?_ | refine ldS_o H (by repeat (first | exact Pick.here | apply Pick.there)) (by rfl) ?_)
  refine call_o H (bind_i hI b n k d e) (by repeat (first | exact Cut.nil | (apply Cut.cons; (repeat (first | exact Pick.here | apply Pick.there))))) fun vx L' wx hq H => ?_
  obtain ⟨rfl, rfl⟩ := hq
  simp only [List.cons_append, List.nil_append] at H
  refine ⟨_, _, rfl, cnd_i (fun h => ?_) fun h => ?_⟩
  · have h : (bindR (m % 41) A B d e).1.2 ≠ 0 := by simpa using h
    exact ⟨by rw [(bind_err h).1]; rfl, keep_done H (by repeat (first | exact Pick.here | apply Pick.there))⟩
  have h : (bindR (m % 41) A B d e).1.2 = 0 := by simpa using h
  obtain ⟨hmay, hlk⟩ := hI.bind_ok h
  have hI' := hI.bind d e
  generalize (bindR (m % 41) A B d e).1.1 = nn0 at *
  generalize bindR (m % 41) A B d e = R at *
  refine loop_o (fun (st : Int) L => ∃ (i : Nat) (A B : List (Int × Int)), i ≤ ys.length ∧ st = i ∧ Inv (m % 41) A B ∧ lk A (keyI d e) = some nn0 ∧ L = shL b n k (m % 41) A B ++ [row b10 [.int .i64 d, .int .i64 e] T.t24, keep W]) (fun (st : Int) => ((ys.length : Int) - st).toNat) (H.drop (by repeat (first | exact Cut.nil | (apply Cut.cons; (repeat (first | exact Pick.here | apply Pick.there))))))
    ⟨0, _, _, by omega, rfl, hI', hlk, rfl⟩ ?_
  clear hI' hlk hI
  rintro _ _ wx ⟨i, A, B, hi, rfl, hI, hlk, rfl⟩ H
  simp only [List.cons_append, List.nil_append] at H
  unfold crierlaw25_ShadowKeeps_l5
  refine cnd_i (fun hc => join_o ?_) fun hc => ?_
  · have hc := of_decide_eq_true hc
    have hil : i < ys.length := by omega
    have hk : ys[i]? = some ys[i] := List.getElem?_eq_getElem hil
    obtain ⟨⟨xa, xd, xe⟩, hx⟩ : ∃ x, x = ys[i] := ⟨_, rfl⟩
    rw [← hx] at hk
    clear hx
    refine ix_i hil ?_
    obtain ⟨a1, ha1, e0, ee⟩ := slot_cells (Own.rdS H (i := keep W) (by repeat (first | exact Pick.here | apply Pick.there)) (keep_slots hq2)) hk
    subst ha1
    refine ⟨_, e0 _ rfl, ?_⟩
    -- behind the first act
    have step1 : ∀ (A B : List (Int × Int)) wx, Inv (m % 41) A B → lk A (keyI d e) = some nn0 → X.Own W (fun k => k < W.heap.size) (shL b n k (m % 41) A B ++ [row b10 [.int .i64 d, .int .i64 e] T.t24, keep W]) wx →
        crierlaw25_ShadowKeeps_j1 (fun v w' => v = .bool true ∧ Below W.heap.size W w') b10 (some ⟨b, 0, none⟩) nn0 (i : Int) (fun (s' : Int) w' => (∃ L', (∃ (i : Nat) (A B : List (Int × Int)), i ≤ ys.length ∧ s' = i ∧ Inv (m % 41) A B ∧ lk A (keyI d e) = some nn0 ∧ L' = shL b n k (m % 41) A B ++ [row b10 [.int .i64 d, .int .i64 e] T.t24, keep W]) ∧ X.Own W (fun k => k < W.heap.size) L' w') ∧ ((ys.length : Int) - s').toNat < ((ys.length : Int) - (i : Int)).toNat) wx := by
      intro A B wx hI hlk H
      simp only [List.cons_append, List.nil_append] at H
      unfold crierlaw25_ShadowKeeps_j1
      repeat (first | refine ldI_o H (by repeat (first | exact Pick.here | apply Pick.there)) (by rfl) ?_ | refine ldL_o H (by repeat (first | exact Pick.here | apply Pick.there)) (by rfl) ?_ | refine ldB_o H (by repeat (first | exact Pick.here | apply Pick.there)) (by rfl) ?_ | refine ldP_o H (by repeat (first | exact Pick.here | apply Pick.there)) (by rfl) ?_ | refine ldS_o H (by repeat (first | exact Pick.here | apply Pick.there)) (by rfl) ?_)
      refine call_p H (number_t b n k (m % 41) A B d e) (by repeat (first | exact Cut.nil | (apply Cut.cons; (repeat (first | exact Pick.here | apply Pick.there))))) fun wx H => ?_
      rw [num_of hmay hlk]
      refine ⟨_, _, rfl, join_o (cnd_i (fun h => by cases h) fun _ => ?_)⟩
      unfold crierlaw25_ShadowKeeps_j0
      refine cnd_i (fun h => by simp at h) fun _ => ?_
      rw [W_id (by omega) (by omega)]
      exact ⟨⟨_, ⟨i + 1, A, B, by omega, by push_cast; rfl, hI, hlk, rfl⟩, H⟩, by omega⟩
    have step2 : ∀ (A B : List (Int × Int)) wx, Inv (m % 41) A B → lk A (keyI d e) = some nn0 → X.Own W (fun k => k < W.heap.size) (shL b n k (m % 41) A B ++ [row b10 [.int .i64 d, .int .i64 e] T.t24, keep W]) wx →
        crierlaw25_ShadowKeeps_j3 (some a1) ys.length (fun v w' => v = .bool true ∧ Below W.heap.size W w') b10 (some ⟨b, 0, none⟩) nn0 (i : Int) (fun (s' : Int) w' => (∃ L', (∃ (i : Nat) (A B : List (Int × Int)), i ≤ ys.length ∧ s' = i ∧ Inv (m % 41) A B ∧ lk A (keyI d e) = some nn0 ∧ L' = shL b n k (m % 41) A B ++ [row b10 [.int .i64 d, .int .i64 e] T.t24, keep W]) ∧ X.Own W (fun k => k < W.heap.size) L' w') ∧ ((ys.length : Int) - s').toNat < ((ys.length : Int) - (i : Int)).toNat) wx := by
      intro A B wx hI hlk H
      simp only [List.cons_append, List.nil_append] at H
      unfold crierlaw25_ShadowKeeps_j3
      refine join_o (join_o ?_)
      refine drw_o H fun wx H => ?_
      refine ix_i hil ?_
      obtain ⟨a2, ha2, e0, ee⟩ := slot_cells (Own.rdS H (i := keep W) (by repeat (first | exact Pick.here | apply Pick.there)) (keep_slots hq2)) hk
      cases ha2
      refine ⟨_, e0 _ rfl, cnd_i (fun _ => ?_) fun _ => ?_⟩
      · refine ix_i hil ⟨_, ee 1 _ rfl, _, by rw [Addr.add_add]; exact ee 2 _ rfl, ?_⟩
        repeat (first | refine ldI_o H (by repeat (first | exact Pick.here | apply Pick.there)) (by rfl) ?_ | refine ldL_o H (by repeat (first | exact Pick.here | apply Pick.there)) (by rfl) ?_ | refine ldB_o H (by repeat (first | exact Pick.here | apply Pick.there)) (by rfl) ?_ | refine ldP_o H (by repeat (first | exact Pick.here | apply Pick.there)) (by rfl) ?_ | refine ldS_o H (by repeat (first | exact Pick.here | apply Pick.there)) (by rfl) ?_)
        refine ev_ne ?_
        unfold crierlaw25_ShadowKeeps_j2
        refine cnd_i (fun hne => ?_) fun _ => step1 A B _ hI hlk H
        have hne : ¬ (xd = d ∧ xe = e) := by rintro ⟨h1, h2⟩; rw [h1, h2] at hne; simp at hne
        refine ix_i hil ⟨_, ee 1 _ rfl, _, by rw [Addr.add_add]; exact ee 2 _ rfl, ?_⟩
        refine call_o H (free_t b n k (m % 41) A B xd xe) (by repeat (first | exact Cut.nil | (apply Cut.cons; (repeat (first | exact Pick.here | apply Pick.there))))) fun vx L' wx hq H => ?_
        obtain ⟨rfl, rfl⟩ := hq
        simp only [List.cons_append, List.nil_append] at H
        exact ⟨_, _, rfl, step1 _ _ _ (hI.free xd xe) (hI.free_keeps hmay hlk hne) H⟩
      · unfold crierlaw25_ShadowKeeps_j2
        exact cnd_i (fun h => by cases h) fun _ => step1 A B _ hI hlk H
    refine cnd_i (fun _ => ?_) fun _ => step2 A B _ hI hlk H
    refine ix_i hil ⟨_, ee 1 _ rfl, _, by rw [Addr.add_add]; exact ee 2 _ rfl, ?_⟩
    refine call_o H (bind_i hI b n k xd xe) (by repeat (first | exact Cut.nil | (apply Cut.cons; (repeat (first | exact Pick.here | apply Pick.there))))) fun vx L' wx hq H => ?_
    obtain ⟨rfl, rfl⟩ := hq
    simp only [List.cons_append, List.nil_append] at H
    exact ⟨_, _, rfl, step2 _ _ _ (hI.bind xd xe) (hI.bind_keeps hlk) H⟩
  · skip
    repeat (first | refine ldI_o H (by repeat (first | exact Pick.here | apply Pick.there)) (by rfl) ?_ | refine ldL_o H (by repeat (first | exact Pick.here | apply Pick.there)) (by rfl) ?_ | refine ldB_o H (by repeat (first | exact Pick.here | apply Pick.there)) (by rfl) ?_ | refine ldP_o H (by repeat (first | exact Pick.here | apply Pick.there)) (by rfl) ?_ | refine ldS_o H (by repeat (first | exact Pick.here | apply Pick.there)) (by rfl) ?_)
    refine call_o H (free_t b n k (m % 41) A B d e) (by repeat (first | exact Cut.nil | (apply Cut.cons; (repeat (first | exact Pick.here | apply Pick.there))))) fun vx L' wx hq H => ?_
    rw [free_of hmay hlk] at hq
    obtain ⟨rfl, rfl⟩ := hq
    simp only [List.cons_append, List.nil_append] at H
    refine ⟨_, _, rfl, ?_⟩
    repeat (first | refine ldI_o H (by repeat (first | exact Pick.here | apply Pick.there)) (by rfl) ?_ | refine ldL_o H (by repeat (first | exact Pick.here | apply Pick.there)) (by rfl) ?_ | refine ldB_o H (by repeat (first | exact Pick.here | apply Pick.there)) (by rfl) ?_ | refine ldP_o H (by repeat (first | exact Pick.here | apply Pick.there)) (by rfl) ?_ | refine ldS_o H (by repeat (first | exact Pick.here | apply Pick.there)) (by rfl) ?_)
    refine call_p H (number_t b n k (m % 41) (takeK A (keyI d e)) (takeK B nn0) d e) (by repeat (first | exact Cut.nil | (apply Cut.cons; (repeat (first | exact Pick.here | apply Pick.there))))) fun wx H => ?_
    rw [num_not fun _ => by rw [lk_take hI.upA, if_pos rfl]]
    refine ⟨_, _, rfl, join_o (cnd_i (fun _ => cnd_i (fun _ => ?_) (fun h => by cases h)) fun hh => by simp at hh)⟩
    unfold crierlaw25_ShadowKeeps_j4
    exact ⟨rfl, keep_done H (by repeat (first | exact Pick.here | apply Pick.there))⟩
end Go.Proofs.Ytmobpenjbaaicaa
