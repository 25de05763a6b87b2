/-
  shadow: ShadowDoes.
-/
import Derived.Test.YtmobpenjbaaicaaL18
namespace Go.Proofs.Ytmobpenjbaaicaa
open Go Go.RowKit X
set_option maxRecDepth 100000
set_option linter.unusedVariables false
set_option linter.unusedSimpArgs false
set_option maxHeartbeats 1000000
theorem shadowDoes_cv {W : World} {q : Option Addr} {c : Nat} {xs : List Act25} (hq : Slots W q 3 (xs.map actC)) (hl : xs.length ≤ 9223372036854775807) (many num : Int) :
    CV P F.crierlaw25_ShadowDoes [.int .i64 many, .slice q xs.length c, .int .i64 num] W fun v w' => v = .bool true ∧ Below W.heap.size W w' := by
  refine crierlaw25_ShadowDoes_cv ?_
  unfold crierlaw25_ShadowDoes
  have H := keep_start W
  refine call_o H (awake_t) (by repeat (first | exact Cut.nil | (apply Cut.cons; (repeat (first | exact Pick.here | apply Pick.there))))) fun vx L' wx hq H => ?_
  obtain ⟨rfl, rfl⟩ := hq
  simp only [List.cons_append, List.nil_append] at H
  refine ⟨_, rfl, cnd_i (fun h => by cases h) fun _ => ?_⟩
  refine call_o H (new_sh_t many) (by repeat (first | exact Cut.nil | (apply Cut.cons; (repeat (first | exact Pick.here | apply Pick.there))))) fun vx L' wx hq H => ?_
  by_cases hm : 0 ≤ many ∧ many ≤ 512
  case neg =>
    rw [if_neg hm] at hq
    obtain ⟨rfl, rfl⟩ := hq
    simp only [List.cons_append, List.nil_append] at H
    refine ⟨_, _, rfl, ?_⟩
    refine call_o H (ref_new_t many) (by repeat (first | exact Cut.nil | (apply Cut.cons; (repeat (first | exact Pick.here | apply Pick.there))))) fun vx L' wx hq H => ?_
    rw [if_neg hm] at hq
    obtain ⟨rfl, rfl⟩ := hq
    simp only [List.cons_append, List.nil_append] at H
    refine ⟨_, _, rfl, join_o (cnd_i (fun h => by cases h) fun _ => cnd_i (fun h => by cases h) fun _ => cnd_i (fun h => by cases h) fun _ => cnd_i (fun _ => ?_) (fun h => by cases h))⟩
    unfold crierlaw25_ShadowDoes_j6
    refine cnd_i (fun h => by cases h) fun _ => ?_
    refine loop_o (fun (st : Option Addr × Int) L => L = [keep W]) (fun _ => 0) H rfl ?_
    rintro _ _ wx rfl H
    unfold crierlaw25_ShadowDoes_l5
    refine join_o (cnd_i (fun h => by cases h) fun _ => ?_)
    unfold crierlaw25_ShadowDoes_j4
    exact cnd_i (fun h => by cases h) fun _ => ⟨rfl, keep_done H (by repeat (first | exact Pick.here | apply Pick.there))⟩
  rw [if_pos hm] at hq
  obtain ⟨b, n, k, rfl, rfl⟩ := hq
  simp only [List.cons_append, List.nil_append] at H
  refine ⟨_, _, rfl, ?_⟩
  refine call_o H (ref_new_t many) (by repeat (first | exact Cut.nil | (apply Cut.cons; (repeat (first | exact Pick.here | apply Pick.there))))) fun vx L' wx hq H => ?_
  rw [if_pos hm] at hq
  obtain ⟨br, rfl, rfl⟩ := hq
  simp only [List.cons_append, List.nil_append] at H
  refine ⟨_, _, rfl, join_o (cnd_i (fun h => by cases h) fun _ => cnd_i (fun h => by cases h) fun _ => cnd_i (fun h => by cases h) fun _ => cnd_i (fun h => by cases h) fun _ => ?_)⟩
  unfold crierlaw25_ShadowDoes_j6
  refine cnd_i (fun h => by cases h) fun _ => ?_
  refine loop_o (fun (st : Option Addr × Int) L => ∃ (i b n k : Nat) (A B : List (Int × Int)), i ≤ xs.length ∧ st = (some ⟨b, 0, none⟩, (i : Int)) ∧ Inv many A B ∧ L = refI br (refOf many B) :: shL b n k many A B ++ [keep W]) (fun (st : Option Addr × Int) => ((xs.length : Int) - st.2).toNat) H
    ⟨0, b, n, k, [], [], by omega, rfl, Inv.new hm, rfl⟩ ?_
  rintro _ _ wx ⟨i, b, n, k, A, B, hi, rfl, hI, rfl⟩ H
  simp only [List.cons_append, List.nil_append] at H
  unfold crierlaw25_ShadowDoes_l5
  refine join_o (cnd_i (fun _ => ?_) (fun h => by cases h))
  unfold crierlaw25_ShadowDoes_j4
  refine cnd_i (fun hc => ?_) fun hc => ⟨rfl, keep_done H (by repeat (first | exact Pick.here | apply Pick.there))⟩
  have hc := of_decide_eq_true hc
  dsimp only at hc
  have hil : i < xs.length := by omega
  have hk : xs[i]? = some xs[i] := List.getElem?_eq_getElem hil
  obtain ⟨⟨xa, xd, xe⟩, hx⟩ : ∃ x, x = xs[i] := ⟨_, rfl⟩
  rw [← hx] at hk
  clear hx
  refine ix_i hil ?_
  obtain ⟨a1, rfl, e0, ee⟩ := slot_cells (Own.rdS H (i := keep W) (by repeat (first | exact Pick.here | apply Pick.there)) (keep_slots hq)) hk
  refine ⟨_, e0 _ rfl, _, ee 1 _ rfl, _, ee 2 _ rfl, alc_o H fun b34 wx H => ?_⟩
  refine st1_o H (by repeat (first | exact Rep.here | apply Rep.there)) (by simp) fun wx H => ?_
  refine st1_o H (by repeat (first | exact Rep.here | apply Rep.there)) (by simp) fun wx H => ?_
  refine st1_o H (by repeat (first | exact Rep.here | apply Rep.there)) (by simp) fun wx H => ?_
  simp only [List.set_cons_zero, List.set_cons_succ] at H
  -- behind the copy, if there is one
  have go : ∀ (b n k : Nat) wx, X.Own W (fun k => k < W.heap.size) (row b34 [.int .i64 xa, .int .i64 xd, .int .i64 xe] T.t32 :: refI br (refOf many B) :: (shL b n k many A B ++ [keep W])) wx →
      crierlaw25_ShadowDoes_j3 num (fun v w' => v = .bool true ∧ Below W.heap.size W w') (some ⟨br, 0, none⟩) (i : Int)
        (fun (s' : Option Addr × Int) w' => (∃ L', (∃ (i b n k : Nat) (A B : List (Int × Int)), i ≤ xs.length ∧ s' = (some ⟨b, 0, none⟩, (i : Int)) ∧ Inv many A B ∧ L' = refI br (refOf many B) :: shL b n k many A B ++ [keep W]) ∧ X.Own W (fun k => k < W.heap.size) L' w') ∧ ((xs.length : Int) - s'.2).toNat < ((xs.length : Int) - (i : Int)).toNat)
        b34 (some ⟨b, 0, none⟩) wx := by
    intro b n k wx H
    simp only [List.cons_append, List.nil_append] at H
    unfold crierlaw25_ShadowDoes_j3
    refine join_o ?_
    repeat (first | refine ldI_o H (by repeat (first | exact Pick.here | apply Pick.there)) (by rfl) ?_ | refine ldL_o H (by repeat (first | exact Pick.here | apply Pick.there)) (by rfl) ?_ | refine ldB_o H (by repeat (first | exact Pick.here | apply Pick.there)) (by rfl) ?_ | refine ldP_o H (by repeat (first | exact Pick.here | apply Pick.there)) (by rfl) ?_ | refine ldS_o H (by repeat (first | exact Pick.here | apply Pick.there)) (by rfl) ?_)
    refine call_o H (does_t hI b n k br (xa, xd, xe)) (by repeat (first | exact Cut.nil | (apply Cut.cons; (repeat (first | exact Pick.here | apply Pick.there))))) fun vx L' wx hq H => ?_
    obtain ⟨rfl, rfl⟩ := hq
    have hI' := hI.step (xa, xd, xe)
    generalize stepM many A B (xa, xd, xe) = R at *
    obtain ⟨A1, B1⟩ := R
    dsimp only at hI' H
    simp only [List.cons_append, List.nil_append] at H
    refine ⟨_, rfl, cnd_i (fun h => by cases h) fun _ => ?_⟩
    repeat (first | refine ldI_o H (by repeat (first | exact Pick.here | apply Pick.there)) (by rfl) ?_ | refine ldL_o H (by repeat (first | exact Pick.here | apply Pick.there)) (by rfl) ?_ | refine ldB_o H (by repeat (first | exact Pick.here | apply Pick.there)) (by rfl) ?_ | refine ldP_o H (by repeat (first | exact Pick.here | apply Pick.there)) (by rfl) ?_ | refine ldS_o H (by repeat (first | exact Pick.here | apply Pick.there)) (by rfl) ?_)
    refine call_p H (alike_t hI' b n k br xd xe) (by repeat (first | exact Cut.nil | (apply Cut.cons; (repeat (first | exact Pick.here | apply Pick.there))))) fun wx H => ?_
    refine ⟨_, rfl, ?_⟩
    unfold crierlaw25_ShadowDoes_j2
    refine cnd_i (fun h => by cases h) fun _ => ?_
    refine call_p H (event_sh_t b n k many A1 B1 num (fun hh => by have := hI'.valB hh; omega)) (by repeat (first | exact Cut.nil | (apply Cut.cons; (repeat (first | exact Pick.here | apply Pick.there))))) fun wx H => ?_
    refine ⟨_, _, _, rfl, alc_o H fun b50 wx H => ?_⟩
    refine st1_o H (by repeat (first | exact Rep.here | apply Rep.there)) (by simp) fun wx H => ?_
    refine st1_o H (by repeat (first | exact Rep.here | apply Rep.there)) (by simp) fun wx H => ?_
    simp only [List.set_cons_zero, List.set_cons_succ] at H
    have done : ∀ wx, X.Own W (fun k => k < W.heap.size) (row b50 [.int .i64 (evR B1 num).1.1, .int .i64 (evR B1 num).1.2] T.t24 :: refI br (refOf many B1) :: (shL b n k many A1 B1 ++ [keep W])) wx →
        crierlaw25_ShadowDoes_j0 (fun v w' => v = .bool true ∧ Below W.heap.size W w') (i : Int) (fun (s' : Option Addr × Int) w' => (∃ L', (∃ (i b n k : Nat) (A B : List (Int × Int)), i ≤ xs.length ∧ s' = (some ⟨b, 0, none⟩, (i : Int)) ∧ Inv many A B ∧ L' = refI br (refOf many B) :: shL b n k many A B ++ [keep W]) ∧ X.Own W (fun k => k < W.heap.size) L' w') ∧ ((xs.length : Int) - s'.2).toNat < ((xs.length : Int) - (i : Int)).toNat)
        (some ⟨b, 0, none⟩) false wx := by
      intro wx H
      unfold crierlaw25_ShadowDoes_j0
      refine cnd_i (fun h => by cases h) fun _ => ?_
      simp only [List.cons_append, List.nil_append] at H
      rw [W_id (by omega) (by omega)]
      exact ⟨⟨_, ⟨i + 1, b, n, k, A1, B1, by omega, by push_cast; rfl, hI', rfl⟩, H.drop (by repeat (first | exact Cut.nil | (apply Cut.cons; (repeat (first | exact Pick.here | apply Pick.there)))))⟩, by show ((xs.length : Int) - ((i : Int) + 1)).toNat < _; omega⟩
    have hlen := refOf_len many B1
    have absent : lk B1 num = none → ∀ wx, X.Own W (fun k => k < W.heap.size) (row b50 [.int .i64 (evR B1 num).1.1, .int .i64 (evR B1 num).1.2] T.t24 :: refI br (refOf many B1) :: (shL b n k many A1 B1 ++ [keep W])) wx →
        crierlaw25_ShadowDoes_j1 num (fun v w' => v = .bool true ∧ Below W.heap.size W w') (some ⟨br, 0, none⟩) (i : Int) (fun (s' : Option Addr × Int) w' => (∃ L', (∃ (i b n k : Nat) (A B : List (Int × Int)), i ≤ xs.length ∧ s' = (some ⟨b, 0, none⟩, (i : Int)) ∧ Inv many A B ∧ L' = refI br (refOf many B) :: shL b n k many A B ++ [keep W]) ∧ X.Own W (fun k => k < W.heap.size) L' w') ∧ ((xs.length : Int) - s'.2).toNat < ((xs.length : Int) - (i : Int)).toNat)
        (some ⟨b, 0, none⟩) (evR B1 num).2 b50 false wx := by
      intro hn wx H
      have he : evR B1 num = ((0, 0), 250) := by unfold evR; rw [hasK_lk, hn]; rfl
      rw [he] at done H ⊢
      unfold crierlaw25_ShadowDoes_j1
      refine join_o ?_
      refine drw_o H fun wx H => ?_
      refine cnd_i (fun h => by simp at h) fun _ => cnd_i (fun h => by cases h) fun _ => cnd_i (fun _ => cnd_i (fun h => by simp at h) fun _ => ?_) (fun h => by cases h)
      repeat (first | refine ldI_o H (by repeat (first | exact Pick.here | apply Pick.there)) (by rfl) ?_ | refine ldL_o H (by repeat (first | exact Pick.here | apply Pick.there)) (by rfl) ?_ | refine ldB_o H (by repeat (first | exact Pick.here | apply Pick.there)) (by rfl) ?_ | refine ldP_o H (by repeat (first | exact Pick.here | apply Pick.there)) (by rfl) ?_ | refine ldS_o H (by repeat (first | exact Pick.here | apply Pick.there)) (by rfl) ?_)
      refine ev_ne ?_
      exact done _ H
    have H : X.Own W (fun k => k < W.heap.size) (row b50 [.int .i64 (evR B1 num).1.1, .int .i64 (evR B1 num).1.2] T.t24 :: refI br (refOf many B1) :: (shL b n k many A1 B1 ++ [keep W])) wx := H.drop (by simp only [List.cons_append, List.nil_append]; exact (by repeat (first | exact Cut.nil | (apply Cut.cons; (repeat (first | exact Pick.here | apply Pick.there))))))
    refine join_o (cnd_i (fun h0 => ?_) fun h0 => ?_)
    · have h0 := of_decide_eq_true h0
      obtain ⟨p, c, q2, c2, h2, H2⟩ := ref_open H (.there .here)
      dsimp only [nn]
      simp only [List.cons_append, List.nil_append] at H2
      refine ldL_o H2 (by repeat (first | exact Pick.here | apply Pick.there)) (by rfl) (cnd_i (fun h1 => ?_) fun h1 => ?_)
      · have h1 := of_decide_eq_true h1
        obtain ⟨t, rfl⟩ := Int.eq_ofNat_of_zero_le h0
        have hx := refOf_get B1 (many := many) (t := t) (by omega)
        refine ldL_o H2 (by repeat (first | exact Pick.here | apply Pick.there)) (by rfl) ?_
        refine rd_n H2 (by repeat (first | exact Pick.here | apply Pick.there)) (ks_get hx) ?_
        cases hz : lk B1 (t : Int) with
        | none =>
          have hcell : cellOf B1 t = (-1, -1) := by unfold cellOf; rw [hz]
          rw [hcell]
          exact absent hz _ H
        | some z =>
          have hr := hI'.rng _ _ ((hI'.iff _ _).2 hz)
          have hcell : cellOf B1 t = (z / 16, z % 16) := by unfold cellOf; rw [hz]
          have he : evR B1 (t : Int) = ((z / 16, z % 16), 0) := by unfold evR; rw [(lk_has hz).1, (lk_has hz).2]; rfl
          rw [hcell, decide_eq_true (show z / 16 ≥ 0 by omega)]
          rw [he] at done H H2 ⊢
          unfold crierlaw25_ShadowDoes_j1
          refine join_o ?_
          have H0 := H
          refine drw_o H0 fun wx H0 => ?_
          obtain ⟨p, c, q2, c2, h2, H⟩ := ref_open H0 (.there .here)
          simp only [List.cons_append, List.nil_append] at H
          refine cnd_i (fun h => by simp at h) fun _ => cnd_i (fun _ => ?_) (fun h => by cases h)
          dsimp only [nn]
          repeat (first | refine ldI_o H (by repeat (first | exact Pick.here | apply Pick.there)) (by rfl) ?_ | refine ldL_o H (by repeat (first | exact Pick.here | apply Pick.there)) (by rfl) ?_ | refine ldB_o H (by repeat (first | exact Pick.here | apply Pick.there)) (by rfl) ?_ | refine ldP_o H (by repeat (first | exact Pick.here | apply Pick.there)) (by rfl) ?_ | refine ldS_o H (by repeat (first | exact Pick.here | apply Pick.there)) (by rfl) ?_)
          refine rd_n H (by repeat (first | exact Pick.here | apply Pick.there)) (ks_get hx) ?_
          rw [hcell]
          refine cnd_i (fun h => by simp at h) fun _ => ?_
          repeat (first | refine ldI_o H (by repeat (first | exact Pick.here | apply Pick.there)) (by rfl) ?_ | refine ldL_o H (by repeat (first | exact Pick.here | apply Pick.there)) (by rfl) ?_ | refine ldB_o H (by repeat (first | exact Pick.here | apply Pick.there)) (by rfl) ?_ | refine ldP_o H (by repeat (first | exact Pick.here | apply Pick.there)) (by rfl) ?_ | refine ldS_o H (by repeat (first | exact Pick.here | apply Pick.there)) (by rfl) ?_)
          refine rd_n H (by repeat (first | exact Pick.here | apply Pick.there)) (vs_get hx) ?_
          rw [hcell]
          refine cnd_i (fun h => by simp at h) fun _ => cnd_i (fun h => by cases h) fun _ => ?_
          exact done _ H0
      · have h1 := of_decide_eq_false h1
        refine absent ?_ _ H
        cases hz : lk B1 num with
        | none => rfl
        | some z =>
          have hr := hI'.rng _ _ ((hI'.iff _ _).2 hz)
          omega
    · have h0 := of_decide_eq_false h0
      refine absent ?_ _ H
      cases hz : lk B1 num with
      | none => rfl
      | some z =>
        have hr := hI'.rng _ _ ((hI'.iff _ _).2 hz)
        omega
  refine join_o ?_
  repeat (first | refine ldI_o H (by repeat (first | exact Pick.here | apply Pick.there)) (by rfl) ?_ | refine ldL_o H (by repeat (first | exact Pick.here | apply Pick.there)) (by rfl) ?_ | refine ldB_o H (by repeat (first | exact Pick.here | apply Pick.there)) (by rfl) ?_ | refine ldP_o H (by repeat (first | exact Pick.here | apply Pick.there)) (by rfl) ?_ | refine ldS_o H (by repeat (first | exact Pick.here | apply Pick.there)) (by rfl) ?_)
  refine cnd_i (fun _ => ?_) fun _ => go b n k wx (H.drop (by simp only [List.cons_append, List.nil_append]; exact (by repeat (first | exact Cut.nil | (apply Cut.cons; (repeat (first | exact Pick.here | apply Pick.there)))))))
  refine call_o H (copy_sh_t b n k many A B) (by repeat (first | exact Cut.nil | (apply Cut.cons; (repeat (first | exact Pick.here | apply Pick.there))))) fun vx L' wx hq H => ?_
  obtain ⟨b', n', k', rfl, rfl⟩ := hq
  simp only [List.cons_append, List.nil_append] at H
  refine ⟨_, rfl, cnd_i (fun h => by cases h) fun _ => ?_⟩
  repeat (first | refine ldI_o H (by repeat (first | exact Pick.here | apply Pick.there)) (by rfl) ?_ | refine ldL_o H (by repeat (first | exact Pick.here | apply Pick.there)) (by rfl) ?_ | refine ldB_o H (by repeat (first | exact Pick.here | apply Pick.there)) (by rfl) ?_ | refine ldP_o H (by repeat (first | exact Pick.here | apply Pick.there)) (by rfl) ?_ | refine ldS_o H (by repeat (first | exact Pick.here | apply Pick.there)) (by rfl) ?_)
  refine call_o H (bind_i hI b n k xd xe) (by repeat (first | exact Cut.nil | (apply Cut.cons; (repeat (first | exact Pick.here | apply Pick.there))))) fun vx L' wx hq H => ?_
  obtain ⟨rfl, rfl⟩ := hq
  simp only [List.cons_append, List.nil_append] at H
  have hI1 := hI.bind xd xe
  generalize bindR many A B xd xe = R1 at *
  refine ⟨_, _, rfl, ?_⟩
  repeat (first | refine ldI_o H (by repeat (first | exact Pick.here | apply Pick.there)) (by rfl) ?_ | refine ldL_o H (by repeat (first | exact Pick.here | apply Pick.there)) (by rfl) ?_ | refine ldB_o H (by repeat (first | exact Pick.here | apply Pick.there)) (by rfl) ?_ | refine ldP_o H (by repeat (first | exact Pick.here | apply Pick.there)) (by rfl) ?_ | refine ldS_o H (by repeat (first | exact Pick.here | apply Pick.there)) (by rfl) ?_)
  refine call_o H (free_t b n k many R1.2.1 R1.2.2 xd xe) (by repeat (first | exact Cut.nil | (apply Cut.cons; (repeat (first | exact Pick.here | apply Pick.there))))) fun vx L' wx hq H => ?_
  obtain ⟨rfl, rfl⟩ := hq
  simp only [List.cons_append, List.nil_append] at H
  have hI2 := hI1.free xd xe
  generalize freeM R1.2.1 R1.2.2 xd xe = R2 at *
  refine ⟨_, _, rfl, ?_⟩
  refine call_o H (bind_i hI2 b n k 1 1) (by repeat (first | exact Cut.nil | (apply Cut.cons; (repeat (first | exact Pick.here | apply Pick.there))))) fun vx L' wx hq H => ?_
  obtain ⟨rfl, rfl⟩ := hq
  simp only [List.cons_append, List.nil_append] at H
  refine ⟨_, _, rfl, ?_⟩
  exact go b' n' k' _ (H.drop (by simp only [List.cons_append, List.nil_append]; exact (by repeat (first | exact Cut.nil | (apply Cut.cons; (repeat (first | exact Pick.here | apply Pick.there)))))))
end Go.Proofs.Ytmobpenjbaaicaa
