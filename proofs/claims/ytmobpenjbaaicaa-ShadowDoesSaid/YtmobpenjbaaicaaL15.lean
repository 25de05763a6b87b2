/-
  shadow: ShadowOne.
-/
import Derived.Test.YtmobpenjbaaicaaL14
namespace Go.Proofs.Ytmobpenjbaaicaa
open Go Go.RowKit X
set_option maxRecDepth 100000
set_option linter.unusedVariables false
set_option linter.unusedSimpArgs false
set_option maxHeartbeats 1000000
variable {many : Int} {A B : List (Int × Int)} {d e d' e' n : Int}
theorem key_split {k : Int} (h : 0 ≤ k ∧ k < 512) : mayB (k / 16) (k % 16) = true ∧ keyI (k / 16) (k % 16) = k := by
  have hm : mayB (k / 16) (k % 16) = true := mayB_iff.2 (by omega)
  exact ⟨hm, by rw [keyI_may hm]; omega⟩
theorem Inv.vs_nodup (h : Inv many A B) {k : Nat} {u : Int × Int} (hu : A[k]? = some u) : u.2 ∉ (vs A).take k := by
  intro hm
  obtain ⟨j, hj⟩ := List.mem_iff_getElem?.1 hm
  rw [List.getElem?_take] at hj
  split at hj
  · rename_i hjk
    unfold vs at hj
    rw [List.getElem?_map] at hj
    cases hv : A[j]? with
    | none => rw [hv] at hj; cases hj
    | some v =>
      rw [hv] at hj
      simp only [Option.map_some, Option.some.injEq] at hj
      have h1 := h.memA u (List.mem_of_getElem? hu)
      have h2 := h.memA v (List.mem_of_getElem? hv)
      have : v.1 = u.1 := by
        have := h1.2.2.2.2.2
        rw [← hj, h2.2.2.2.2.2] at this
        simpa using this
      have := up_inj h.upA (i := j) (j := k) (k := u.1) (by rw [← this]; exact ks_get hv) (ks_get hu)
      omega
  · cases hj
theorem shadowOne_cv {W : World} {q : Option Addr} {c : Nat} {xs : List Act25} (hq : Slots W q 3 (xs.map actC)) (hl : xs.length ≤ 9223372036854775807) {m : Int} (hm : 0 ≤ m ∧ m ≤ 255) :
    CV P F.crierlaw25_ShadowOne [.int .u8 m, .slice q xs.length c] W fun v w' => v = .bool true ∧ Below W.heap.size W w' := by
  refine crierlaw25_ShadowOne_cv ?_
  unfold crierlaw25_ShadowOne
  have H := keep_start W
  refine alc_o H fun b5 wx H => alc_o H fun b7 wx H => ?_
  refine call_o H (awake_t) (by repeat (first | exact Cut.nil | (apply Cut.cons; (repeat (first | exact Pick.here | apply Pick.there))))) fun vx L' wx hq H => ?_
  obtain ⟨rfl, rfl⟩ := hq
  simp only [List.cons_append, List.nil_append] at H
  refine ⟨_, rfl, cnd_i (fun h => by cases h) fun _ => ?_⟩
  repeat (first | refine ldI_o H (by repeat (first | exact Pick.here | apply Pick.there)) (by rfl) ?_ | refine ldL_o H (by repeat (first | exact Pick.here | apply Pick.there)) (by rfl) ?_ | refine ldB_o H (by repeat (first | exact Pick.here | apply Pick.there)) (by rfl) ?_ | refine ldP_o H (by repeat (first | exact Pick.here | apply Pick.there)) (by rfl) ?_ | refine ldS_o H (by repeat (first | exact Pick.here | apply Pick.there)) (by rfl) ?_)
  refine call_o H (played_t hq hl hm) (by repeat (first | exact Cut.nil | (apply Cut.cons; (repeat (first | exact Pick.here | apply Pick.there))))) fun vx L' wx hq H => ?_
  obtain ⟨b, n, k, A, B, rfl, hI, rfl⟩ := hq
  simp only [List.cons_append, List.nil_append] at H
  refine ⟨_, rfl, alc_o H fun b18 wx H => ?_⟩
  refine st1_o H (by repeat (first | exact Rep.here | apply Rep.there)) (by simp) fun wx H => ?_
  simp only [List.set_cons_zero, List.set_cons_succ] at H
  refine join_o (cnd_i (fun h => by cases h) fun _ => ?_)
  repeat (first | refine ldI_o H (by repeat (first | exact Pick.here | apply Pick.there)) (by rfl) ?_ | refine ldL_o H (by repeat (first | exact Pick.here | apply Pick.there)) (by rfl) ?_ | refine ldB_o H (by repeat (first | exact Pick.here | apply Pick.there)) (by rfl) ?_ | refine ldP_o H (by repeat (first | exact Pick.here | apply Pick.there)) (by rfl) ?_ | refine ldS_o H (by repeat (first | exact Pick.here | apply Pick.there)) (by rfl) ?_)
  unfold crierlaw25_ShadowOne_j2
  refine cnd_i (fun h => by cases h) fun _ => alc_o H fun b26 wx H => ?_
  repeat (first | refine ldI_o H (by repeat (first | exact Pick.here | apply Pick.there)) (by rfl) ?_ | refine ldL_o H (by repeat (first | exact Pick.here | apply Pick.there)) (by rfl) ?_ | refine ldB_o H (by repeat (first | exact Pick.here | apply Pick.there)) (by rfl) ?_ | refine ldP_o H (by repeat (first | exact Pick.here | apply Pick.there)) (by rfl) ?_ | refine ldS_o H (by repeat (first | exact Pick.here | apply Pick.there)) (by rfl) ?_)
  refine call_o H (all_sh_t b n k (m % 41) A B) (by repeat (first | exact Cut.nil | (apply Cut.cons; (repeat (first | exact Pick.here | apply Pick.there))))) fun vx L' wx hq H => ?_
  obtain ⟨z, rfl, rfl⟩ := hq
  have hlA := hI.lenA
  have H := own_nil (e := tInt) (size := 1) H
  let rows : Nat → Option Addr → Nat → List It := fun k' p c => own tInt 1 (.slice p k' c) k' (i64s ((vs A).take k')) :: row b26 [.slice p k' c] T.t37 :: row b18 [bptr b] T.t26 :: row b7 [.bool false] T.t4 :: row b5 [.int .u8 m] T.t5 :: (shL b n k (m % 41) A B ++ [keep W])
  have H : X.Own W (fun k => k < W.heap.size) (rows 0 none 0 ++ allE z A) wx := by
    have H := H.drop (L1 := allE z A ++ rows 0 none 0) (by show Cut _ (allE z A ++ _ :: _ :: _ :: _ :: _ :: _) _; unfold allE thrE; simp only [List.cons_append, List.nil_append]; exact (by repeat (first | exact Cut.nil | (apply Cut.cons; (repeat (first | exact Pick.here | apply Pick.there))))))
    exact own_comm H
  refine ⟨_, rfl, ?_⟩
  refine rf_o (fun k' Li => ∃ p c, Li = rows k' p c) (fun _ _ => False)
    all_enters (all_it z A (by omega) fun u hu => by have := hI.memA u hu; omega) (evs_len A) H ⟨none, 0, rfl⟩ ?_ ?_ ?_
  · rintro k' x _ F l r d wx Q2 hx ⟨p, c, rfl⟩ H hgo hdone
    obtain ⟨u, hu, rfl⟩ := evs_at hx
    have hk' := (List.getElem?_eq_some_iff.1 hu).1
    have hu' := hI.memA u (List.mem_of_getElem? hu)
    have hsp := key_split (k := u.1) (by omega)
    unfold crierlaw25_ShadowOne_r1
    dsimp only [X.b2]
    refine ⟨_, _, rfl, _, rfl, alc_o H fun b42 wx H => ?_⟩
    dsimp only [rows] at H
    simp only [List.cons_append, List.nil_append] at H
    refine st1_o H (by repeat (first | exact Rep.here | apply Rep.there)) (by simp) fun wx H => ?_
    refine st1_o H (by repeat (first | exact Rep.here | apply Rep.there)) (by simp) fun wx H => ?_
    simp only [List.set_cons_zero, List.set_cons_succ] at H
    refine rec_o H (by repeat (first | exact Rep.here | apply Rep.there)) fun wx H => ?_
    repeat (first | refine ldI_o H (by repeat (first | exact Pick.here | apply Pick.there)) (by rfl) ?_ | refine ldL_o H (by repeat (first | exact Pick.here | apply Pick.there)) (by rfl) ?_ | refine ldB_o H (by repeat (first | exact Pick.here | apply Pick.there)) (by rfl) ?_ | refine ldP_o H (by repeat (first | exact Pick.here | apply Pick.there)) (by rfl) ?_ | refine ldS_o H (by repeat (first | exact Pick.here | apply Pick.there)) (by rfl) ?_)
    have hev : evR B u.2 = ((u.1 / 16, u.1 % 16), 0) := by
      have h1 := lk_has hu'.2.2.2.2.2
      unfold evR; rw [h1.1, h1.2]; rfl
    refine call_p H (event_sh_t b n k (m % 41) A B u.2 (fun hh => by have := hI.valB hh; omega)) (by repeat (first | exact Cut.nil | (apply Cut.cons; (repeat (first | exact Pick.here | apply Pick.there))))) fun wx H => ?_
    rw [hev]
    refine ⟨_, _, _, rfl, alc_o H fun b53 wx H => ?_⟩
    refine st1_o H (by repeat (first | exact Rep.here | apply Rep.there)) (by simp) fun wx H => ?_
    refine st1_o H (by repeat (first | exact Rep.here | apply Rep.there)) (by simp) fun wx H => ?_
    simp only [List.set_cons_zero, List.set_cons_succ] at H
    repeat (first | refine ldI_o H (by repeat (first | exact Pick.here | apply Pick.there)) (by rfl) ?_ | refine ldL_o H (by repeat (first | exact Pick.here | apply Pick.there)) (by rfl) ?_ | refine ldB_o H (by repeat (first | exact Pick.here | apply Pick.there)) (by rfl) ?_ | refine ldP_o H (by repeat (first | exact Pick.here | apply Pick.there)) (by rfl) ?_ | refine ldS_o H (by repeat (first | exact Pick.here | apply Pick.there)) (by rfl) ?_)
    refine call_p H (number_t b n k (m % 41) A B (u.1 / 16) (u.1 % 16)) (by repeat (first | exact Cut.nil | (apply Cut.cons; (repeat (first | exact Pick.here | apply Pick.there))))) fun wx H => ?_
    rw [num_of hsp.1 (by rw [hsp.2]; exact hu'.2.2.2.2.1)]
    refine ⟨_, _, rfl, join_o ?_⟩
    repeat (first | refine ldI_o H (by repeat (first | exact Pick.here | apply Pick.there)) (by rfl) ?_ | refine ldL_o H (by repeat (first | exact Pick.here | apply Pick.there)) (by rfl) ?_ | refine ldB_o H (by repeat (first | exact Pick.here | apply Pick.there)) (by rfl) ?_ | refine ldP_o H (by repeat (first | exact Pick.here | apply Pick.there)) (by rfl) ?_ | refine ldS_o H (by repeat (first | exact Pick.here | apply Pick.there)) (by rfl) ?_)
    have hlen : ((vs A).take k').length = k' := by rw [List.length_take, vs_len]; omega
    have hhas := refHas_t (own tInt 1 (.slice p k' c) k' (i64s ((vs A).take k'))) (p := p) (c := c) (xs := (vs A).take k') own_sl (by omega) u.2
    rw [hlen] at hhas
    refine call_p H (hhas) (by repeat (first | exact Cut.nil | (apply Cut.cons; (repeat (first | exact Pick.here | apply Pick.there))))) fun wx H => ?_
    refine ⟨_, rfl, cnd_i (fun h => absurd (of_decide_eq_true h) (hI.vs_nodup hu)) fun _ => cnd_i (fun h => by cases h) fun _ => cnd_i (fun h => by cases h) fun _ => ?_⟩
    repeat (first | refine ldI_o H (by repeat (first | exact Pick.here | apply Pick.there)) (by rfl) ?_ | refine ldL_o H (by repeat (first | exact Pick.here | apply Pick.there)) (by rfl) ?_ | refine ldB_o H (by repeat (first | exact Pick.here | apply Pick.there)) (by rfl) ?_ | refine ldP_o H (by repeat (first | exact Pick.here | apply Pick.there)) (by rfl) ?_ | refine ldS_o H (by repeat (first | exact Pick.here | apply Pick.there)) (by rfl) ?_)
    refine ev_ne (cnd_i (fun h => by simp at h) fun _ => cnd_i (fun h => by simp at h) fun _ => cnd_i (fun h => absurd (of_decide_eq_true h) (by omega)) fun _ => ?_)
    repeat (first | refine ldI_o H (by repeat (first | exact Pick.here | apply Pick.there)) (by rfl) ?_ | refine ldL_o H (by repeat (first | exact Pick.here | apply Pick.there)) (by rfl) ?_ | refine ldB_o H (by repeat (first | exact Pick.here | apply Pick.there)) (by rfl) ?_ | refine ldP_o H (by repeat (first | exact Pick.here | apply Pick.there)) (by rfl) ?_ | refine ldS_o H (by repeat (first | exact Pick.here | apply Pick.there)) (by rfl) ?_)
    refine ⟨by omega, ?_⟩
    rw [wrap_many hm]
    unfold crierlaw25_ShadowOne_j0
    refine cnd_i (fun h => absurd (of_decide_eq_true h) (by omega)) fun _ => ?_
    repeat (first | refine ldI_o H (by repeat (first | exact Pick.here | apply Pick.there)) (by rfl) ?_ | refine ldL_o H (by repeat (first | exact Pick.here | apply Pick.there)) (by rfl) ?_ | refine ldB_o H (by repeat (first | exact Pick.here | apply Pick.there)) (by rfl) ?_ | refine ldP_o H (by repeat (first | exact Pick.here | apply Pick.there)) (by rfl) ?_ | refine ldS_o H (by repeat (first | exact Pick.here | apply Pick.there)) (by rfl) ?_)
    refine alc_o H fun b72 wx H => ?_
    refine app_n (m := 1) (b := b72) (ys := [u.2]) (t := T.t3) H (by repeat (first | exact Pick.here | apply Pick.there)) .here rfl (by omega) fun p1 c1 wx H => ?_
    refine st1_o H (by repeat (first | exact Rep.here | apply Rep.there)) (by simp) fun wx H => ?_
    simp only [List.set_cons_zero, List.set_cons_succ] at H
    refine rec_o H (by repeat (first | exact Rep.here | apply Rep.there)) fun wx H => ?_
    have e : (vs A).take k' ++ [u.2] = (vs A).take (k' + 1) := by
      rw [List.take_add_one, vs_get hu]; rfl
    rw [e] at H
    refine hgo (rows (k' + 1) p1 c1) wx ⟨p1, c1, rfl⟩ ?_
    have H := H.rest (L1 := [row b72 (i64s [u.2]) T.t3, row b53 [.int .i64 (u.1 / 16), .int .i64 (u.1 % 16)] T.t24, row b42 [.int .i64 (u.1 / 16), .int .i64 (u.1 % 16)] T.t24]) (by repeat (first | exact Cut.nil | (apply Cut.cons; (repeat (first | exact Pick.here | apply Pick.there)))))
    exact H.perm (L1 := [recI l r .ready none, defI d, own tInt 1 (.slice p1 (k' + 1) c1) (k' + 1) (i64s ((vs A).take (k' + 1))), row b26 [.slice p1 (k' + 1) c1] T.t37]) (by repeat (first | exact Cut.nil | (apply Cut.cons; (repeat (first | exact Pick.here | apply Pick.there)))))
  · rintro d _ wx ⟨p, c, rfl⟩ H
    dsimp only [jmpX]
    dsimp only [rows] at H
    simp only [List.cons_append, List.nil_append] at H
    refine drw_o H fun wx H => ?_
    repeat (first | refine ldI_o H (by repeat (first | exact Pick.here | apply Pick.there)) (by rfl) ?_ | refine ldL_o H (by repeat (first | exact Pick.here | apply Pick.there)) (by rfl) ?_ | refine ldB_o H (by repeat (first | exact Pick.here | apply Pick.there)) (by rfl) ?_ | refine ldP_o H (by repeat (first | exact Pick.here | apply Pick.there)) (by rfl) ?_ | refine ldS_o H (by repeat (first | exact Pick.here | apply Pick.there)) (by rfl) ?_)
    refine call_p H (len_sh_t b n k (m % 41) A B) (by repeat (first | exact Cut.nil | (apply Cut.cons; (repeat (first | exact Pick.here | apply Pick.there))))) fun wx H => ?_
    have e1 : (evs A).length = A.length := by simp [evs]
    refine ⟨_, rfl, rfl, ?_, ?_⟩
    · repeat (first | refine ldI_o H (by repeat (first | exact Pick.here | apply Pick.there)) (by rfl) ?_ | refine ldL_o H (by repeat (first | exact Pick.here | apply Pick.there)) (by rfl) ?_ | refine ldB_o H (by repeat (first | exact Pick.here | apply Pick.there)) (by rfl) ?_ | refine ldP_o H (by repeat (first | exact Pick.here | apply Pick.there)) (by rfl) ?_ | refine ldS_o H (by repeat (first | exact Pick.here | apply Pick.there)) (by rfl) ?_)
      rfl
    refine st1_o H (by repeat (first | exact Rep.here | apply Rep.there)) (by simp) fun wx H => ?_
    refine take_o H (by repeat (first | exact Pick.here | apply Pick.there)) fun wx H => ?_
    simp only [List.set_cons_zero, List.set_cons_succ] at H
    repeat (first | refine ldI_o H (by repeat (first | exact Pick.here | apply Pick.there)) (by rfl) ?_ | refine ldL_o H (by repeat (first | exact Pick.here | apply Pick.there)) (by rfl) ?_ | refine ldB_o H (by repeat (first | exact Pick.here | apply Pick.there)) (by rfl) ?_ | refine ldP_o H (by repeat (first | exact Pick.here | apply Pick.there)) (by rfl) ?_ | refine ldS_o H (by repeat (first | exact Pick.here | apply Pick.there)) (by rfl) ?_)
    refine ⟨?_, keep_done H (by repeat (first | exact Pick.here | apply Pick.there))⟩
    rw [e1]; simp
  · rintro d c _ wx hD H
    exact hD.elim
end Go.Proofs.Ytmobpenjbaaicaa
