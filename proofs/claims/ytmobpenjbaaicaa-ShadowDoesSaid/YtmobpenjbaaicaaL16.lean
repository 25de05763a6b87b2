/-
  shadow: ShadowOf.
-/
import Derived.Test.YtmobpenjbaaicaaL15
namespace Go.Proofs.Ytmobpenjbaaicaa
open Go Go.RowKit X
set_option maxRecDepth 100000
set_option linter.unusedVariables false
set_option linter.unusedSimpArgs false
set_option maxHeartbeats 1000000
variable {many : Int} {A B : List (Int × Int)} {d e d' e' n : Int}
theorem Inv.pw (h : Inv many A B) : A.Pairwise (fun u v => u.1 < v.1) := by have := h.upA; unfold Up ks at this; rwa [List.pairwise_map] at this
theorem Inv.of_up (h : Inv many A B) (d : Int) : (ofL A d).Pairwise (fun u v => u.1 < v.1) := by
  unfold ofL
  rw [List.pairwise_map, List.pairwise_filter]
  refine h.pw.imp fun {u v} huv hu hv => ?_
  have hu : u.1 / 16 = d := by simpa using hu
  have hv : v.1 / 16 = d := by simpa using hv
  omega
theorem of_mem {A : List (Int × Int)} {d : Int} {x : Int × Int} (h : x ∈ ofL A d) : ∃ u ∈ A, u.1 / 16 = d ∧ x = (u.1 % 16, u.2) := by
  unfold ofL at h
  obtain ⟨u, hu, rfl⟩ := List.mem_map.1 h
  obtain ⟨h1, h2⟩ := List.mem_filter.1 hu
  exact ⟨u, h1, by simpa using h2, rfl⟩
def below (A : List (Int × Int)) (d : Int) : Nat := (A.filter fun u => decide (u.1 / 16 < d)).length
theorem below_next (A : List (Int × Int)) (d : Int) : below A (d + 1) = below A d + (ofL A d).length := by
  unfold below ofL
  rw [List.length_map]
  induction A with
  | nil => rfl
  | cons u r ih =>
    simp only [List.filter_cons]
    rcases Int.lt_trichotomy (u.1 / 16) d with h | h | h
    · have h1 : u.1 / 16 < d + 1 := by omega
      have h2 : ¬ u.1 / 16 = d := by omega
      simp [h, h1, h2]; omega
    · have h1 : u.1 / 16 < d + 1 := by omega
      simp [h, (by omega : d < d + 1)]; omega
    · have h1 : ¬ u.1 / 16 < d + 1 := by omega
      have h2 : ¬ u.1 / 16 < d := by omega
      have h3 : ¬ u.1 / 16 = d := by omega
      simp [h1, h2, h3]; omega
theorem Inv.below_zero (h : Inv many A B) : below A 0 = 0 := by
  unfold below
  rw [List.length_eq_zero_iff, List.filter_eq_nil_iff]
  intro u hu
  have := h.memA u hu
  simp; omega
theorem Inv.below_all (h : Inv many A B) : below A 32 = A.length := by
  unfold below
  rw [List.filter_eq_self.2]
  intro u hu
  have := h.memA u hu
  simp; omega
theorem below_le (A : List (Int × Int)) (d : Int) : below A d ≤ A.length := List.length_filter_le _ _
theorem of_le (A : List (Int × Int)) (d : Int) : (ofL A d).length ≤ A.length := by unfold ofL; rw [List.length_map]; exact List.length_filter_le _ _
theorem Inv.of_out (h : Inv many A B) {d : Int} (hd : ¬ (0 ≤ d ∧ d < 32)) : ofL A d = [] := by
  unfold ofL
  rw [List.map_eq_nil_iff, List.filter_eq_nil_iff]
  intro u hu
  have := h.memA u hu
  simp; omega
theorem pairs_length (A : List (Int × Int)) : (pairs A).length = A.length := by simp [pairs]
theorem shadowOf_cv {W : World} {q : Option Addr} {c : Nat} {xs : List Act25} (hq : Slots W q 3 (xs.map actC)) (hl : xs.length ≤ 9223372036854775807) {m : Int} (hm : 0 ≤ m ∧ m ≤ 255) (dev : Int) :
    CV P F.crierlaw25_ShadowOf [.int .u8 m, .slice q xs.length c, .int .i64 dev] W fun v w' => v = .bool true ∧ Below W.heap.size W w' := by
  refine crierlaw25_ShadowOf_cv ?_
  unfold crierlaw25_ShadowOf
  have H := keep_start W
  refine alc_o H fun b6 wx H => ?_
  refine call_o H (awake_t) (by repeat (first | exact Cut.nil | (apply Cut.cons; (repeat (first | exact Pick.here | apply Pick.there))))) fun vx L' wx hq H => ?_
  obtain ⟨rfl, rfl⟩ := hq
  simp only [List.cons_append, List.nil_append] at H
  refine ⟨_, rfl, cnd_i (fun h => by cases h) fun _ => ?_⟩
  refine call_o H (played_t hq hl hm) (by repeat (first | exact Cut.nil | (apply Cut.cons; (repeat (first | exact Pick.here | apply Pick.there))))) fun vx L' wx hq H => ?_
  obtain ⟨b, n, k, A, B, rfl, hI, rfl⟩ := hq
  simp only [List.cons_append, List.nil_append] at H
  refine ⟨_, rfl, alc_o H fun b16 wx H => ?_⟩
  refine st1_o H (by repeat (first | exact Rep.here | apply Rep.there)) (by simp) fun wx H => ?_
  simp only [List.set_cons_zero, List.set_cons_succ] at H
  refine join_o (cnd_i (fun h => by cases h) fun _ => ?_)
  repeat (first | refine ldI_o H (by repeat (first | exact Pick.here | apply Pick.there)) (by rfl) ?_ | refine ldL_o H (by repeat (first | exact Pick.here | apply Pick.there)) (by rfl) ?_ | refine ldB_o H (by repeat (first | exact Pick.here | apply Pick.there)) (by rfl) ?_ | refine ldP_o H (by repeat (first | exact Pick.here | apply Pick.there)) (by rfl) ?_ | refine ldS_o H (by repeat (first | exact Pick.here | apply Pick.there)) (by rfl) ?_)
  unfold crierlaw25_ShadowOf_j5
  refine cnd_i (fun h => by cases h) fun _ => alc_o H fun b24 wx H => ?_
  refine st1_o H (by repeat (first | exact Rep.here | apply Rep.there)) (by simp) fun wx H => ?_
  refine alc_o H fun b27 wx H => ?_
  refine st1_o H (by repeat (first | exact Rep.here | apply Rep.there)) (by simp) fun wx H => ?_
  simp only [List.set_cons_zero, List.set_cons_succ] at H
  have hlA := hI.lenA
  let rows : Nat → Int → List It := fun bd d => [row bd [.int .i64 d] T.t3, row b24 [.int .i64 (below A d : Nat)] T.t3, row b16 [bptr b] T.t26, row b6 [.bool false] T.t4] ++ (shL b n k (m % 41) A B ++ [keep W])
  refine loop_g (fun (st : Option Addr × List Deferred) n' L => ∃ (bd : Nat) (d : Int) (dl : List Nat), 0 ≤ d ∧ d ≤ 32 ∧ n' = (32 - d).toNat ∧ st = (some ⟨bd, 0, none⟩, dl.map mkD) ∧ ∃ G : List It, L = rows bd d ++ (dl.map defI ++ G)) (n0 := 32) (L := rows b27 0 ++ [])
    (by have := hI.below_zero; dsimp only [rows]; rw [this]; exact H.drop (by repeat (first | exact Cut.nil | (apply Cut.cons; (repeat (first | exact Pick.here | apply Pick.there)))))) ⟨b27, 0, [], by omega, by omega, rfl, rfl, [], rfl⟩ ?_
  rintro _ _ _ wx ⟨bd, d, dl, hd0, hd1, rfl, rfl, G, rfl⟩ H A' hA'
  dsimp only [rows] at H
  simp only [List.cons_append, List.nil_append] at H
  unfold crierlaw25_ShadowOf_l4
  dsimp only [nn]
  refine ldI_o H (by repeat (first | exact Pick.here | apply Pick.there)) (by rfl) (cnd_i (fun hc => ?_) fun hc => ?_)
  · have hc := of_decide_eq_true hc
    refine alc_o H fun b37 wx H => ?_
    refine st1_o H (by repeat (first | exact Rep.here | apply Rep.there)) (by simp) fun wx H => ?_
    simp only [List.set_cons_zero, List.set_cons_succ] at H
    repeat (first | refine ldI_o H (by repeat (first | exact Pick.here | apply Pick.there)) (by rfl) ?_ | refine ldL_o H (by repeat (first | exact Pick.here | apply Pick.there)) (by rfl) ?_ | refine ldB_o H (by repeat (first | exact Pick.here | apply Pick.there)) (by rfl) ?_ | refine ldP_o H (by repeat (first | exact Pick.here | apply Pick.there)) (by rfl) ?_ | refine ldS_o H (by repeat (first | exact Pick.here | apply Pick.there)) (by rfl) ?_)
    refine call_o H (of_sh_t b n k (m % 41) A B d) (by repeat (first | exact Cut.nil | (apply Cut.cons; (repeat (first | exact Pick.here | apply Pick.there))))) fun vx L' wx hq H => ?_
    obtain ⟨o, rfl, rfl⟩ := hq
    refine ⟨_, rfl, ?_⟩
    let rows2 : Int → Int → List It := fun last cnt => [row b37 [.int .i64 last] T.t3, row bd [.int .i64 d] T.t3, row b24 [.int .i64 cnt] T.t3, row b16 [bptr b] T.t26, row b6 [.bool false] T.t4] ++ (shL b n k (m % 41) A B ++ (keep W :: (dl.map defI ++ G)))
    have H : X.Own W (fun k => k < W.heap.size) (rows2 (-1) (below A d : Nat) ++ ofE o d A) wx := by
      have H := H.perm (L1 := ofE o d A ++ [row b37 [.int .i64 (-1)] T.t3, row bd [.int .i64 d] T.t3, row b24 [.int .i64 (below A d : Nat)] T.t3, row b16 [bptr b] T.t26, row b6 [.bool false] T.t4] ++ (shL b n k (m % 41) A B ++ [keep W])) (F := dl.map defI ++ G) (by unfold ofE allE thrE; simp only [List.cons_append, List.nil_append]; exact (by repeat (first | exact Cut.nil | (apply Cut.cons; (repeat (first | exact Pick.here | apply Pick.there))))))
      refine own_comm (A := ofE o d A) ?_
      dsimp only [rows2]
      simp only [List.cons_append, List.nil_append, List.append_assoc] at H ⊢
      exact H
    have hup := hI.of_up d
    have hol := of_le A d
    have hbl := below_le A d
    refine rf_o (fun k' Li => ∃ last : Int, (∀ (j : Nat) u, k' ≤ j → (ofL A d)[j]? = some u → last < u.1) ∧ Li = rows2 last (below A d + k' : Nat)) (fun _ _ => False)
      of_enters (of_it o d A (by omega) fun u hu => by have := hI.memA u hu; omega) (ofL_len A d) H ⟨-1, fun j u _ hu => ?_, rfl⟩ ?_ ?_ ?_
    · obtain ⟨v, hv, _, rfl⟩ := of_mem (List.mem_of_getElem? hu)
      show -1 < v.1 % 16
      omega
    · rintro k' x _ F l r dd wx Q2 hx ⟨last, hlast, rfl⟩ H hgo hdone
      obtain ⟨u, hu, rfl⟩ := pairs_at hx
      have hk' := (List.getElem?_eq_some_iff.1 hu).1
      obtain ⟨v, hv, hvd, rfl⟩ := of_mem (List.mem_of_getElem? hu)
      have hv' := hI.memA v hv
      unfold crierlaw25_ShadowOf_r1
      dsimp only [X.b2]
      dsimp only [rows2] at H
      simp only [List.cons_append, List.nil_append] at H
      refine ⟨_, rfl, _, rfl, rec_o H .here fun wx H => ?_⟩
      repeat (first | refine ldI_o H (by repeat (first | exact Pick.here | apply Pick.there)) (by rfl) ?_ | refine ldL_o H (by repeat (first | exact Pick.here | apply Pick.there)) (by rfl) ?_ | refine ldB_o H (by repeat (first | exact Pick.here | apply Pick.there)) (by rfl) ?_ | refine ldP_o H (by repeat (first | exact Pick.here | apply Pick.there)) (by rfl) ?_ | refine ldS_o H (by repeat (first | exact Pick.here | apply Pick.there)) (by rfl) ?_)
      have hev : evR B v.2 = ((d, v.1 % 16), 0) := by
        have h1 := lk_has hv'.2.2.2.2.2
        unfold evR; rw [h1.1, h1.2, ← hvd]; rfl
      refine call_p H (event_sh_t b n k (m % 41) A B v.2 (fun hh => by have := hI.valB hh; omega)) (by repeat (first | exact Cut.nil | (apply Cut.cons; (repeat (first | exact Pick.here | apply Pick.there))))) fun wx H => ?_
      rw [hev]
      refine ⟨_, _, _, rfl, alc_o H fun b62 wx H => ?_⟩
      refine st1_o H (by repeat (first | exact Rep.here | apply Rep.there)) (by simp) fun wx H => ?_
      refine st1_o H (by repeat (first | exact Rep.here | apply Rep.there)) (by simp) fun wx H => ?_
      simp only [List.set_cons_zero, List.set_cons_succ] at H
      have hlt := hlast k' _ (Nat.le_refl _) hu
      refine join_o ?_
      repeat (first | refine ldI_o H (by repeat (first | exact Pick.here | apply Pick.there)) (by rfl) ?_ | refine ldL_o H (by repeat (first | exact Pick.here | apply Pick.there)) (by rfl) ?_ | refine ldB_o H (by repeat (first | exact Pick.here | apply Pick.there)) (by rfl) ?_ | refine ldP_o H (by repeat (first | exact Pick.here | apply Pick.there)) (by rfl) ?_ | refine ldS_o H (by repeat (first | exact Pick.here | apply Pick.there)) (by rfl) ?_)
      refine cnd_i (fun h => absurd (of_decide_eq_true h) (by dsimp only at hlt; omega)) fun _ => cnd_i (fun h => by cases h) fun _ => ?_
      repeat (first | refine ldI_o H (by repeat (first | exact Pick.here | apply Pick.there)) (by rfl) ?_ | refine ldL_o H (by repeat (first | exact Pick.here | apply Pick.there)) (by rfl) ?_ | refine ldB_o H (by repeat (first | exact Pick.here | apply Pick.there)) (by rfl) ?_ | refine ldP_o H (by repeat (first | exact Pick.here | apply Pick.there)) (by rfl) ?_ | refine ldS_o H (by repeat (first | exact Pick.here | apply Pick.there)) (by rfl) ?_)
      refine ev_ne ?_
      unfold crierlaw25_ShadowOf_j0
      refine cnd_i (fun h => by simp at h) fun _ => ?_
      refine st1_o H (by repeat (first | exact Rep.here | apply Rep.there)) (by simp) fun wx H => ?_
      repeat (first | refine ldI_o H (by repeat (first | exact Pick.here | apply Pick.there)) (by rfl) ?_ | refine ldL_o H (by repeat (first | exact Pick.here | apply Pick.there)) (by rfl) ?_ | refine ldB_o H (by repeat (first | exact Pick.here | apply Pick.there)) (by rfl) ?_ | refine ldP_o H (by repeat (first | exact Pick.here | apply Pick.there)) (by rfl) ?_ | refine ldS_o H (by repeat (first | exact Pick.here | apply Pick.there)) (by rfl) ?_)
      refine st1_o H (by repeat (first | exact Rep.here | apply Rep.there)) (by simp) fun wx H => ?_
      simp only [List.set_cons_zero, List.set_cons_succ] at H
      rw [W_id (by omega) (by omega)] at H
      refine rec_o H (by repeat (first | exact Rep.here | apply Rep.there)) fun wx H => ?_
      refine hgo (rows2 (v.1 % 16) (below A d + (k' + 1) : Nat)) wx ⟨_, fun j u' hj hu' => ?_, rfl⟩ ?_
      · obtain ⟨hjl, hje⟩ := List.getElem?_eq_some_iff.1 hu'
        have := List.pairwise_iff_getElem.1 hup k' j hk' hjl (by omega)
        rw [hje, (List.getElem?_eq_some_iff.1 hu).2] at this
        exact this
      · have H := H.rest (L1 := [row b62 [.int .i64 d, .int .i64 (v.1 % 16)] T.t24]) (by repeat (first | exact Cut.nil | (apply Cut.cons; (repeat (first | exact Pick.here | apply Pick.there)))))
        have e : ((below A d + k' : Nat) : Int) + 1 = ((below A d + (k' + 1) : Nat) : Int) := by push_cast; omega
        rw [e] at H
        exact H
    · rintro dd _ wx ⟨last, _, rfl⟩ H
      dsimp only [jmpX]
      dsimp only [rows2] at H
      simp only [List.cons_append, List.nil_append] at H
      repeat (first | refine ldI_o H (by repeat (first | exact Pick.here | apply Pick.there)) (by rfl) ?_ | refine ldL_o H (by repeat (first | exact Pick.here | apply Pick.there)) (by rfl) ?_ | refine ldB_o H (by repeat (first | exact Pick.here | apply Pick.there)) (by rfl) ?_ | refine ldP_o H (by repeat (first | exact Pick.here | apply Pick.there)) (by rfl) ?_ | refine ldS_o H (by repeat (first | exact Pick.here | apply Pick.there)) (by rfl) ?_)
      refine alc_o H fun b89 wx H => ?_
      refine st1_o H (by repeat (first | exact Rep.here | apply Rep.there)) (by simp) fun wx H => ?_
      simp only [List.set_cons_zero, List.set_cons_succ] at H
      repeat (first | refine ldI_o H (by repeat (first | exact Pick.here | apply Pick.there)) (by rfl) ?_ | refine ldL_o H (by repeat (first | exact Pick.here | apply Pick.there)) (by rfl) ?_ | refine ldB_o H (by repeat (first | exact Pick.here | apply Pick.there)) (by rfl) ?_ | refine ldP_o H (by repeat (first | exact Pick.here | apply Pick.there)) (by rfl) ?_ | refine ldS_o H (by repeat (first | exact Pick.here | apply Pick.there)) (by rfl) ?_)
      refine st1_o H (by repeat (first | exact Rep.here | apply Rep.there)) (by simp) fun wx H => ?_
      simp only [List.set_cons_zero, List.set_cons_succ] at H
      rw [W_id (by omega) (by omega)] at H
      have e : below A d + (pairs (ofL A d)).length = below A (d + 1) := by rw [below_next, pairs_length]
      rw [e] at H
      refine hA' (some ⟨b89, 0, none⟩, [{ target := .collected dd, args := #[] }] ++ dl.map mkD) ((32 - (d + 1)).toNat) (rows b89 (d + 1) ++ ((dd :: dl).map defI ++ (G ++ ofE o d A))) wx (by omega) ⟨b89, d + 1, dd :: dl, by omega, by omega, rfl, rfl, _, rfl⟩ ?_
      have H := H.rest (L1 := [row b37 [.int .i64 last] T.t3, row bd [.int .i64 d] T.t3]) (by repeat (first | exact Cut.nil | (apply Cut.cons; (repeat (first | exact Pick.here | apply Pick.there)))))
      have H := H.perm (L1 := [row b89 [.int .i64 (d + 1)] T.t3, row b24 [.int .i64 (below A (d + 1) : Nat)] T.t3, row b16 [bptr b] T.t26, row b6 [.bool false] T.t4] ++ (shL b n k (m % 41) A B ++ [keep W]) ++ [defI dd]) (by repeat (first | exact Cut.nil | (apply Cut.cons; (repeat (first | exact Pick.here | apply Pick.there)))))
      dsimp only [rows]
      simp only [List.cons_append, List.nil_append, List.append_assoc, List.map_cons] at H ⊢
      exact H
    · rintro dd c _ wx hD H
      exact hD.elim
  · have hc := of_decide_eq_false hc
    obtain rfl : d = 32 := by omega
    rw [hI.below_all] at H
    refine alc_o H fun b97 wx H => ?_
    refine st1_o H (by repeat (first | exact Rep.here | apply Rep.there)) (by simp) fun wx H => ?_
    simp only [List.set_cons_zero, List.set_cons_succ] at H
    repeat (first | refine ldI_o H (by repeat (first | exact Pick.here | apply Pick.there)) (by rfl) ?_ | refine ldL_o H (by repeat (first | exact Pick.here | apply Pick.there)) (by rfl) ?_ | refine ldB_o H (by repeat (first | exact Pick.here | apply Pick.there)) (by rfl) ?_ | refine ldP_o H (by repeat (first | exact Pick.here | apply Pick.there)) (by rfl) ?_ | refine ldS_o H (by repeat (first | exact Pick.here | apply Pick.there)) (by rfl) ?_)
    refine call_o H (of_sh_t b n k (m % 41) A B dev) (by repeat (first | exact Cut.nil | (apply Cut.cons; (repeat (first | exact Pick.here | apply Pick.there))))) fun vx L' wx hq H => ?_
    obtain ⟨o, rfl, rfl⟩ := hq
    refine ⟨_, rfl, ?_⟩
    have hol := of_le A dev
    let rows2 : Nat → List It := fun cnt => [row b97 [.int .i64 (cnt : Nat)] T.t3, row bd [.int .i64 32] T.t3, row b24 [.int .i64 (A.length : Nat)] T.t3, row b16 [bptr b] T.t26, row b6 [.bool false] T.t4] ++ (shL b n k (m % 41) A B ++ (keep W :: (dl.map defI ++ G)))
    have H : X.Own W (fun k => k < W.heap.size) (rows2 0 ++ ofE o dev A) wx := by
      have H := H.perm (L1 := ofE o dev A ++ [row b97 [.int .i64 0] T.t3, row bd [.int .i64 32] T.t3, row b24 [.int .i64 (A.length : Nat)] T.t3, row b16 [bptr b] T.t26, row b6 [.bool false] T.t4] ++ (shL b n k (m % 41) A B ++ [keep W])) (F := dl.map defI ++ G) (by unfold ofE allE thrE; simp only [List.cons_append, List.nil_append]; exact (by repeat (first | exact Cut.nil | (apply Cut.cons; (repeat (first | exact Pick.here | apply Pick.there))))))
      refine own_comm (A := ofE o dev A) ?_
      dsimp only [rows2]
      simp only [List.cons_append, List.nil_append, List.append_assoc] at H ⊢
      exact H
    refine rf_o (fun k' Li => Li = rows2 k') (fun _ _ => False)
      of_enters (of_it o dev A (by omega) fun u hu => by have := hI.memA u hu; omega) (ofL_len A dev) H rfl ?_ ?_ ?_
    · rintro k' x _ F l r dd wx Q2 hx rfl H hgo hdone
      obtain ⟨u, hu, rfl⟩ := pairs_at hx
      have hk' := (List.getElem?_eq_some_iff.1 hu).1
      unfold crierlaw25_ShadowOf_r2
      dsimp only [X.b2]
      dsimp only [rows2] at H
      simp only [List.cons_append, List.nil_append] at H
      refine rec_o H .here fun wx H => ?_
      repeat (first | refine ldI_o H (by repeat (first | exact Pick.here | apply Pick.there)) (by rfl) ?_ | refine ldL_o H (by repeat (first | exact Pick.here | apply Pick.there)) (by rfl) ?_ | refine ldB_o H (by repeat (first | exact Pick.here | apply Pick.there)) (by rfl) ?_ | refine ldP_o H (by repeat (first | exact Pick.here | apply Pick.there)) (by rfl) ?_ | refine ldS_o H (by repeat (first | exact Pick.here | apply Pick.there)) (by rfl) ?_)
      refine st1_o H (by repeat (first | exact Rep.here | apply Rep.there)) (by simp) fun wx H => ?_
      simp only [List.set_cons_zero, List.set_cons_succ] at H
      rw [W_id (by omega) (by omega)] at H
      refine rec_o H (by repeat (first | exact Rep.here | apply Rep.there)) fun wx H => ?_
      exact hgo (rows2 (k' + 1)) wx rfl H
    · rintro dd _ wx rfl H
      dsimp only [jmpX]
      dsimp only [rows2] at H
      simp only [List.cons_append, List.nil_append] at H
      refine join_o ?_
      refine drw_o H fun wx H => ?_
      repeat (first | refine ldI_o H (by repeat (first | exact Pick.here | apply Pick.there)) (by rfl) ?_ | refine ldL_o H (by repeat (first | exact Pick.here | apply Pick.there)) (by rfl) ?_ | refine ldB_o H (by repeat (first | exact Pick.here | apply Pick.there)) (by rfl) ?_ | refine ldP_o H (by repeat (first | exact Pick.here | apply Pick.there)) (by rfl) ?_ | refine ldS_o H (by repeat (first | exact Pick.here | apply Pick.there)) (by rfl) ?_)
      refine call_p H (len_sh_t b n k (m % 41) A B) (by repeat (first | exact Cut.nil | (apply Cut.cons; (repeat (first | exact Pick.here | apply Pick.there))))) fun wx H => ?_
      refine ⟨_, rfl, ?_, ?_⟩
      · repeat (first | refine ldI_o H (by repeat (first | exact Pick.here | apply Pick.there)) (by rfl) ?_ | refine ldL_o H (by repeat (first | exact Pick.here | apply Pick.there)) (by rfl) ?_ | refine ldB_o H (by repeat (first | exact Pick.here | apply Pick.there)) (by rfl) ?_ | refine ldP_o H (by repeat (first | exact Pick.here | apply Pick.there)) (by rfl) ?_ | refine ldS_o H (by repeat (first | exact Pick.here | apply Pick.there)) (by rfl) ?_)
        rfl
      have fin : ∀ wx, X.Own W (fun k => k < W.heap.size) (defI dd :: row b97 [.int .i64 ((pairs (ofL A dev)).length : Nat)] T.t3 :: row bd [.int .i64 32] T.t3 :: row b24 [.int .i64 (A.length : Nat)] T.t3 :: row b16 [bptr b] T.t26 :: row b6 [.bool true] T.t4 :: (shL b n k (m % 41) A B ++ (keep W :: (dl.map defI ++ G ++ ofE o dev A)))) wx →
          crierlaw25_ShadowOf_j3 (fun v w' => v = .bool true ∧ Below W.heap.size W w') b6 (dl.map mkD) [{ target := .collected dd, args := #[] }] wx := by
        intro wx H
        unfold crierlaw25_ShadowOf_j3
        refine take1_o H .here fun wx H => ?_
        have H : X.Own W (fun k => k < W.heap.size) ([row b97 [.int .i64 ((pairs (ofL A dev)).length : Nat)] T.t3, row bd [.int .i64 32] T.t3, row b24 [.int .i64 (A.length : Nat)] T.t3, row b16 [bptr b] T.t26, row b6 [.bool true] T.t4] ++ (shL b n k (m % 41) A B ++ [keep W]) ++ (dl.map defI ++ (G ++ ofE o dev A))) wx := by
          simp only [List.cons_append, List.nil_append, List.append_assoc] at H ⊢; exact H
        have H := own_comm H
        rw [List.append_assoc] at H
        refine takes_o dl H fun wx H => ?_
        have H := own_comm H
        simp only [List.cons_append, List.nil_append] at H
        repeat (first | refine ldI_o H (by repeat (first | exact Pick.here | apply Pick.there)) (by rfl) ?_ | refine ldL_o H (by repeat (first | exact Pick.here | apply Pick.there)) (by rfl) ?_ | refine ldB_o H (by repeat (first | exact Pick.here | apply Pick.there)) (by rfl) ?_ | refine ldP_o H (by repeat (first | exact Pick.here | apply Pick.there)) (by rfl) ?_ | refine ldS_o H (by repeat (first | exact Pick.here | apply Pick.there)) (by rfl) ?_)
        exact ⟨rfl, keep_done H (by repeat (first | exact Pick.here | apply Pick.there))⟩
      refine cnd_i (fun _ => cnd_i (fun h1 => cnd_i (fun h2 => ?_) fun h2 => ?_) fun h1 => ?_) fun h => by simp at h
      · skip
        refine st1_o H (by repeat (first | exact Rep.here | apply Rep.there)) (by simp) fun wx H => ?_
        simp only [List.set_cons_zero, List.set_cons_succ] at H
        exact fin _ (by simp only [List.cons_append, List.nil_append, List.append_assoc] at H ⊢; exact H)
      · have h2 := of_decide_eq_false h2
        have e0 : (pairs (ofL A dev)).length = 0 := by rw [hI.of_out (by omega)]; rfl
        repeat (first | refine ldI_o H (by repeat (first | exact Pick.here | apply Pick.there)) (by rfl) ?_ | refine ldL_o H (by repeat (first | exact Pick.here | apply Pick.there)) (by rfl) ?_ | refine ldB_o H (by repeat (first | exact Pick.here | apply Pick.there)) (by rfl) ?_ | refine ldP_o H (by repeat (first | exact Pick.here | apply Pick.there)) (by rfl) ?_ | refine ldS_o H (by repeat (first | exact Pick.here | apply Pick.there)) (by rfl) ?_)
        rw [e0] at H fin ⊢
        refine st1_o H (by repeat (first | exact Rep.here | apply Rep.there)) (by simp) fun wx H => ?_
        simp only [List.set_cons_zero, List.set_cons_succ] at H
        exact fin _ (by simp only [List.cons_append, List.nil_append, List.append_assoc] at H ⊢; exact H)
      · have h1 := of_decide_eq_false h1
        have e0 : (pairs (ofL A dev)).length = 0 := by rw [hI.of_out (by omega)]; rfl
        repeat (first | refine ldI_o H (by repeat (first | exact Pick.here | apply Pick.there)) (by rfl) ?_ | refine ldL_o H (by repeat (first | exact Pick.here | apply Pick.there)) (by rfl) ?_ | refine ldB_o H (by repeat (first | exact Pick.here | apply Pick.there)) (by rfl) ?_ | refine ldP_o H (by repeat (first | exact Pick.here | apply Pick.there)) (by rfl) ?_ | refine ldS_o H (by repeat (first | exact Pick.here | apply Pick.there)) (by rfl) ?_)
        rw [e0] at H fin ⊢
        refine st1_o H (by repeat (first | exact Rep.here | apply Rep.there)) (by simp) fun wx H => ?_
        simp only [List.set_cons_zero, List.set_cons_succ] at H
        exact fin _ (by simp only [List.cons_append, List.nil_append, List.append_assoc] at H ⊢; exact H)
    · rintro dd c _ wx hD H
      exact hD.elim
end Go.Proofs.Ytmobpenjbaaicaa
