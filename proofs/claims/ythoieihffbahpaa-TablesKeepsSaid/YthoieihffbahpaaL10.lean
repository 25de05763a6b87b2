/-
  tables: TablesFlat: the walk.
-/
import Derived.Test.YthoieihffbahpaaL9
namespace Go.Proofs.Ythoieihffbahpaa
open Go Go.RowKit X
set_option maxRecDepth 100000
set_option linter.unusedVariables false
set_option maxHeartbeats 1000000
theorem and2 {a b : Bool} {J : Bool → World → Prop} {w : World} (h : J (a && b) w) : cnd a (J b w) (J false w) := by
  cases a
  · exact cnd_i (fun h => by cases h) fun _ => h
  · exact cnd_i (fun _ => h) (fun h => by cases h)
theorem w8_zero (n k : Nat) : w8 (List.replicate n 0) k = 0 := by
  unfold w8
  have : cut (List.replicate n (0 : Int)) k 8 = List.replicate (min 8 (n - k)) 0 := by unfold cut; rw [List.drop_replicate, List.take_replicate]
  rw [this]
  generalize min 8 (n - k) = m
  induction m with
  | zero => rfl
  | succ m ih => rw [List.replicate_succ, le, ih]; rfl
theorem tablesFlat_cv {W : World} {p q : Option Addr} {c1 c2 : Nat} {ids : List Int} {ds : List (Bool × Int × Int)} {o : Int} (hp : Sl W p (ints .u8 ids)) (hq : Slots W q 3 (ds.map devC))
    (hids : ∀ x ∈ ids, 0 ≤ x ∧ x < 256) (hds : ∀ d ∈ ds, d.2.2 < 9223372036854775808) (ho : 0 ≤ o ∧ o < 256) (hl : ids.length ≤ 9223372036854775807) :
    CV P F.crierlaw18_TablesFlat [.slice p ids.length c1, .slice q ds.length c2, .int .u8 o] W fun v w' => v = .bool true ∧ Below W.heap.size W w' := by
  refine crierlaw18_TablesFlat_cv ?_
  unfold crierlaw18_TablesFlat
  have H := keep_start W
  refine call_p H (awake_t) (by repeat (first | exact Cut.nil | (apply Cut.cons; (repeat (first | exact Pick.here | apply Pick.there))))) fun wx H => ?_
  refine ⟨_, rfl, cnd_i (fun h => by cases h) fun _ => ?_⟩
  refine call_o H (lawNewX_t 1000) (by repeat (first | exact Cut.nil | (apply Cut.cons; (repeat (first | exact Pick.here | apply Pick.there))))) fun vx L' wx hq H => ?_
  obtain ⟨b, b', rfl, rfl⟩ := hq
  simp only [List.cons_append, List.nil_append] at H
  have hz : List.replicate (lawN 1000) (0 : Int) = List.replicate 1000 0 := rfl
  rw [hz] at H
  refine ⟨_, _, rfl, join_o (cnd_i (fun h => by cases h) fun _ => ?_)⟩
  unfold crierlaw18_TablesFlat_j5
  refine cnd_i (fun h => by cases h) fun _ => alc_o H fun b18 wx H => ?_
  refine st1_o H (by repeat (first | exact Rep.here | apply Rep.there)) (by simp) fun wx H => ?_
  refine st1_o H (by repeat (first | exact Rep.here | apply Rep.there)) (by simp) fun wx H => ?_
  refine st1_o H (by repeat (first | exact Rep.here | apply Rep.there)) (by simp) fun wx H => ?_
  refine alc_o H fun b23 wx H => ?_
  refine st1_o H (by repeat (first | exact Rep.here | apply Rep.there)) (by simp) fun wx H => ?_
  refine st1_o H (by repeat (first | exact Rep.here | apply Rep.there)) (by simp) fun wx H => ?_
  refine st1_o H (by repeat (first | exact Rep.here | apply Rep.there)) (by simp) fun wx H => ?_
  simp only [List.set_cons_zero, List.set_cons_succ] at H
  -- the pages are led
  refine loop_o (fun (st : Int) L => ∃ (k : Nat) (bs : List Int), k ≤ 4 ∧ st = k ∧ (∀ x ∈ bs, 0 ≤ x ∧ x < 256) ∧ bs.length = 1000 ∧ Twin bs ∧ (∀ q : Int, 0 ≤ q → q < k → w8 bs (128 + 8 * q).toNat = 9223372036854776008 + 40 * q) ∧ L = [memI b bs, row b23 [.int .i64 128, .int .i64 32, .int .i64 32] T.t32, row b18 [.int .i64 0, .int .i64 128, .int .i64 0] T.t32, memI b' (List.replicate 1000 0), keep W]) (fun (st : Int) => (4 - st).toNat)
    (H.drop (L1 := [memI b (List.replicate 1000 0), row b23 [.int .i64 128, .int .i64 32, .int .i64 32] T.t32, row b18 [.int .i64 0, .int .i64 128, .int .i64 0] T.t32, memI b' (List.replicate 1000 0), keep W]) (by repeat (first | exact Cut.nil | (apply Cut.cons; (repeat (first | exact Pick.here | apply Pick.there))))))
    ⟨0, _, by omega, rfl, fun x hx => by rw [(List.mem_replicate.1 hx).2]; omega, by rw [List.length_replicate], fun i _ _ => by rw [w8_zero, w8_zero], fun q h0 h1 => by omega, rfl⟩ ?_
  rintro _ _ wx ⟨k, bs, hk, rfl, hbr, hbl, hT, hled, rfl⟩ H
  have hbn : bs.length ≤ 131072 := by omega
  unfold crierlaw18_TablesFlat_l4
  refine cnd_i (fun h => ?_) fun h => ?_
  · have h := of_decide_eq_true h
    repeat (first | refine ldI_o H (by repeat (first | exact Pick.here | apply Pick.there)) (by rfl) ?_ | refine ldL_o H (by repeat (first | exact Pick.here | apply Pick.there)) (by rfl) ?_ | refine ldB_o H (by repeat (first | exact Pick.here | apply Pick.there)) (by rfl) ?_ | refine ldP_o H (by repeat (first | exact Pick.here | apply Pick.there)) (by rfl) ?_ | refine ldS_o H (by repeat (first | exact Pick.here | apply Pick.there)) (by rfl) ?_)
    rw [W_id (n := 4 * (k : Int)) (by omega) (by omega), W_id (n := 40 * (k : Int)) (by omega) (by omega), W_id (by omega) (by omega)]
    refine call_o H (lead_t b bs hbr hbn 128 32 32 (4 * (k : Int)) (200 + 40 * (k : Int))) (by repeat (first | exact Cut.nil | (apply Cut.cons; (repeat (first | exact Pick.here | apply Pick.there))))) fun vx L' wx hq H => ?_
    obtain ⟨rfl, rfl⟩ := hq
    rw [lead_of hbl (by omega) (by omega)] at H ⊢
    simp only [List.cons_append, List.nil_append] at H
    refine ⟨_, rfl, cnd_i (fun h => by cases h) fun _ => ⟨⟨_, ⟨k + 1, _, by omega, ?_, wr_range hbr _ _ _, by rw [wr_length, hbl], ?_, ?_, rfl⟩, H⟩, ?_⟩⟩
    · rw [W_id (by omega) (by omega)]; push_cast; rfl
    · intro i h0 h1
      rw [w8_wr_off (by omega), w8_wr_off (by unfold pgP; omega)]
      exact hT i h0 h1
    · intro q h0 h1
      by_cases hqk : q = k
      · subst hqk; rw [w8_wr (by omega) (by omega)]
      · rw [w8_wr_off (by omega)]; exact hled q h0 (by omega)
    · rw [W_id (by omega) (by omega)]; omega
  have h := of_decide_eq_false h
  have hL : Led bs := ⟨hbl, hbr, fun q h0 h1 => hled q h0 (by omega)⟩
  clear hled hbr hbl hbn
  -- the devices
  refine loop_o (fun (st : Int) L => ∃ (k : Nat) (bs : List Int), k ≤ ids.length ∧ st = k ∧ Led bs ∧ Twin bs ∧ L = [memI b bs, row b23 [.int .i64 128, .int .i64 32, .int .i64 32] T.t32, row b18 [.int .i64 0, .int .i64 128, .int .i64 0] T.t32, memI b' (List.replicate 1000 0), keep W]) (fun (st : Int) => ((ids.length : Int) - st).toNat) H
    ⟨0, _, by omega, rfl, hL, hT, rfl⟩ ?_
  rintro _ _ wx ⟨k, bs, hk, rfl, hL, hT, rfl⟩ H
  have hbl := hL.len
  have hbr := hL.ran
  have hbn : bs.length ≤ 131072 := by omega
  unfold crierlaw18_TablesFlat_l3
  refine join_o (and2 (J := fun x w => crierlaw18_TablesFlat_j2 _ _ _ _ _ _ _ _ _ _ _ x w) ?_)
  unfold crierlaw18_TablesFlat_j2
  refine cnd_i (fun h => ?_) fun h => ?_
  · simp only [Bool.and_eq_true, decide_eq_true_eq] at h
    obtain ⟨h1, h2⟩ := h
    have k1 : k < ids.length := by omega
    have k2 : k < ds.length := by omega
    refine ⟨⟨by omega, h1⟩, ?_⟩
    rw [Int.toNat_natCast]
    obtain ⟨a, rfl, hcell⟩ := H.rd (i := keep W) (by repeat (first | exact Pick.here | apply Pick.there)) (keep_sl hp) k _ (ints_get k1)
    refine ⟨_, by rw [Nat.mul_one]; exact hcell, by omega, ?_⟩
    have hc := hids _ (List.getElem_mem k1)
    have hd := hds _ (List.getElem_mem k2)
    rw [tmod_u8 hc 16 (by omega), tmod_u8 ho 16 (by omega)]
    have c0 : 0 ≤ ids[k] % 16 := by omega
    have c1' : ids[k] % 16 < 16 := by omega
    have o0 : 0 ≤ o % 16 := by omega
    have o1 : o % 16 < 16 := by omega
    generalize ids[k] % 16 = i at *
    generalize o % 16 = o' at *
    repeat (first | refine ldI_o H (by repeat (first | exact Pick.here | apply Pick.there)) (by rfl) ?_ | refine ldL_o H (by repeat (first | exact Pick.here | apply Pick.there)) (by rfl) ?_ | refine ldB_o H (by repeat (first | exact Pick.here | apply Pick.there)) (by rfl) ?_ | refine ldP_o H (by repeat (first | exact Pick.here | apply Pick.there)) (by rfl) ?_ | refine ldS_o H (by repeat (first | exact Pick.here | apply Pick.there)) (by rfl) ?_)
    refine ⟨by omega, ?_⟩
    refine call_p H (get_t b bs hbr hbn 0 128 0 o') (by repeat (first | exact Cut.nil | (apply Cut.cons; (repeat (first | exact Pick.here | apply Pick.there))))) fun wx H => ?_
    rw [get_flat hL o0 o1]
    refine ⟨_, _, _, _, rfl, alc_o H fun b57 wx H => ?_⟩
    refine st1_o H (by repeat (first | exact Rep.here | apply Rep.there)) (by simp) fun wx H => ?_
    refine st1_o H (by repeat (first | exact Rep.here | apply Rep.there)) (by simp) fun wx H => ?_
    refine st1_o H (by repeat (first | exact Rep.here | apply Rep.there)) (by simp) fun wx H => ?_
    refine drw_o H fun wx H => ?_
    repeat (first | refine ldI_o H (by repeat (first | exact Pick.here | apply Pick.there)) (by rfl) ?_ | refine ldL_o H (by repeat (first | exact Pick.here | apply Pick.there)) (by rfl) ?_ | refine ldB_o H (by repeat (first | exact Pick.here | apply Pick.there)) (by rfl) ?_ | refine ldP_o H (by repeat (first | exact Pick.here | apply Pick.there)) (by rfl) ?_ | refine ldS_o H (by repeat (first | exact Pick.here | apply Pick.there)) (by rfl) ?_)
    refine ⟨⟨by omega, h2⟩, ?_⟩
    rw [Int.toNat_natCast]
    obtain ⟨a2, rfl, g1, g2, g3⟩ := dev_cells (Own.rdS H (i := keep W) (by repeat (first | exact Pick.here | apply Pick.there)) (keep_slots hq)) k2
    refine ⟨_, g1, _, g2, _, g3, ?_⟩
    repeat (first | refine ldI_o H (by repeat (first | exact Pick.here | apply Pick.there)) (by rfl) ?_ | refine ldL_o H (by repeat (first | exact Pick.here | apply Pick.there)) (by rfl) ?_ | refine ldB_o H (by repeat (first | exact Pick.here | apply Pick.there)) (by rfl) ?_ | refine ldP_o H (by repeat (first | exact Pick.here | apply Pick.there)) (by rfl) ?_ | refine ldS_o H (by repeat (first | exact Pick.here | apply Pick.there)) (by rfl) ?_)
    refine ⟨⟨by omega, h2⟩, ?_⟩
    rw [Int.toNat_natCast]
    refine ⟨_, g1, _, g2, _, g3, ?_⟩
    obtain ⟨hL2, hT2, hE, hO⟩ := both_put hL hT c0 c1' ds[k].1 ds[k].2.1 ds[k].2.2
    have hL1 := hL.put c0 c1' ds[k].1 ds[k].2.1 ds[k].2.2
    refine call_o H (put_t b bs hbr hbn 0 128 0 i ds[k].1 ds[k].2.1 ds[k].2.2 hd) (by repeat (first | exact Cut.nil | (apply Cut.cons; (repeat (first | exact Pick.here | apply Pick.there))))) fun vx L' wx hq H => ?_
    obtain ⟨rfl, rfl⟩ := hq
    simp only [List.cons_append, List.nil_append] at H
    generalize putM bs 0 128 0 i ds[k].1 ds[k].2.1 ds[k].2.2 = p1 at *
    have hbr1 := hL1.ran
    have hbn1 : p1.1.length ≤ 131072 := by rw [hL1.len]; omega
    obtain ⟨a2', e, g1, g2, g3⟩ := dev_cells (Own.rdS H (i := keep W) (by repeat (first | exact Pick.here | apply Pick.there)) (keep_slots hq)) k2
    cases e
    refine ⟨_, rfl, ⟨_, g1, _, g2, _, g3, rfl⟩, ldI_o H (by repeat (first | exact Pick.here | apply Pick.there)) (by rfl) (ldI_o H (by repeat (first | exact Pick.here | apply Pick.there)) (by rfl) (ldI_o H (by repeat (first | exact Pick.here | apply Pick.there)) (by rfl) rfl)), ?_⟩
    refine call_o H (put_t b p1.1 hbr1 hbn1 128 32 32 i ds[k].1 ds[k].2.1 ds[k].2.2 hd) (by repeat (first | exact Cut.nil | (apply Cut.cons; (repeat (first | exact Pick.here | apply Pick.there))))) fun vx L' wx hq H => ?_
    obtain ⟨rfl, rfl⟩ := hq
    simp only [List.cons_append, List.nil_append] at H
    generalize putM p1.1 128 32 32 i ds[k].1 ds[k].2.1 ds[k].2.2 = p2 at *
    have hbr2 := hL2.ran
    have hbn2 : p2.1.length ≤ 131072 := by rw [hL2.len]; omega
    refine ⟨_, rfl, ?_⟩
    repeat (first | refine ldI_o H (by repeat (first | exact Pick.here | apply Pick.there)) (by rfl) ?_ | refine ldL_o H (by repeat (first | exact Pick.here | apply Pick.there)) (by rfl) ?_ | refine ldB_o H (by repeat (first | exact Pick.here | apply Pick.there)) (by rfl) ?_ | refine ldP_o H (by repeat (first | exact Pick.here | apply Pick.there)) (by rfl) ?_ | refine ldS_o H (by repeat (first | exact Pick.here | apply Pick.there)) (by rfl) ?_)
    refine ⟨by omega, ?_⟩
    refine call_p H (get_t b p2.1 hbr2 hbn2 0 128 0 o') (by repeat (first | exact Cut.nil | (apply Cut.cons; (repeat (first | exact Pick.here | apply Pick.there))))) fun wx H => ?_
    rw [get_flat hL2 o0 o1]
    refine ⟨_, _, _, _, rfl, alc_o H fun b100 wx H => ?_⟩
    refine st1_o H (by repeat (first | exact Rep.here | apply Rep.there)) (by simp) fun wx H => ?_
    refine st1_o H (by repeat (first | exact Rep.here | apply Rep.there)) (by simp) fun wx H => ?_
    refine st1_o H (by repeat (first | exact Rep.here | apply Rep.there)) (by simp) fun wx H => ?_
    repeat (first | refine ldI_o H (by repeat (first | exact Pick.here | apply Pick.there)) (by rfl) ?_ | refine ldL_o H (by repeat (first | exact Pick.here | apply Pick.there)) (by rfl) ?_ | refine ldB_o H (by repeat (first | exact Pick.here | apply Pick.there)) (by rfl) ?_ | refine ldP_o H (by repeat (first | exact Pick.here | apply Pick.there)) (by rfl) ?_ | refine ldS_o H (by repeat (first | exact Pick.here | apply Pick.there)) (by rfl) ?_)
    refine ⟨by omega, ?_⟩
    refine call_p H (get_t b p2.1 hbr2 hbn2 128 32 32 o') (by repeat (first | exact Cut.nil | (apply Cut.cons; (repeat (first | exact Pick.here | apply Pick.there))))) fun wx H => ?_
    rw [get_page hL2 hT2 o0 o1]
    refine ⟨_, _, _, _, rfl, alc_o H fun b114 wx H => ?_⟩
    refine st1_o H (by repeat (first | exact Rep.here | apply Rep.there)) (by simp) fun wx H => ?_
    refine st1_o H (by repeat (first | exact Rep.here | apply Rep.there)) (by simp) fun wx H => ?_
    refine st1_o H (by repeat (first | exact Rep.here | apply Rep.there)) (by simp) fun wx H => ?_
    simp only [List.set_cons_zero, List.set_cons_succ] at H
    have nxt : ∀ A : Int → World → Prop, A (IntKind.i64.wrap ((k : Int) + 1)) wx → crierlaw18_TablesFlat_j0 (fun v w' => v = .bool true ∧ Below W.heap.size W w') (k : Int) A false wx := by
      intro A hA
      unfold crierlaw18_TablesFlat_j0
      exact cnd_i (fun h => by cases h) fun _ => hA
    have hA : (∃ L', (∃ (k' : Nat) (bs : List Int), k' ≤ ids.length ∧ IntKind.i64.wrap ((k : Int) + 1) = k' ∧ Led bs ∧ Twin bs ∧ L' = [memI b bs, row b23 [.int .i64 128, .int .i64 32, .int .i64 32] T.t32, row b18 [.int .i64 0, .int .i64 128, .int .i64 0] T.t32, memI b' (List.replicate 1000 0), keep W]) ∧ X.Own W (fun k => k < W.heap.size) L' wx) ∧ ((ids.length : Int) - IntKind.i64.wrap ((k : Int) + 1)).toNat < ((ids.length : Int) - (k : Int)).toNat := by
      rw [W_id (by omega) (by omega)]
      exact ⟨⟨_, ⟨k + 1, p2.1, by omega, by push_cast; rfl, hL2, hT2, rfl⟩, H.drop (by repeat (first | exact Cut.nil | (apply Cut.cons; (repeat (first | exact Pick.here | apply Pick.there)))))⟩, by omega⟩
    refine join_o (cnd_i (fun h => by rw [hE] at h; simp at h) fun _ => cnd_i (fun h => by cases h) fun _ => cnd_i (fun h => by cases h) fun _ => cnd_i (fun h => by cases h) fun _ => ?_)
    repeat (first | refine ldI_o H (by repeat (first | exact Pick.here | apply Pick.there)) (by rfl) ?_ | refine ldL_o H (by repeat (first | exact Pick.here | apply Pick.there)) (by rfl) ?_ | refine ldB_o H (by repeat (first | exact Pick.here | apply Pick.there)) (by rfl) ?_ | refine ldP_o H (by repeat (first | exact Pick.here | apply Pick.there)) (by rfl) ?_ | refine ldS_o H (by repeat (first | exact Pick.here | apply Pick.there)) (by rfl) ?_)
    refine dev_ne ?_
    rw [show (!((decD (w8 p2.1 (8 * o').toNat)).1 == (decD (w8 p2.1 (8 * o').toNat)).1 && ((decD (w8 p2.1 (8 * o').toNat)).2.1 == (decD (w8 p2.1 (8 * o').toNat)).2.1 && (decD (w8 p2.1 (8 * o').toNat)).2.2 == (decD (w8 p2.1 (8 * o').toNat)).2.2))) = false by simp]
    refine cnd_i (fun h => by cases h) fun _ => ⟨by omega, ?_⟩
    refine cnd_i (fun h => ?_) fun _ => nxt _ hA
    have hne : o' ≠ i := by have : i ≠ o' := by simpa using h
                            exact fun e => this e.symm
    repeat (first | refine ldI_o H (by repeat (first | exact Pick.here | apply Pick.there)) (by rfl) ?_ | refine ldL_o H (by repeat (first | exact Pick.here | apply Pick.there)) (by rfl) ?_ | refine ldB_o H (by repeat (first | exact Pick.here | apply Pick.there)) (by rfl) ?_ | refine ldP_o H (by repeat (first | exact Pick.here | apply Pick.there)) (by rfl) ?_ | refine ldS_o H (by repeat (first | exact Pick.here | apply Pick.there)) (by rfl) ?_)
    refine dev_ne ?_
    rw [hO o' o0 o1 hne]
    rw [show (!((decD (w8 bs (8 * o').toNat)).1 == (decD (w8 bs (8 * o').toNat)).1 && ((decD (w8 bs (8 * o').toNat)).2.1 == (decD (w8 bs (8 * o').toNat)).2.1 && (decD (w8 bs (8 * o').toNat)).2.2 == (decD (w8 bs (8 * o').toNat)).2.2))) = false by simp]
    exact nxt _ hA
  · repeat (first | refine ldI_o H (by repeat (first | exact Pick.here | apply Pick.there)) (by rfl) ?_ | refine ldL_o H (by repeat (first | exact Pick.here | apply Pick.there)) (by rfl) ?_ | refine ldB_o H (by repeat (first | exact Pick.here | apply Pick.there)) (by rfl) ?_ | refine ldP_o H (by repeat (first | exact Pick.here | apply Pick.there)) (by rfl) ?_ | refine ldS_o H (by repeat (first | exact Pick.here | apply Pick.there)) (by rfl) ?_)
    refine call_p H (get_t b bs hbr hbn 0 128 0 16) (by repeat (first | exact Cut.nil | (apply Cut.cons; (repeat (first | exact Pick.here | apply Pick.there))))) fun wx H => ?_
    have e1 := out_flat hbl
    have e2 := out_page hbl
    refine ⟨_, _, _, _, rfl, alc_o H fun b148 wx H => ?_⟩
    refine st1_o H (by repeat (first | exact Rep.here | apply Rep.there)) (by simp) fun wx H => ?_
    refine st1_o H (by repeat (first | exact Rep.here | apply Rep.there)) (by simp) fun wx H => ?_
    refine st1_o H (by repeat (first | exact Rep.here | apply Rep.there)) (by simp) fun wx H => ?_
    repeat (first | refine ldI_o H (by repeat (first | exact Pick.here | apply Pick.there)) (by rfl) ?_ | refine ldL_o H (by repeat (first | exact Pick.here | apply Pick.there)) (by rfl) ?_ | refine ldB_o H (by repeat (first | exact Pick.here | apply Pick.there)) (by rfl) ?_ | refine ldP_o H (by repeat (first | exact Pick.here | apply Pick.there)) (by rfl) ?_ | refine ldS_o H (by repeat (first | exact Pick.here | apply Pick.there)) (by rfl) ?_)
    refine call_p H (get_t b bs hbr hbn 128 32 32 16) (by repeat (first | exact Cut.nil | (apply Cut.cons; (repeat (first | exact Pick.here | apply Pick.there))))) fun wx H => ?_
    refine ⟨_, _, _, _, rfl, alc_o H fun b162 wx H => ?_⟩
    refine st1_o H (by repeat (first | exact Rep.here | apply Rep.there)) (by simp) fun wx H => ?_
    refine st1_o H (by repeat (first | exact Rep.here | apply Rep.there)) (by simp) fun wx H => ?_
    refine st1_o H (by repeat (first | exact Rep.here | apply Rep.there)) (by simp) fun wx H => ?_
    rw [e1, e2]
    refine join_o (cnd_i (fun _ => ?_) (fun h => by cases h))
    unfold crierlaw18_TablesFlat_j1
    exact ⟨rfl, keep_done H (by repeat (first | exact Pick.here | apply Pick.there))⟩
end Go.Proofs.Ythoieihffbahpaa
