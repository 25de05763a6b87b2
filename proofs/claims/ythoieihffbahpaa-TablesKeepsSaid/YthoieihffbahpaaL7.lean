/-
  tables: TablesTargets.
-/
import Derived.Test.YthoieihffbahpaaL6
namespace Go.Proofs.Ythoieihffbahpaa
open Go Go.RowKit X
set_option maxRecDepth 100000
set_option linter.unusedVariables false
set_option maxHeartbeats 1000000
def ints (k : IntKind) (ns : List Int) : List Value := ns.map (.int k)
theorem ints_get {k : IntKind} {ns : List Int} {i : Nat} (h : i < ns.length) : (ints k ns)[i]? = some (.int k ns[i]) := by simp [ints, h]
def boos (bs : List Bool) : List Value := bs.map .bool
theorem boos_get {bs : List Bool} {i : Nat} (h : i < bs.length) : (boos bs)[i]? = some (.bool bs[i]) := by simp [boos, h]
theorem tmod_u8 {x : Int} (h : 0 ≤ x ∧ x < 256) (d : Int) (hd : 0 < d) : IntKind.i64.wrap (Int.tmod x d) = x % d := by
  rw [Int.tmod_eq_emod_of_nonneg h.1]
  have h1 := Int.emod_nonneg x (show d ≠ 0 by omega)
  have h3 : x % d ≤ x := by
    rw [Int.emod_def]
    have := Int.mul_nonneg (Int.le_of_lt hd) (Int.ediv_nonneg h.1 (Int.le_of_lt hd))
    omega
  rw [W_id (by omega) (by omega)]
theorem colT {bs : List Int} (hl : bs.length = 1000) {c : Int} (h0 : 0 ≤ c) (h1 : c < 100) : colM bs.length 8 800 c = (8 + 8 * c, 0) := by
  have hh : holdsB bs.length 8 800 = true := holdsB_iff.2 (by omega)
  unfold colM; rw [if_neg (by rw [hh]; simp; omega)]
theorem stgT {bs : List Int} (hl : bs.length = 1000) {c t : Int} (h0 : 0 ≤ c) (h1 : c < 100) (h2 : 0 ≤ t) (h3 : t < 65536) (is : Bool) : stgM bs 8 800 c t is = (wr bs (8 + 8 * c).toNat (if is then 9223372036854775808 + t else 0) 8, 0) := by
  rw [stgM, if_neg (by omega), if_neg (by omega), colT hl h0 h1, if_neg (by simp)]
theorem tgtT {bs : List Int} (hl : bs.length = 1000) {c : Int} (h0 : 0 ≤ c) (h1 : c < 100) : tgtM bs 8 800 c = if w8 bs (8 + 8 * c).toNat < 9223372036854775808 then ((0, false), 0) else ((w8 bs (8 + 8 * c).toNat % 65536, true), 0) := by
  rw [tgtM, colT hl h0 h1, if_neg (by simp)]
theorem tgt_err {bs : List Int} (hl : bs.length = 1000) {c : Int} (h0 : 0 ≤ c) (h1 : c < 100) : (tgtM bs 8 800 c).2 = 0 := by
  rw [tgtT hl h0 h1]; split <;> rfl
theorem tgt_same {bs : List Int} (hl : bs.length = 1000) {c t : Int} (h0 : 0 ≤ c) (h1 : c < 100) (h2 : 0 ≤ t) (h3 : t < 65536) (is : Bool) : tgtM (stgM bs 8 800 c t is).1 8 800 c = ((if is then t else 0, is), 0) := by
  rw [stgT hl h0 h1 h2 h3, tgtT (by rw [wr_length, hl]) h0 h1, w8_wr (by omega) (by split <;> omega)]
  cases is
  · rw [if_pos (by simp)]; rfl
  · rw [if_neg (by simp; omega), if_pos rfl, if_pos rfl]
    rw [show (9223372036854775808 + t) % 65536 = t by omega]
theorem tgt_other {bs : List Int} (hl : bs.length = 1000) {c o t : Int} (h0 : 0 ≤ c) (h1 : c < 100) (g0 : 0 ≤ o) (g1 : o < 100) (hne : o ≠ c) (h2 : 0 ≤ t) (h3 : t < 65536) (is : Bool) : tgtM (stgM bs 8 800 c t is).1 8 800 o = tgtM bs 8 800 o := by
  rw [stgT hl h0 h1 h2 h3, tgtT (by rw [wr_length, hl]) g0 g1, tgtT hl g0 g1, w8_wr_off (by omega)]
theorem tgt_out {bs : List Int} (hl : bs.length = 1000) : (tgtM bs 8 800 100).2 = 183 := by
  have : colM bs.length 8 800 100 = (0, 183) := by unfold colM; rw [if_pos (by omega)]
  rw [tgtM, this, if_pos (by simp)]
theorem and3 {a b c : Bool} {J : Bool → World → Prop} {w : World} (h : J (a && (b && c)) w) : cnd a (cnd b (J c w) (J false w)) (J false w) := by
  cases a
  · exact cnd_i (fun h => by cases h) fun _ => h
  · cases b
    · exact cnd_i (fun _ => cnd_i (fun h => by cases h) fun _ => h) (fun h => by cases h)
    · exact cnd_i (fun _ => cnd_i (fun _ => h) (fun h => by cases h)) (fun h => by cases h)
theorem tail3 {x y z : Bool} {J : Bool → World → Prop} {w : World} (hx : x = true → y = false ∧ z = true) (h : J false w) : cnd x (cnd y (J true w) (J (!z) w)) (J false w) := by
  cases x
  · exact cnd_i (fun h => by cases h) fun _ => h
  · obtain ⟨rfl, rfl⟩ := hx rfl
    exact cnd_i (fun _ => cnd_i (fun h => by cases h) fun _ => h) (fun h => by cases h)
theorem tablesTargets_cv {W : World} {p q r : Option Addr} {c1 c2 c3 : Nat} {cs ts : List Int} {is : List Bool} {o : Int} (hp : Sl W p (ints .u8 cs)) (hq : Sl W q (ints .u16 ts)) (hr : Sl W r (boos is))
    (hcs : ∀ x ∈ cs, 0 ≤ x ∧ x < 256) (hts : ∀ x ∈ ts, 0 ≤ x ∧ x < 65536) (ho : 0 ≤ o ∧ o < 256) (hl : cs.length ≤ 9223372036854775807) :
    CV P F.crierlaw18_TablesTargets [.slice p cs.length c1, .slice q ts.length c2, .slice r is.length c3, .int .u8 o] W fun v w' => v = .bool true ∧ Below W.heap.size W w' := by
  refine crierlaw18_TablesTargets_cv ?_
  unfold crierlaw18_TablesTargets
  have H := keep_start W
  refine call_p H (awake_t) (by repeat (first | exact Cut.nil | (apply Cut.cons; (repeat (first | exact Pick.here | apply Pick.there))))) fun wx H => ?_
  refine ⟨_, rfl, cnd_i (fun h => by cases h) fun _ => ?_⟩
  refine call_o H (lawNewX_t 1000) (by repeat (first | exact Cut.nil | (apply Cut.cons; (repeat (first | exact Pick.here | apply Pick.there))))) fun vx L' wx hq H => ?_
  obtain ⟨b, b', rfl, rfl⟩ := hq
  simp only [List.cons_append, List.nil_append] at H
  have hz : List.replicate (lawN 1000) (0 : Int) = List.replicate 1000 0 := rfl
  rw [hz] at H
  refine ⟨_, _, rfl, join_o (cnd_i (fun h => by cases h) fun _ => ?_)⟩
  unfold crierlaw18_TablesTargets_j3
  refine cnd_i (fun h => by cases h) fun _ => alc_o H fun b21 wx H => ?_
  refine st1_o H (by repeat (first | exact Rep.here | apply Rep.there)) (by simp) fun wx H => ?_
  refine st1_o H (by repeat (first | exact Rep.here | apply Rep.there)) (by simp) fun wx H => ?_
  simp only [List.set_cons_zero, List.set_cons_succ] at H
  refine loop_o (fun (st : Int) L => ∃ (k : Nat) (bs : List Int), k ≤ cs.length ∧ st = k ∧ (∀ x ∈ bs, 0 ≤ x ∧ x < 256) ∧ bs.length = 1000 ∧ L = [row b21 [.int .i64 8, .int .i64 800] T.t30, memI b bs, memI b' (List.replicate 1000 0), keep W]) (fun (st : Int) => ((cs.length : Int) - st).toNat) H
    ⟨0, _, by omega, rfl, fun x hx => by rw [(List.mem_replicate.1 hx).2]; omega, by rw [List.length_replicate], rfl⟩ ?_
  rintro _ _ wx ⟨k, bs, hk, rfl, hbr, hbl, rfl⟩ H
  have hbn : bs.length ≤ 131072 := by omega
  unfold crierlaw18_TablesTargets_l2
  refine join_o (and3 (J := fun x w => crierlaw18_TablesTargets_j1 _ _ _ _ _ _ _ _ _ _ _ _ x w) ?_)
  unfold crierlaw18_TablesTargets_j1
  refine cnd_i (fun h => ?_) fun h => ?_
  · simp only [Bool.and_eq_true, decide_eq_true_eq] at h
    obtain ⟨h1, h2, h3⟩ := h
    have k1 : k < cs.length := by omega
    have k2 : k < ts.length := by omega
    have k3 : k < is.length := by omega
    refine ⟨⟨by omega, h1⟩, ?_⟩
    rw [Int.toNat_natCast]
    obtain ⟨a, rfl, hcell⟩ := H.rd (i := keep W) (by repeat (first | exact Pick.here | apply Pick.there)) (keep_sl hp) k _ (ints_get k1)
    refine ⟨_, by rw [Nat.mul_one]; exact hcell, by omega, by omega, ?_⟩
    have hc := hcs _ (List.getElem_mem k1)
    have ht := hts _ (List.getElem_mem k2)
    rw [tmod_u8 hc 100 (by omega), tmod_u8 ho 100 (by omega)]
    have c0 : 0 ≤ cs[k] % 100 := by omega
    have c1' : cs[k] % 100 < 100 := by omega
    have o0 : 0 ≤ o % 100 := by omega
    have o1 : o % 100 < 100 := by omega
    generalize cs[k] % 100 = c at *
    generalize o % 100 = o' at *
    repeat (first | refine ldI_o H (by repeat (first | exact Pick.here | apply Pick.there)) (by rfl) ?_ | refine ldL_o H (by repeat (first | exact Pick.here | apply Pick.there)) (by rfl) ?_ | refine ldB_o H (by repeat (first | exact Pick.here | apply Pick.there)) (by rfl) ?_ | refine ldP_o H (by repeat (first | exact Pick.here | apply Pick.there)) (by rfl) ?_ | refine ldS_o H (by repeat (first | exact Pick.here | apply Pick.there)) (by rfl) ?_)
    refine call_p H (target_t b bs hbr hbn 8 800 o') (by repeat (first | exact Cut.nil | (apply Cut.cons; (repeat (first | exact Pick.here | apply Pick.there))))) fun wx H => ?_
    refine ⟨_, _, _, rfl, ?_⟩
    refine drw_o H fun wx H => ?_
    repeat (first | refine ldI_o H (by repeat (first | exact Pick.here | apply Pick.there)) (by rfl) ?_ | refine ldL_o H (by repeat (first | exact Pick.here | apply Pick.there)) (by rfl) ?_ | refine ldB_o H (by repeat (first | exact Pick.here | apply Pick.there)) (by rfl) ?_ | refine ldP_o H (by repeat (first | exact Pick.here | apply Pick.there)) (by rfl) ?_ | refine ldS_o H (by repeat (first | exact Pick.here | apply Pick.there)) (by rfl) ?_)
    refine ⟨⟨by omega, h2⟩, ?_⟩
    rw [Int.toNat_natCast]
    obtain ⟨a2, rfl, hcell⟩ := H.rd (i := keep W) (by repeat (first | exact Pick.here | apply Pick.there)) (keep_sl hq) k _ (ints_get k2)
    refine ⟨_, by rw [Nat.mul_one]; exact hcell, ⟨by omega, h3⟩, ?_⟩
    rw [Int.toNat_natCast]
    obtain ⟨a3, rfl, hcell⟩ := H.rd (i := keep W) (by repeat (first | exact Pick.here | apply Pick.there)) (keep_sl hr) k _ (boos_get k3)
    refine ⟨_, by rw [Nat.mul_one]; exact hcell, ?_⟩
    rw [W_id (n := ts[k]) (by omega) (by omega)]
    refine call_o H (setTarget_t b bs hbn 8 800 c ts[k] is[k]) (by repeat (first | exact Cut.nil | (apply Cut.cons; (repeat (first | exact Pick.here | apply Pick.there))))) fun vx L' wx hq H => ?_
    obtain ⟨rfl, rfl⟩ := hq
    simp only [List.cons_append, List.nil_append] at H
    have hbr' := stgM_range hbr 8 800 c ts[k] is[k]
    have hbl' : (stgM bs 8 800 c ts[k] is[k]).1.length = 1000 := by rw [stgM_length]; exact hbl
    have e1 := tgt_same hbl c0 c1' ht.1 ht.2 is[k]
    have e2 := fun hne => tgt_other hbl c0 c1' o0 o1 hne ht.1 ht.2 is[k]
    have e3 := tgt_err hbl o0 o1
    have e4 := tgt_err hbl' o0 o1
    have e5 : (stgM bs 8 800 c ts[k] is[k]).2 = 0 := by rw [stgT hbl c0 c1' ht.1 ht.2]
    generalize stgM bs 8 800 c ts[k] is[k] = st at *
    obtain ⟨bs', e⟩ := st
    dsimp only at *
    subst e5
    have hbn' : bs'.length ≤ 131072 := by omega
    refine ⟨_, rfl, ?_⟩
    repeat (first | refine ldI_o H (by repeat (first | exact Pick.here | apply Pick.there)) (by rfl) ?_ | refine ldL_o H (by repeat (first | exact Pick.here | apply Pick.there)) (by rfl) ?_ | refine ldB_o H (by repeat (first | exact Pick.here | apply Pick.there)) (by rfl) ?_ | refine ldP_o H (by repeat (first | exact Pick.here | apply Pick.there)) (by rfl) ?_ | refine ldS_o H (by repeat (first | exact Pick.here | apply Pick.there)) (by rfl) ?_)
    refine call_p H (target_t b bs' hbr' hbn' 8 800 o') (by repeat (first | exact Cut.nil | (apply Cut.cons; (repeat (first | exact Pick.here | apply Pick.there))))) fun wx H => ?_
    refine ⟨_, _, _, rfl, ?_⟩
    repeat (first | refine ldI_o H (by repeat (first | exact Pick.here | apply Pick.there)) (by rfl) ?_ | refine ldL_o H (by repeat (first | exact Pick.here | apply Pick.there)) (by rfl) ?_ | refine ldB_o H (by repeat (first | exact Pick.here | apply Pick.there)) (by rfl) ?_ | refine ldP_o H (by repeat (first | exact Pick.here | apply Pick.there)) (by rfl) ?_ | refine ldS_o H (by repeat (first | exact Pick.here | apply Pick.there)) (by rfl) ?_)
    refine call_p H (target_t b bs' hbr' hbn' 8 800 c) (by repeat (first | exact Cut.nil | (apply Cut.cons; (repeat (first | exact Pick.here | apply Pick.there))))) fun wx H => ?_
    rw [e1]
    refine ⟨_, _, _, rfl, ?_⟩
    rw [e3, e4]
    refine join_o (cnd_i (fun h => by cases h) fun _ => cnd_i (fun h => by cases h) fun _ => cnd_i (fun h => by cases h) fun _ => cnd_i (fun h => by cases h) fun _ => ?_)
    refine ⟨⟨by omega, h3⟩, ?_⟩
    rw [Int.toNat_natCast]
    obtain ⟨a3', e, hcell⟩ := H.rd (i := keep W) (by repeat (first | exact Pick.here | apply Pick.there)) (keep_sl hr) k _ (boos_get k3)
    cases e
    refine ⟨_, by rw [Nat.mul_one]; exact hcell, cnd_i (fun h => by simp at h) fun _ => ?_⟩
    have oc : (o' != c) = true → ((tgtM bs 8 800 o').1.1 != (tgtM bs' 8 800 o').1.1) = false ∧ ((tgtM bs 8 800 o').1.2 == (tgtM bs' 8 800 o').1.2) = true := by
      intro h
      rw [e2 (by simpa using h)]; simp
    have nxt : ∀ A : Int → World → Prop, A (IntKind.i64.wrap ((k : Int) + 1)) wx → crierlaw18_TablesTargets_j0 (fun v w' => v = .bool true ∧ Below W.heap.size W w') (k : Int) A false wx := by
      intro A hA
      unfold crierlaw18_TablesTargets_j0
      exact cnd_i (fun h => by cases h) fun _ => hA
    have hA : (∃ L', (∃ (k' : Nat) (bs : List Int), k' ≤ cs.length ∧ IntKind.i64.wrap ((k : Int) + 1) = k' ∧ (∀ x ∈ bs, 0 ≤ x ∧ x < 256) ∧ bs.length = 1000 ∧ L' = [row b21 [.int .i64 8, .int .i64 800] T.t30, memI b bs, memI b' (List.replicate 1000 0), keep W]) ∧ X.Own W (fun k => k < W.heap.size) L' wx) ∧ ((cs.length : Int) - IntKind.i64.wrap ((k : Int) + 1)).toNat < ((cs.length : Int) - (k : Int)).toNat := by
      rw [W_id (by omega) (by omega)]
      exact ⟨⟨_, ⟨k + 1, bs', by omega, by push_cast; rfl, hbr', hbl', rfl⟩, H.drop (by repeat (first | exact Cut.nil | (apply Cut.cons; (repeat (first | exact Pick.here | apply Pick.there)))))⟩, by omega⟩
    cases hi : is[k]
    · refine cnd_i (fun h => by cases h) fun _ => cnd_i (fun _ => cnd_i (fun h => by cases h) fun _ => ?_) (fun h => by cases h)
      exact tail3 (J := fun x w => crierlaw18_TablesTargets_j0 _ _ _ x w) oc (nxt _ hA)
    · refine cnd_i (fun _ => ⟨⟨by omega, h2⟩, ?_⟩) (fun h => by cases h)
      rw [Int.toNat_natCast]
      obtain ⟨a2', e, hcell⟩ := H.rd (i := keep W) (by repeat (first | exact Pick.here | apply Pick.there)) (keep_sl hq) k _ (ints_get k2)
      cases e
      refine ⟨_, by rw [Nat.mul_one]; exact hcell, ?_⟩
      change cnd _ _ _
      rw [W_id (n := ts[k]) (by omega) (by omega), if_pos rfl]
      refine cnd_i (fun h => by simp at h) fun _ => cnd_i (fun h => by cases h) fun _ => ?_
      exact tail3 (J := fun x w => crierlaw18_TablesTargets_j0 _ _ _ x w) oc (nxt _ hA)
  · repeat (first | refine ldI_o H (by repeat (first | exact Pick.here | apply Pick.there)) (by rfl) ?_ | refine ldL_o H (by repeat (first | exact Pick.here | apply Pick.there)) (by rfl) ?_ | refine ldB_o H (by repeat (first | exact Pick.here | apply Pick.there)) (by rfl) ?_ | refine ldP_o H (by repeat (first | exact Pick.here | apply Pick.there)) (by rfl) ?_ | refine ldS_o H (by repeat (first | exact Pick.here | apply Pick.there)) (by rfl) ?_)
    refine call_p H (target_t b bs hbr hbn 8 800 100) (by repeat (first | exact Cut.nil | (apply Cut.cons; (repeat (first | exact Pick.here | apply Pick.there))))) fun wx H => ?_
    refine ⟨_, _, _, rfl, ?_⟩
    rw [tgt_out hbl]
    exact ⟨rfl, keep_done H (by repeat (first | exact Pick.here | apply Pick.there))⟩
end Go.Proofs.Ythoieihffbahpaa
