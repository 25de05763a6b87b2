/-
  ring: rows held against each other; the document's examples; RingIndex.
-/
import Derived.Test.YtacklapiboeagaaL3
namespace Go.Proofs.Ytacklapiboeagaa
open Go Go.RowKit X
set_option maxRecDepth 100000
set_option linter.unusedVariables false
def ints (xs : List Int) : List Value := xs.map fun n => .int .i64 n
theorem ints_get {xs : List Int} {k : Nat} (h : k < xs.length) : (ints xs)[k]? = some (.int .i64 xs[k]) := by simp [ints, h]
theorem Sl.heap {w w' : World} {p : Option Addr} {xs : List Value} (h : Sl w p xs) (e : w'.heap = w.heap) : Sl w' p xs := by
  intro j u hj
  obtain ⟨a, h1, h2⟩ := h j u hj
  exact ⟨a, h1, by rw [World.cell?_of_block (w := w) (by rw [e])]; exact h2⟩
theorem sl_ld {w : World} {p : Option Addr} {xs : List Int} {k : Nat} {K : Int → Prop} (h : Sl w p (ints xs)) (hk : k < xs.length) (hK : K xs[k]) : nn p fun a => ldI .i64 (a.add (k * 1)) w fun n => K n := by
  obtain ⟨a, rfl, hc⟩ := h k _ (ints_get hk)
  exact ⟨_, by rw [Nat.mul_one]; exact hc, hK⟩
theorem same_cv {w : World} {p q : Option Addr} {c c' : Nat} {xs ys : List Int} (hx : Sl w p (ints xs)) (hy : Sl w q (ints ys)) (hn : xs.length ≤ 9223372036854775807) :
    CV P F.crierref01_Same [.slice p xs.length c, .slice q ys.length c'] w fun v w' => v = .bool (decide (xs = ys)) ∧ Below w.heap.size w w' ∧ w'.heap = w.heap := by
  refine crierref01_Same_cv ?_
  unfold crierref01_Same
  refine cnd_i (fun h => ⟨?_, Below.refl _ _, rfl⟩) fun h => ?_
  · have : xs ≠ ys := by rintro rfl; simp at h
    simp [this]
  have hl : xs.length = ys.length := by
    have : (xs.length : Int) = ys.length := by simpa using h
    omega
  refine ⟨fun (i : Int) w' => ∃ k : Nat, i = k ∧ k ≤ xs.length ∧ xs.take k = ys.take k ∧ w'.heap = w.heap ∧ Below w.heap.size w w', fun (i : Int) _ => (xs.length - i).toNat, ⟨0, rfl, by omega, rfl, rfl, Below.refl _ _⟩, ?_⟩
  rintro i w' ⟨k, rfl, hk, ht, he, hb⟩
  unfold crierref01_Same_l0
  refine cnd_i (fun h => ?_) fun h => ⟨?_, hb, he⟩
  · have h := of_decide_eq_true h
    have hk' : k < xs.length := by omega
    refine ⟨⟨by omega, by omega⟩, ?_⟩
    rw [show ((k : Int)).toNat = k from rfl]
    have hbd : Below w.heap.size w w'.drew := hb.drew
    have hed : w'.drew.heap = w.heap := he
    refine sl_ld (Sl.heap hx hed) hk' ⟨⟨by omega, by omega⟩, ?_⟩
    rw [show ((k : Int)).toNat = k from rfl]
    refine sl_ld (Sl.heap hy hed) (by omega) (cnd_i (fun h' => ⟨?_, hbd, hed⟩) fun h' => ⟨⟨k + 1, ?_, by omega, ?_, hed, hbd⟩, ?_⟩)
    · have : xs ≠ ys := by rintro rfl; simp at h'
      simp [this]
    · rw [W_id (by omega) (by omega)]; rfl
    · rw [List.take_succ_eq_append_getElem hk', List.take_succ_eq_append_getElem (by omega), ht]
      have : xs[k] = ys[k] := by simpa using h'
      rw [this]
    · rw [W_id (by omega) (by omega)]
      show ((xs.length : Int) - ((k : Int) + 1)).toNat < ((xs.length : Int) - (k : Int)).toNat
      omega
  · have h := of_decide_eq_false h
    have : xs = ys := by
      rw [List.take_of_length_le (by omega), List.take_of_length_le (by omega)] at ht; exact ht
    simp [this]
theorem listR_ints (s t rd : Int) (n : Nat) : listR s t rd n = ints ((List.range n).map (nth s t rd)) := by simp [listR, ints]
theorem awake_plain : Plain F.crierlaw02_awake [] (.bool true) := by
  intro w
  refine crierlaw02_awake_cv ?_
  refine alc_i fun w1 hB1 h1 hs1 => ?_
  have hb1 := hB1 _ (Nat.le_refl _)
  refine st1_i h1 (by simp) fun w2 hB2 _ hs2 h2 => st1_i h2 (by simp) fun w3 hB3 _ hs3 h3 => ?_
  have hb3 := (hb1.trans (hB2 _ (Nat.le_refl _))).trans (hB3 _ (Nat.le_refl _))
  have h3 : Row w3 w.heap.size [.int .i64 96, .int .i64 32] T.t23 := h3
  refine ldI_i h3 rfl (ldI_i h3 rfl ?_)
  refine (next_plain 96 32 64 w3).mono ?_
  rintro _ w4 ⟨rfl, hB4⟩
  have h4 := h3.ext hB4
  have hb4 := hb3.trans (hB4.mono hb3.size)
  refine ⟨0, 0, rfl, ldI_i h4 rfl (ldI_i h4 rfl ?_)⟩
  refine (left_plain 96 32 64 32 w4).mono ?_
  rintro _ w5 ⟨rfl, hB5⟩
  have h5 := h4.ext hB5
  have hb5 := hb4.trans (hB5.mono hb4.size)
  refine ⟨2, 0, by kernel_rfl, ?_⟩
  show ldI _ _ _ _
  refine ldI_i h5 rfl (ldI_i h5 rfl ?_)
  refine (may_plain 96 32 33 w5).mono ?_
  rintro _ w6 ⟨rfl, hB6⟩
  have h6 := h5.ext hB6
  have hb6 := hb5.trans (hB6.mono hb5.size)
  refine ⟨_, rfl, ?_⟩
  show CV _ _ _ _ _
  refine (right_plain 96 40 w6).mono ?_
  rintro _ w7 ⟨rfl, hB7⟩
  have h7 := h6.ext hB7
  have hb7 := hb6.trans (hB7.mono hb6.size)
  refine ⟨1, rfl, ?_⟩
  show ldI _ _ _ _
  refine ldI_i h7 rfl (ldI_i h7 rfl ?_)
  refine (lawEach_cv 96 32 64 32 (by omega) w7).mono ?_
  rintro _ w8 ⟨p, c, rfl, hB8, ho⟩
  have hb8 := hb7.trans (hB8.mono hb7.size)
  refine ⟨p, _, c, rfl, ?_⟩
  refine alc_i fun w9 hB9 h9 hs9 => ?_
  have hsl := Sl.own ho
  rw [listR_ints] at hsl
  have hlt := World.ownsRow.lt ho
  have hb9 := hb8.trans (hB9 _ hb8.size)
  have hx : Sl w9 p (ints ((List.range (cnt 96 32 64 32)).map (nth 96 32 64))) := Sl.below hsl.1 (hB9 _ (Nat.le_refl _)) fun a ha => by
    have := hlt a.block (by rw [ha]; rfl); omega
  refine (same_cv (c := c) (c' := 2) (xs := (List.range (cnt 96 32 64 32)).map (nth 96 32 64)) (ys := [64, 0]) hx (Sl.row h9) (by simp; exact Nat.le_trans (cnt_le (by omega)) (by omega))).mono ?_
  rintro _ w10 ⟨rfl, hB10, _⟩
  exact ⟨_, rfl, by rw [show decide ((List.range (cnt 96 32 64 32)).map (nth 96 32 64) = [64, 0]) = true from by decide], hb9.trans (hB10.mono hb9.size)⟩

/-- what is true of an entry's place -/
theorem may_spec {s t a : Int} (h : mayB s t a = true) : 1 ≤ t ∧ t ≤ s ∧ 0 ≤ a ∧ a < s ∧ a = t * (a / t) ∧ s = t * (s / t) ∧ s / t ≤ s := by
  have hr := right_pos (may_right h)
  simp only [mayB, Bool.and_eq_true, decide_eq_true_eq, beq_iff_eq] at h
  obtain ⟨_, h1, h2, h3⟩ := h
  obtain ⟨h4, h5, h6, _⟩ := hr
  rw [Int.tmod_eq_emod_of_nonneg (by omega)] at h3 h6
  exact ⟨h4, h5, by omega, h2, (Int.mul_ediv_cancel' (Int.dvd_of_emod_eq_zero h3)).symm, (Int.mul_ediv_cancel' (Int.dvd_of_emod_eq_zero h6)).symm, Int.ediv_le_self _ (by omega)⟩
theorem lt_of_mul {t x y : Int} (ht : 1 ≤ t) (h : t * x < t * y) : x < y := Int.lt_of_mul_lt_mul_left h (by omega)
theorem index_place {s t a : Int} (hs : s ≤ 9223372036854775807) (h : mayB s t a = true) : placeB s t (W (Int.tdiv a t)) = true ∧ W (W (Int.tdiv a t) * t) = a := by
  obtain ⟨h1, h2, h3, h4, h5, h6, h7⟩ := may_spec h
  have hr := may_right h
  have e1 : Int.tdiv a t = a / t := Int.tdiv_eq_ediv_of_nonneg h3
  have e2 : Int.tdiv s t = s / t := Int.tdiv_eq_ediv_of_nonneg (by omega)
  have h8 : 0 ≤ a / t := Int.ediv_nonneg h3 (by omega)
  have h9 : a / t < s / t := lt_of_mul h1 (by omega)
  have e3 : W (a / t) = a / t := W_id (by omega) (by omega)
  have e4 : W (s / t) = s / t := W_id (by omega) (by omega)
  refine ⟨by simp only [placeB, hr, e1, e2, e3, e4]; simp; exact ⟨h8, h9⟩, ?_⟩
  rw [e1, e3, Int.mul_comm, ← h5]
  exact W_id (by omega) (by omega)
theorem place_index {s t i : Int} (hs : s ≤ 9223372036854775807) (h : placeB s t i = true) : mayB s t (W (i * t)) = true ∧ W (Int.tdiv (W (i * t)) t) = i := by
  simp only [placeB, Bool.and_eq_true, decide_eq_true_eq] at h
  obtain ⟨hr, h1, h2⟩ := h
  obtain ⟨h3, h4, h5, h6⟩ := right_pos hr
  have e2 : Int.tdiv s t = s / t := Int.tdiv_eq_ediv_of_nonneg (by omega)
  have h7 : s / t ≤ s := Int.ediv_le_self _ (by omega)
  have h7' : 0 ≤ s / t := Int.ediv_nonneg (by omega) (by omega)
  have e4 : W (s / t) = s / t := W_id (by omega) (by omega)
  rw [e2, e4] at h2
  rw [Int.tmod_eq_emod_of_nonneg (by omega)] at h5
  have h8 : s = t * (s / t) := (Int.mul_ediv_cancel' (Int.dvd_of_emod_eq_zero h5)).symm
  have h9 : t * i < t * (s / t) := Int.mul_lt_mul_of_pos_left h2 (by omega)
  have h10 : 0 ≤ t * i := Int.mul_nonneg (by omega) (by omega)
  have e5 : W (i * t) = t * i := by rw [Int.mul_comm]; exact W_id (by omega) (by omega)
  rw [e5]
  have e6 : (t * i).tdiv t = i := by rw [Int.tdiv_eq_ediv_of_nonneg h10]; exact Int.mul_ediv_cancel_left _ (by omega)
  refine ⟨?_, ?_⟩
  · simp only [mayB, hr, Bool.true_and, Bool.and_eq_true, decide_eq_true_eq, beq_iff_eq]
    exact ⟨h10, by omega, by rw [Int.tmod_eq_emod_of_nonneg h10]; exact Int.mul_emod_right _ _⟩
  · rw [e6]
    have h11 : i ≤ t * i := by
      have := Int.mul_le_mul_of_nonneg_right h3 (show 0 ≤ i by omega); omega
    exact W_id (by omega) (by omega)
theorem ringIndex_cv (s t a i : Int) (hs : s ≤ 9223372036854775807) : Plain F.crierlaw02_RingIndex [ringV s t, i64V a, i64V i] (.bool true) := by
  intro w
  refine crierlaw02_RingIndex_cv ?_
  refine alc_i fun w1 hB1 h1 hs1 => ?_
  have hb1 := hB1 _ (Nat.le_refl _)
  refine (awake_plain w1).mono ?_
  rintro _ w2 ⟨rfl, hB2⟩
  have h2 := h1.ext hB2
  have hb2 := hb1.trans (hB2.mono hb1.size)
  refine ⟨true, rfl, ldI_i h2 rfl (ldI_i h2 rfl ?_)⟩
  refine (index_plain s t a w2).mono ?_
  rintro _ w3 ⟨rfl, hB3⟩
  have h3 := h2.ext hB3
  have hb3 := hb2.trans (hB3.mono hb2.size)
  -- the second half
  have back : ∀ w', Row w' w.heap.size [.int .i64 s, .int .i64 t] T.t23 → Below w.heap.size w w' → crierlaw02_RingIndex_j2 i (fun v w' => v = .bool true ∧ Below w.heap.size w w') w.heap.size true w' := by
    intro w' hr hb
    unfold crierlaw02_RingIndex_j2
    refine ldI_i hr rfl (ldI_i hr rfl ?_)
    refine (place_plain s t i w').mono ?_
    rintro _ w4 ⟨rfl, hB4⟩
    have h4 := hr.ext hB4
    have hb4 := hb.trans (hB4.mono hb.size)
    cases hp : placeB s t i
    · exact ⟨0, 1, rfl, rfl, hb4⟩
    · refine ⟨W (i * t), 0, rfl, ?_⟩
      refine cnd_i (fun h => by cases h) fun _ => ldI_i h4 rfl (ldI_i h4 rfl ?_)
      obtain ⟨hm, hi⟩ := place_index hs hp
      refine (index_plain s t (W (i * t)) w4).mono ?_
      rintro _ w5 ⟨rfl, hB5⟩
      have h5 := h4.ext hB5
      have hb5 := hb4.trans (hB5.mono hb4.size)
      refine ⟨i, 0, by rw [hm, hi]; rfl, ?_⟩
      unfold JoinT
      refine cnd_i (fun _ => cnd_i (fun _ => cnd_i (fun _ => ldI_i h5 rfl (ldI_i h5 rfl ?_)) fun h => by simp at h) fun h => by cases h) fun h => by cases h
      refine (may_plain s t (W (i * t)) w5).mono ?_
      rintro _ w6 ⟨rfl, hB6⟩
      exact ⟨true, by rw [hm], rfl, hb5.trans (hB6.mono hb5.size)⟩
  cases hm : mayB s t a
  · exact ⟨0, 1, rfl, back _ h3 hb3⟩
  · refine ⟨W (Int.tdiv a t), 0, rfl, ?_⟩
    unfold JoinT
    refine cnd_i (fun _ => ldI_i h3 rfl (ldI_i h3 rfl ?_)) fun h => by cases h
    obtain ⟨hp, hi⟩ := index_place hs hm
    refine (place_plain s t (W (Int.tdiv a t)) w3).mono ?_
    rintro _ w4 ⟨rfl, hB4⟩
    have h4 := h3.ext hB4
    have hb4 := hb3.trans (hB4.mono hb3.size)
    refine ⟨a, 0, by rw [hp, hi]; rfl, ?_⟩
    refine cnd_i (fun h => by cases h) fun _ => ?_
    unfold crierlaw02_RingIndex_j3
    refine cnd_i (fun h => by simp at h) fun _ => back _ h4 hb4
end Go.Proofs.Ytacklapiboeagaa
