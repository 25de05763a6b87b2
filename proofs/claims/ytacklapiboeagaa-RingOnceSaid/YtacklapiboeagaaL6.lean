/-
  ring: the places of a loop, reckoned; RingOnce.
-/
import Derived.Test.YtacklapiboeagaaL5
namespace Go.Proofs.Ytacklapiboeagaa
open Go Go.RowKit X
set_option maxRecDepth 100000
set_option linter.unusedVariables false
theorem tmod_nonneg' {x s : Int} (h : 0 ≤ x) : x.tmod s = x % s := Int.tmod_eq_emod_of_nonneg h
/-- a loop that goes through any place at all: its places are told by their numbers, and none comes twice, nor where the loop ends -/
theorem places {s t rd wr : Int} (hs : s ≤ 9223372036854775807) (hc : 0 < cnt s t rd wr) : mayB s t rd = true ∧ mayB s t wr = true ∧
    (∀ k, k < cnt s t rd wr → mayB s t (nth s t rd k) = true ∧ nth s t rd k ≠ wr) ∧ (∀ j k, j < k → k < cnt s t rd wr → nth s t rd j ≠ nth s t rd k) := by
  unfold cnt at hc
  split at hc
  · rename_i hm
    simp only [Bool.and_eq_true] at hm
    refine ⟨hm.1, hm.2, ?_⟩
    have hcnt : cnt s t rd wr = (leftV s t rd wr).toNat := by simp [cnt, hm.1, hm.2]
    rw [hcnt]
    obtain ⟨t1, ts, a0, as', ae, se, sl⟩ := may_spec hm.1
    obtain ⟨_, _, b0, bs, be, _, _⟩ := may_spec hm.2
    have hr := may_right hm.1
    generalize hN : s / t = N at *
    generalize hi : rd / t = i at *
    generalize hj : wr / t = j at *
    have hN1 : 1 ≤ N := by
      rcases Int.lt_or_le N 1 with h | h
      · exfalso
        have : t * N ≤ 0 := Int.mul_nonpos_of_nonneg_of_nonpos (by omega) (by omega)
        omega
      · exact h
    have hi0 : 0 ≤ i := by rw [← hi]; exact Int.ediv_nonneg a0 (by omega)
    have hj0 : 0 ≤ j := by rw [← hj]; exact Int.ediv_nonneg b0 (by omega)
    have hiN : i < N := lt_of_mul t1 (by omega)
    have hjN : j < N := lt_of_mul t1 (by omega)
    -- how many
    have hleft : (leftV s t rd wr).toNat = ((j - i + N) % N).toNat := by
      have e1 : W (wr - rd) = wr - rd := W_id (by omega) (by omega)
      unfold leftV at hc ⊢
      rw [e1] at hc ⊢
      rcases Int.lt_or_le (wr - rd + s) 9223372036854775808 with h | h
      · have e2 : W (wr - rd + s) = wr - rd + s := W_id (by omega) (by omega)
        rw [e2]
        have h0 : 0 ≤ wr - rd + s := by omega
        rw [tmod_nonneg' h0]
        have e3 : wr - rd + s = t * (j - i + N) := by rw [Int.mul_add, Int.mul_sub]; omega
        have e4 : (wr - rd + s) % s = t * ((j - i + N) % N) := by
          rw [e3, se, Int.mul_emod_mul_of_pos _ _ (by omega)]
        rw [e4]
        have h5 : 0 ≤ (j - i + N) % N := Int.emod_nonneg _ (by omega)
        rw [Int.tdiv_eq_ediv_of_nonneg (Int.mul_nonneg (by omega) h5), Int.mul_ediv_cancel_left _ (by omega)]
        have h6 : (j - i + N) % N < N := Int.emod_lt_of_pos _ (by omega)
        rw [show W ((j - i + N) % N) = (j - i + N) % N from W_id (by omega) (by omega)]
      · exfalso
        have e2 : W (wr - rd + s) = wr - rd + s - 18446744073709551616 := by
          unfold W; simp [IntKind.wrap, IntKind.signed, IntKind.bits]; split <;> omega
        rw [e2] at hc
        have h0 : wr - rd + s - 18446744073709551616 ≤ 0 := by omega
        have h7 : (wr - rd + s - 18446744073709551616).tmod s ≤ 0 := by
          have := Int.tmod_nonneg s (a := -(wr - rd + s - 18446744073709551616)) (by omega)
          rw [Int.neg_tmod] at this; omega
        have h9 : -s < (wr - rd + s - 18446744073709551616).tmod s := by
          have := Int.lt_tmod_of_pos (wr - rd + s - 18446744073709551616) (show 0 < s by omega); omega
        generalize (wr - rd + s - 18446744073709551616).tmod s = x at *
        have h8 : x.tdiv t ≤ 0 := by
          have := Int.tdiv_nonneg (a := -x) (b := t) (by omega) (by omega)
          rw [Int.neg_tdiv] at this; omega
        have h10 : -9223372036854775808 ≤ x.tdiv t := by
          have h11 : (-x).tdiv t ≤ -x := by
            rw [Int.tdiv_eq_ediv_of_nonneg (by omega)]; exact Int.ediv_le_self _ (by omega)
          rw [Int.neg_tdiv] at h11; omega
        rw [show W (x.tdiv t) = x.tdiv t from W_id h10 (by omega)] at hc
        omega
    rw [hleft]
    -- each place
    have hnth : ∀ k : Nat, nth s t rd k = t * ((i + k) % N) := by
      intro k
      induction k with
      | zero => simp only [nth]; rw [show (i + ((0 : Nat) : Int)) % N = i from by rw [Int.emod_eq_of_lt] <;> omega]; exact ae
      | succ k ih =>
        simp only [nth, ih]
        have h5 : 0 ≤ (i + k) % N := Int.emod_nonneg _ (by omega)
        have h6 : (i + k) % N < N := Int.emod_lt_of_pos _ (by omega)
        generalize hx : (i + (k : Int)) % N = x at *
        have h7 : t * x + t = t * (x + 1) := by rw [Int.mul_add, Int.mul_one]
        have h8 : t * (x + 1) ≤ t * N := Int.mul_le_mul_of_nonneg_left (by omega) (by omega)
        have h9 : 0 ≤ t * (x + 1) := Int.mul_nonneg (by omega) (by omega)
        rw [h7, show W (t * (x + 1)) = t * (x + 1) from W_id (by omega) (by omega), tmod_nonneg' h9]
        conv => lhs; rw [se]
        rw [Int.mul_emod_mul_of_pos _ _ (by omega)]
        congr 1
        rw [← hx, Int.emod_add_emod]
        congr 1
        push_cast; omega
    have hmod : 0 ≤ (j - i + N) % N ∧ (j - i + N) % N < N := ⟨Int.emod_nonneg _ (by omega), Int.emod_lt_of_pos _ (by omega)⟩
    -- the rest of i + k, told by cases
    have hrest : ∀ k : Nat, (k : Int) < N → (i + k) % N = if i + k < N then i + k else i + k - N := by
      intro k hk
      split
      · exact Int.emod_eq_of_lt (by omega) (by omega)
      · rw [← Int.sub_emod_right (i + k) N]
        exact Int.emod_eq_of_lt (by omega) (by omega)
    have hn : (j - i + N) % N = if i ≤ j then j - i else j - i + N := by
      split
      · rw [Int.add_emod_right]; exact Int.emod_eq_of_lt (by omega) (by omega)
      · exact Int.emod_eq_of_lt (by omega) (by omega)
    have inj : ∀ x y : Int, t * x = t * y → x = y := fun x y h => Int.eq_of_mul_eq_mul_left (by omega) h
    refine ⟨fun k hk => ⟨?_, ?_⟩, fun a b hab hb => ?_⟩
    · rw [hnth]
      have h5 : 0 ≤ (i + k) % N := Int.emod_nonneg _ (by omega)
      have h6 : (i + k) % N < N := Int.emod_lt_of_pos _ (by omega)
      have h9 : 0 ≤ t * ((i + k) % N) := Int.mul_nonneg (by omega) h5
      have h8 : t * ((i + k) % N) < t * N := Int.mul_lt_mul_of_pos_left h6 (by omega)
      simp only [mayB, hr, Bool.true_and, Bool.and_eq_true, decide_eq_true_eq, beq_iff_eq]
      exact ⟨h9, by omega, by rw [tmod_nonneg' h9]; exact Int.mul_emod_right _ _⟩
    · rw [hnth]
      intro h
      have h := inj _ _ (h.trans be)
      rw [hrest k (by omega)] at h
      rw [hn] at hk
      split at h <;> split at hk <;> omega
    · rw [hnth, hnth]
      intro h
      have h := inj _ _ h
      rw [hrest a (by omega), hrest b (by omega)] at h
      split at h <;> split at h <;> omega
  · omega
theorem ringOnce_cv (s t rd wr : Int) (hs : s ≤ 9223372036854775807) : Plain F.crierlaw02_RingOnce [ringV s t, i64V rd, i64V wr] (.bool true) := by
  intro w
  refine crierlaw02_RingOnce_cv ?_
  refine alc_i fun w1 hB1 h1 hs1 => ?_
  have hb1 := hB1 _ (Nat.le_refl _)
  refine (awake_plain w1).mono ?_
  rintro _ w2 ⟨rfl, hB2⟩
  have h2 := h1.ext hB2
  have hb2 := hb1.trans (hB2.mono hb1.size)
  refine ⟨true, rfl, ldI_i h2 rfl (ldI_i h2 rfl ?_)⟩
  refine (lawEach_cv s t rd wr hs w2).mono ?_
  rintro _ w3 ⟨p, c, rfl, hB3, ho⟩
  have h3 := h2.ext hB3
  have hb3 := hb2.trans (hB3.mono hb2.size)
  have hsl := Sl.own ho
  rw [listR_ints] at hsl
  have hlt := World.ownsRow.lt ho
  have hcl := cnt_le (t := t) (a := rd) (b := wr) hs
  refine ⟨p, _, c, rfl, ?_⟩
  generalize hxs : (List.range (cnt s t rd wr)).map (nth s t rd) = xs at hsl
  have hxl : xs.length = cnt s t rd wr := by rw [← hxs]; simp
  have hget : ∀ k (h : k < xs.length), xs[k] = nth s t rd k := by intro k h; subst hxs; simp
  refine ⟨fun (i : Int) w' => ∃ k : Nat, i = k ∧ k ≤ cnt s t rd wr ∧ Below w3.heap.size w3 w', fun (i : Int) _ => ((cnt s t rd wr : Int) - i).toNat, ⟨0, rfl, by omega, Below.refl _ _⟩, ?_⟩
  rintro i w' ⟨k, rfl, hk, hb⟩
  have hr := h3.ext hb
  have hs3 := hb.size
  have hbw := hb3.trans (hb.mono hb3.size)
  have hsx : Sl w' p (ints xs) := Sl.below hsl.1 hb fun a ha => by
    have := hlt a.block (by rw [ha]; rfl); omega
  unfold crierlaw02_RingOnce_l2
  refine cnd_i (fun h => ?_) fun h => ?_
  · have h := of_decide_eq_true h
    have hk' : k < xs.length := by omega
    obtain ⟨hm1, hm2, hp, hd⟩ := places hs (show 0 < cnt s t rd wr by omega)
    have hpk := hp k (by omega)
    unfold JoinT
    have hix : ∀ {K : Nat → Prop}, K k → ix (k : Int) (cnt s t rd wr) K := fun h => ⟨⟨by omega, by omega⟩, h⟩
    have hrd : Row w'.drew w.heap.size [.int .i64 s, .int .i64 t] T.t23 := hr
    refine ldI_i hrd rfl (ldI_i hrd rfl (hix (sl_ld (Sl.heap hsx rfl) hk' ?_)))
    rw [hget k hk']
    refine (may_plain s t (nth s t rd k) w'.drew).mono ?_
    rintro _ w4 ⟨rfl, hB4⟩
    have hb4 : Below w3.heap.size w3 w4 := hb.drew.trans (hB4.mono hs3)
    have hs4 := hb4.size
    have sl4 : Sl w4 p (ints xs) := Sl.below hsl.1 hb4 fun a ha => by have := hlt a.block (by rw [ha]; rfl); omega
    refine ⟨_, rfl, ?_⟩
    rw [hpk.1]
    refine cnd_i (fun h => by cases h) fun _ => hix (sl_ld sl4 hk' ?_)
    rw [hget k hk']
    refine cnd_i (fun h => absurd (by simpa using h) hpk.2) fun _ => ?_
    have hcn : cnt s t rd wr ≤ c := by
      rcases ho.2 with ⟨e, e'⟩ | ⟨g, cap, cur, e, _, _, hc1, _⟩
      · omega
      · cases e; exact hc1
    refine ⟨by simp, ?_, by simp, ?_⟩
    · intro x hx; cases hx; exact ⟨by omega, by simp; omega⟩
    simp only [Option.map_none, Option.getD_none, Option.map_some, Option.getD_some, Nat.zero_mul, Nat.sub_zero]
    rw [show ((k : Int)).toNat = k from rfl]
    refine hix (sl_ld sl4 hk' ?_)
    rw [hget k hk']
    have slk : Sl w4 (if c = 0 then p else p.map fun x => x.add 0) (ints (xs.take k)) := by
      intro j u hj
      have hj' : (ints xs)[j]? = some u := by
        simp only [ints, List.map_take, List.getElem?_take] at hj ⊢
        split at hj
        · exact hj
        · cases hj
      obtain ⟨a, ha, hc⟩ := sl4 j u hj'
      have ha0 : a.add 0 = a := by unfold Addr.add; split <;> simp_all
      refine ⟨a, ?_, hc⟩
      rw [ha]; split <;> simp [ha0]
    have hlk : (xs.take k).length = k := by simp; omega
    have hh := has_cv (w := w4) (c := c) (a := nth s t rd k) slk (by omega)
    rw [hlk] at hh
    refine hh.mono ?_
    rintro _ w5 ⟨rfl, hB5, e5⟩
    have hnot : nth s t rd k ∉ xs.take k := by
      intro hmem
      obtain ⟨j, hj, e⟩ := List.getElem_of_mem hmem
      rw [List.getElem_take] at e
      rw [hget j (by omega)] at e
      exact hd j k (by omega) (by omega) e
    have hb5 : Below w3.heap.size w3 w5 := hb4.trans (hB5.mono hs4)
    have hr5 := h3.ext hb5
    have sl5 : Sl w5 p (ints xs) := Sl.below hsl.1 hb5 fun a ha => by have := hlt a.block (by rw [ha]; rfl); omega
    refine ⟨_, rfl, cnd_i (fun h => absurd (of_decide_eq_true h) hnot) fun _ => ?_⟩
    refine ldI_i hr5 rfl (ldI_i hr5 rfl (hix (sl_ld sl5 hk' ?_)))
    rw [hget k hk']
    refine (waits_plain s t rd wr (nth s t rd k) w5).mono ?_
    rintro _ w6 ⟨rfl, hB6⟩
    have hb6 : Below w3.heap.size w3 w6 := hb5.trans (hB6.mono hb5.size)
    have hwt : waitsB s t rd wr (nth s t rd k) = true := by
      simp only [waitsB, hpk.1, Bool.true_and, List.any_eq_true, List.mem_range, beq_iff_eq]
      exact ⟨k, by omega, rfl⟩
    refine ⟨_, rfl, ?_⟩
    rw [hwt]
    unfold crierlaw02_RingOnce_j0
    refine cnd_i (fun h => by cases h) fun _ => ⟨⟨k + 1, ?_, by omega, hb6⟩, ?_⟩
    · rw [W_id (by omega) (by omega)]; rfl
    · rw [W_id (by omega) (by omega)]
      show ((cnt s t rd wr : Int) - ((k : Int) + 1)).toNat < ((cnt s t rd wr : Int) - (k : Int)).toNat
      omega
  · have h := of_decide_eq_false h
    unfold JoinT
    refine cnd_i (fun _ => cnd_i (fun _ => ⟨rfl, hbw⟩) fun h0 => ?_) fun h => by cases h
    have hpos : 0 < xs.length := by
      have : cnt s t rd wr ≠ 0 := by intro e; simp [e] at h0
      omega
    refine ⟨⟨by omega, by omega⟩, ?_⟩
    refine sl_ld hsx hpos ⟨?_, hbw⟩
    show Value.bool (xs[0] == rd) = _
    rw [hget 0 hpos]; simp [nth]
end Go.Proofs.Ytacklapiboeagaa
