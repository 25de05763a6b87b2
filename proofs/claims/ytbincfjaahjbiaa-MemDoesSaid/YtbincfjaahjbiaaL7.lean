/-
  mem: what is written is read, whatever was done before: MemBack.
-/
import Derived.Test.YtbincfjaahjbiaaL6
namespace Go.Proofs.Ytbincfjaahjbiaa
open Go Go.RowKit X
set_option maxRecDepth 100000
set_option linter.unusedVariables false
theorem doM_length (bs : List Int) (k a s o n v : Int) (xs : List Int) : (doM bs k a s o n v xs).1.length = bs.length := by
  unfold doM
  split
  · exact writeM_length
  · split
    · split
      · rename_i h
        simp only [Bool.and_eq_true, decide_eq_true_eq, holdsB_iff] at h
        exact over_length (by omega)
      · rfl
    · split
      · split
        · rename_i h
          rw [holdsB_iff] at h
          exact over_length (by simp; omega)
        · rfl
      · rfl
theorem memBack_cv {w : World} {p : Option Addr} {m c : Nat} (hacts : Acts w p m) (hm : m ≤ 9223372036854775807) (n0 a s o n v : Int) (hv : 0 ≤ v ∧ v < 2 ^ 64) :
    CV P F.crierlaw04_MemBack [.int .i64 n0, .slice p m c, winV a s, .int .i64 o, .int .i64 n, .int .u64 v] w fun r w' => r = .bool true ∧ Below w.heap.size w w' := by
  refine crierlaw04_MemBack_cv ?_
  unfold crierlaw04_MemBack
  refine alc_i fun w1 hB1 h1 hs1 => ?_
  have hb1 := hB1 _ (Nat.le_refl _)
  refine (awake_plain w1).mono ?_
  rintro _ w2 ⟨rfl, hB2⟩
  have h2 := h1.ext hB2
  have hb2 := hb1.trans (hB2.mono hb1.size)
  refine ⟨true, rfl, cnd_i (fun h => by cases h) fun _ => ?_⟩
  refine (lawNew_cv (w := w2) n0).mono ?_
  rintro _ w3 ⟨hB3, b, d, b', d', N, hN, rfl, hm3, _, hbg, hdg, _⟩
  have h3 := h2.ext hB3
  have hb3 := hb2.trans (hB3.mono hb2.size)
  have hs2 := hb2.size
  have hw2 := h2.lt
  refine ⟨some ⟨b, 0, none⟩, some ⟨b', 0, none⟩, rfl, ?_⟩
  unfold JoinT
  refine cnd_i (fun h => by cases h) fun _ => ?_
  unfold crierlaw04_MemBack_j6
  refine cnd_i (fun h => by cases h) fun _ => ?_
  refine ⟨fun (i : Int) w' => ∃ k : Nat, i = k ∧ k ≤ m ∧ Below w.heap.size w w' ∧ Row w' w.heap.size [.int .i64 a, .int .i64 s] T.t23 ∧ ∃ bs, bs.length = N ∧ MemAt w' (some ⟨b, 0, none⟩) b d N bs [], fun (i : Int) _ => ((m : Int) - i).toNat,
    ⟨0, rfl, by omega, hb3, h3, _, by simp, hm3⟩, ?_⟩
  rintro _ w' ⟨k, rfl, hk, hb, hr, bs, hbl, hmm⟩
  unfold crierlaw04_MemBack_l5
  refine cnd_i (fun h => ?_) fun h => ?_
  · have h := of_decide_eq_true h
    refine ⟨⟨by omega, by omega⟩, ?_⟩
    rw [show ((k : Int)).toNat = k from rfl]
    obtain ⟨ad, k', x', s', o', n', v', q', c', xs', rfl, hact⟩ := hacts k (by omega)
    obtain ⟨e0, e1, e2, e3, e4, e5, e6, e7, e8, e9⟩ := hact.ext hb
    refine ⟨_, e0, _, e1, _, e2, _, e3, _, e4, _, e5, _, _, _, e6, ?_⟩
    refine (does_cv hmm k' x' s' o' n' v' e7 e8 e9.1).mono ?_
    rintro _ w4 ⟨rfl, hO, hm4⟩
    refine ⟨_, rfl, ⟨k + 1, ?_, by omega, hb.trans (hO.below (by have := hb.size; omega) (by intro y hy; omega)), hr.out hO (by omega), _, by rw [doM_length]; exact hbl, hm4⟩, ?_⟩
    · rw [W_id (by omega) (by omega)]; rfl
    · rw [W_id (by omega) (by omega)]
      show ((m : Int) - ((k : Int) + 1)).toNat < ((m : Int) - (k : Int)).toNat
      omega
  · refine ldI_i hr rfl (ldI_i hr rfl ?_)
    refine (write_cv hmm a s o n v).mono ?_
    rintro _ w4 ⟨rfl, hO, hm4⟩
    have h4 := hr.out hO (by omega)
    have hb4 := hb.trans (hO.below (B := w.heap.size) (by have := hb.size; omega) (by intro y hy; omega))
    refine ⟨_, rfl, cnd_i (fun _ => ⟨rfl, hb4⟩) fun he => ?_⟩
    have he : errE bs.length a s o n = 0 := by simpa using he
    obtain ⟨a0, o0, hn, ht, hlen, g6, g7, g8⟩ := errE_ok he hmm.hl
    refine ldI_i h4 rfl (ldI_i h4 rfl ?_)
    refine (read_cv hm4 a s o n).mono ?_
    rintro _ w5 ⟨rfl, hB5⟩
    have h5 := h4.ext hB5
    have hm5 := hm4.ext hB5
    have hb5 := hb4.trans (hB5.mono hb4.size)
    have hwl : (writeM bs a s o n v).length = bs.length := writeM_length
    have hwm : writeM bs a s o n v = wr bs (a + o).toNat v n.toNat := by rw [writeM, if_pos he]
    have hval : le (cut (writeM bs a s o n v) (a + o).toNat n.toNat) = v % 256 ^ n.toNat := by
      rw [hwm, cut_wr v (by omega), le_bytes v hv.1]
    refine ⟨v % 256 ^ n.toNat, 0, by rw [readV, hwl, if_pos he, hval], ?_⟩
    have last : ∀ want, want = v % 256 ^ n.toNat → crierlaw04_MemBack_j3 o n v (fun r w' => r = .bool true ∧ Below w.heap.size w w') w.heap.size (some ⟨b, 0, none⟩) (v % 256 ^ n.toNat) 0 want w5 := by
      rintro _ rfl
      unfold crierlaw04_MemBack_j3
      refine ⟨fun (i : Int) w' => ∃ k : Nat, i = k ∧ (k : Int) ≤ n ∧ Below w.heap.size w w' ∧ Row w' w.heap.size [.int .i64 a, .int .i64 s] T.t23 ∧ MemAt w' (some ⟨b, 0, none⟩) b d N (writeM bs a s o n v) [], fun (i : Int) _ => (n - i).toNat,
        ⟨0, rfl, by omega, hb5, h5, hm5⟩, ?_⟩
      rintro _ w6 ⟨i, rfl, hi, hb6, h6, hm6⟩
      unfold crierlaw04_MemBack_l2
      refine cnd_i (fun h => ?_) fun h => ?_
      · have h := of_decide_eq_true h
        refine ldI_i h6 rfl (ldI_i h6 rfl ?_)
        rw [W_id (n := o + i) (by omega) (by omega)]
        refine (read_cv hm6 a s (o + i) 1).mono ?_
        rintro _ w7 ⟨rfl, hB7⟩
        have hb7 := hb6.trans (hB7.mono hb6.size)
        have he1 : errE bs.length a s (o + i) 1 = 0 := by
          have hh : holdsB bs.length a s = true := holdsB_iff.2 (by omega)
          unfold errE mayE
          rw [if_pos hh, if_neg (by omega), if_neg (by simp), if_neg]
          rw [W_id (by omega) (by omega)]; omega
        have hone : le (cut (writeM bs a s o n v) (a + (o + i)).toNat (1 : Int).toNat) = byteI v i := by
          rw [hwm, show (a + (o + (i : Int))).toNat = (a + o).toNat + i by omega]
          exact cut_wr_one v (by omega) (by omega)
        refine ⟨byteI v i, 0, by rw [readV, hwl, if_pos he1, hone], ?_⟩
        unfold JoinT
        refine cnd_i (fun h => by cases h) fun _ => ?_
        rw [W_id (n := 8 * (i : Int)) (by omega) (by omega)]
        refine ⟨by omega, ?_⟩
        have e2 : min (8 * (i : Int)).toNat IntKind.u64.bits = 8 * i := by simp [IntKind.bits]; omega
        have hp : (2 : Int) ^ (8 * i) = 256 ^ i := by rw [Int.pow_mul]; rfl
        have hpos : (0 : Int) < 256 ^ i := Int.pow_pos (by omega)
        have hand : bitX .and .u64 (Int.fdiv v (2 ^ min (8 * (i : Int)).toNat IntKind.u64.bits)) 255 = byteI v i := by
          rw [e2, hp, Int.fdiv_eq_ediv_of_nonneg _ (Int.le_of_lt hpos)]
          have h1 : 0 ≤ v / 256 ^ i := Int.ediv_nonneg hv.1 (Int.le_of_lt hpos)
          have h2 : v / 256 ^ i ≤ v := Int.ediv_le_self _ hv.1
          exact and_low h1 (by omega) 8 (by omega)
        rw [hand]
        unfold crierlaw04_MemBack_j0
        refine cnd_i (fun h => by simp at h) fun _ => ⟨⟨i + 1, ?_, by omega, hb7, h6.ext hB7, hm6.ext hB7⟩, ?_⟩
        · rw [W_id (by omega) (by omega)]; rfl
        · rw [W_id (by omega) (by omega)]
          show (n - ((i : Int) + 1)).toNat < (n - (i : Int)).toNat
          omega
      · unfold JoinT
        refine cnd_i (fun _ => ?_) fun h => by cases h
        exact ⟨by simp, hb6⟩
    unfold JoinT
    have j4 : ∀ x, (n = 1 → x = v % 256 ^ n.toNat) → (n = 8 → x = v % 256 ^ n.toNat) → crierlaw04_MemBack_j4 o n v (fun r w' => r = .bool true ∧ Below w.heap.size w w') w.heap.size (some ⟨b, 0, none⟩) (v % 256 ^ n.toNat) 0 x w5 := by
      intro x hx1 hx8
      unfold crierlaw04_MemBack_j4 JoinT
      refine cnd_i (fun h => last _ ?_) fun h => last _ ?_
      · have h : n = 4 := by simpa using h
        subst h
        exact and_low hv.1 hv.2 32 (by omega)
      · have h : n ≠ 4 := by simpa using h
        rcases hn with h' | h' | h'
        · exact hx1 h'
        · exact absurd h' h
        · exact hx8 h'
    refine cnd_i (fun h => j4 _ (fun h' => ?_) fun h' => ?_) fun h => j4 _ (fun h' => ?_) fun h' => ?_
    · subst h'; exact and_low hv.1 hv.2 8 (by omega)
    · have h : n = 1 := by simpa using h
      omega
    · have h : n ≠ 1 := by simpa using h
      omega
    · subst h'
      rw [show (256 : Int) ^ (8 : Int).toNat = 18446744073709551616 from by decide]
      omega
end Go.Proofs.Ytbincfjaahjbiaa
