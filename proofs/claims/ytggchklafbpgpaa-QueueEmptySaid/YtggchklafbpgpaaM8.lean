/-
  mem: what is written, read back as a number.
-/
import Derived.Test.YtggchklafbpgpaaM7
namespace Go.Proofs.Ytggchklafbpgpaa
open Go Go.RowKit X
set_option maxRecDepth 100000
set_option linter.unusedVariables false
def bytesOf (v : Int) (n : Nat) : List Int := (List.range n).map (byteI v)
theorem le_bytes (v : Int) (h : 0 ≤ v) : ∀ n, le (bytesOf v n) = v % 256 ^ n
  | 0 => by simp [bytesOf, le, Int.emod_one]
  | n + 1 => by
    have e : bytesOf v (n + 1) = bytesOf v n ++ [byteI v n] := by simp [bytesOf, List.range_succ]
    rw [e, le_append, le_bytes v h n]
    simp only [bytesOf, List.length_map, List.length_range, le, byteI, Int.mul_zero, Int.add_zero]
    have hp : (0 : Int) < 256 ^ n := Int.pow_pos (by omega)
    rw [Int.pow_succ]
    have h1 := Int.emod_add_mul_ediv v (256 ^ n)
    have h2 := Int.emod_add_mul_ediv (v / 256 ^ n) 256
    have h3 : v / 256 ^ n / 256 = v / (256 ^ n * 256) := Int.ediv_ediv_of_nonneg (Int.le_of_lt hp)
    have h4 := Int.emod_add_mul_ediv v (256 ^ n * 256)
    rw [h3] at h2
    have h5 : 256 ^ n * (256 * (v / (256 ^ n * 256))) = 256 ^ n * 256 * (v / (256 ^ n * 256)) := by rw [Int.mul_assoc]
    have h6 : 256 ^ n * (v / 256 ^ n) = 256 ^ n * (v / 256 ^ n % 256) + 256 ^ n * (256 * (v / (256 ^ n * 256))) := by
      conv => lhs; rw [← h2]
      rw [Int.mul_add]
    omega
theorem cut_wr {bs : List Int} {k n : Nat} (v : Int) (h : k + n ≤ bs.length) : cut (wr bs k v n) k n = bytesOf v n := by
  apply List.ext_getElem?
  intro j
  simp only [cut, List.getElem?_take, List.getElem?_drop, wr_get, bytesOf, List.getElem?_map]
  by_cases hj : j < n
  · rw [if_pos hj, if_pos (by omega)]; simp [hj]
  · rw [if_neg hj]; simp [hj]
def lawN (n : Int) : Nat := if n < 0 ∨ n > 4096 then 200 else n.toNat
theorem lawN_le (n : Int) : lawN n ≤ 4096 := by unfold lawN; split <;> omega
theorem lawNewX_cv {w : World} (n : Int) : CV P F.crierlaw04_New [.int .i64 n] w fun v w' => Below w.heap.size w w' ∧ ∃ (b d b' d' : Nat), v = .tuple [.pointer (some ⟨b, 0, none⟩), .pointer (some ⟨b', 0, none⟩)].toArray ∧
    MemAt w' (some ⟨b, 0, none⟩) b d (lawN n) (List.replicate (lawN n) 0) [] ∧ MemAt w' (some ⟨b', 0, none⟩) b' d' (lawN n) (List.replicate (lawN n) 0) [] ∧ w.heap.size ≤ b ∧ w.heap.size ≤ d ∧ b < d' ∧ d < d' ∧ b < b' ∧ d < b' := by
  refine crierlaw04_New_cv ?_
  unfold crierlaw04_New JoinT
  have go : ∀ m : Int, 0 ≤ m → m ≤ 4096 → lawN n = m.toNat → crierlaw04_New_j0 (fun v w' => Below w.heap.size w w' ∧ ∃ (b d b' d' : Nat), v = .tuple [.pointer (some ⟨b, 0, none⟩), .pointer (some ⟨b', 0, none⟩)].toArray ∧
    MemAt w' (some ⟨b, 0, none⟩) b d (lawN n) (List.replicate (lawN n) 0) [] ∧ MemAt w' (some ⟨b', 0, none⟩) b' d' (lawN n) (List.replicate (lawN n) 0) [] ∧ w.heap.size ≤ b ∧ w.heap.size ≤ d ∧ b < d' ∧ d < d' ∧ b < b' ∧ d < b') m w := by
    intro m h0 h1 hm0
    rw [hm0]
    unfold crierlaw04_New_j0
    refine (new_cv (w := w) m).mono ?_
    rintro _ w1 ⟨hB1, h⟩
    rw [if_pos (by omega)] at h
    obtain ⟨b, d, rfl, hm, hb, hd⟩ := h
    refine ⟨_, 0, rfl, cnd_i (fun h => by cases h) fun _ => ?_⟩
    unfold drw
    have hlt := hm.lt
    have hs1 := hB1.size
    refine make_i appBytes zeroByte (w := w1.drew) h0 (by omega) (by omega) fun w2 hB2 h2 hs2 => alc_i fun w3 hB3 h3 hs3 => ?_
    have e1 : w1.drew.heap.size = w1.heap.size := rfl
    have hB13 : Below w1.heap.size w1 w3 := ((Below.refl _ w1).drew.trans (hB2 _ (Nat.le_refl _))).trans (hB3 _ (by omega))
    refine ⟨hB1.trans (hB13.mono hs1), b, d, w2.heap.size, w1.heap.size, rfl, hm.ext hB13, ?_, hb, hd, hlt.1, hlt.2, by omega, by omega⟩
    have hb' : ∃ t, Row w3 w2.heap.size [.slice (some ⟨w1.heap.size, 0, none⟩) (List.replicate m.toNat (0 : Int)).length m.toNat] t := by rw [List.length_replicate]; exact ⟨_, h3⟩
    have hd' : ∃ t, Row w3 w1.heap.size (u8s (List.replicate m.toNat 0) ++ []) t := by
      have := h2.below (hB3 w2.heap.size (Nat.le_refl _)) (by omega)
      exact ⟨_, by simpa [u8s] using this⟩
    exact ⟨rfl, hb', hd', by simp, by omega, by intro x hx; rw [(List.mem_replicate.1 hx).2]; omega, by simp; omega⟩
  unfold crierlaw04_New_j1
  refine cnd_i (fun h => ?_) fun h => ?_
  · exact cnd_i (fun _ => go 200 (by omega) (by omega) (by unfold lawN; rw [if_pos (.inl (of_decide_eq_true h))]; rfl)) fun h => by cases h
  · have h := of_decide_eq_false h
    refine cnd_i (fun h' => go 200 (by omega) (by omega) (by unfold lawN; rw [if_pos (.inr (of_decide_eq_true h'))]; rfl)) fun h' => ?_
    have h' := of_decide_eq_false h'
    exact go n (by omega) (by omega) (by unfold lawN; rw [if_neg (by omega)])
theorem lawNewX_t (n : Int) : Tri P F.crierlaw04_New [.int .i64 n] [] fun v L' => ∃ b b', v = .tuple [ptr b, ptr b'].toArray ∧ L' = [memI b (List.replicate (lawN n) 0), memI b' (List.replicate (lawN n) 0)] := by
  intro w S hS
  refine (lawNewX_cv n).mono fun v w' ⟨hB, b, d, b', d', e, hm, hm', g1, g2, g3, g4, g5, g6⟩ => ⟨_, ⟨b, b', e, rfl⟩, ?_⟩
  have hs := hm.lt
  have hs' := hm'.lt
  have H0 := (Own.start hS).grow hB
  obtain ⟨T, e1, e2, e3⟩ := H0
  have hT := Sep.lt hS
  refine ⟨fun k => (k = b ∨ k = d) ∨ (k = b' ∨ k = d'), ⟨fun k => k = b ∨ k = d, fun k => k = b' ∨ k = d', ⟨d, _, [], hm, fun _ => Iff.rfl⟩, sep_one.2 ⟨d', _, [], hm', fun _ => Iff.rfl⟩, ?_, fun _ => Iff.rfl⟩, e2, ?_⟩
  · have := hm.hne
    have := hm'.hne
    rintro k (rfl | rfl) (h | h) <;> omega
  · rintro k ((rfl | rfl) | (rfl | rfl)) <;> exact .inr (by omega)
end Go.Proofs.Ytggchklafbpgpaa
