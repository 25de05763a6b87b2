/-
  mem: a number is written; a memory is made.
-/
import Derived.Test.YtggchklafbpgpaaM2
namespace Go.Proofs.Ytggchklafbpgpaa
open Go Go.RowKit X
set_option maxRecDepth 100000
set_option linter.unusedVariables false
def byteI (v : Int) (i : Nat) : Int := (v / 256 ^ i) % 256
theorem byteI_range (v : Int) (i : Nat) : 0 ≤ byteI v i ∧ byteI v i < 256 := ⟨Int.emod_nonneg _ (by omega), Int.emod_lt_of_pos _ (by omega)⟩
theorem byte_eq {v : Int} {i : Nat} (hi : i < 8) : IntKind.u8.wrap (Int.fdiv v (2 ^ min (Int.toNat (IntKind.i64.wrap (8 * (i : Int)))) IntKind.u64.bits)) = byteI v i := by
  have e1 : IntKind.i64.wrap (8 * (i : Int)) = 8 * i := W_id (by omega) (by omega)
  have e2 : min (8 * (i : Int)).toNat IntKind.u64.bits = 8 * i := by simp [IntKind.bits]; omega
  rw [e1, e2]
  have hp : (2 : Int) ^ (8 * i) = 256 ^ i := by rw [Int.pow_mul]; rfl
  have hpos : (0 : Int) ≤ 256 ^ i := Int.le_of_lt (Int.pow_pos (by omega))
  rw [hp, Int.fdiv_eq_ediv_of_nonneg _ hpos]
  simp [IntKind.wrap, IntKind.signed, IntKind.bits, byteI]
/-- n bytes of a number, put from a place on -/
def wr (bs : List Int) (k : Nat) (v : Int) : Nat → List Int
  | 0 => bs
  | i + 1 => (wr bs k v i).set (k + i) (byteI v i)
theorem wr_length (bs : List Int) (k : Nat) (v : Int) : ∀ i, (wr bs k v i).length = bs.length
  | 0 => rfl
  | i + 1 => by simp [wr, wr_length bs k v i]
theorem wr_range {bs : List Int} (h : ∀ x ∈ bs, 0 ≤ x ∧ x < 256) (k : Nat) (v : Int) : ∀ i, ∀ x ∈ wr bs k v i, 0 ≤ x ∧ x < 256
  | 0, x, hx => h x hx
  | i + 1, x, hx => by
    rcases List.mem_or_eq_of_mem_set hx with hx | rfl
    · exact wr_range h k v i x hx
    · exact byteI_range v i
theorem wr_get (bs : List Int) (k : Nat) (v : Int) : ∀ (i j : Nat), (wr bs k v i)[j]? = if k ≤ j ∧ j < k + i ∧ j < bs.length then some (byteI v (j - k)) else bs[j]?
  | 0, j => by simp [wr]; omega
  | i + 1, j => by
    simp only [wr, List.getElem?_set, wr_length, wr_get bs k v i j]
    by_cases e : k + i = j
    · subst e
      by_cases h : k + i < bs.length
      · simp [h]
      · rw [if_pos rfl, if_neg h, if_neg (by omega)]
        simp; omega
    · rw [if_neg e]
      by_cases h : k ≤ j ∧ j < k + i ∧ j < bs.length
      · rw [if_pos h, if_pos (by omega)]
      · rw [if_neg h, if_neg (by omega)]
def writeM (bs : List Int) (a s o n v : Int) : List Int := if errE bs.length a s o n = 0 then wr bs (a + o).toNat v n.toNat else bs
theorem writeM_length {bs : List Int} {a s o n v : Int} : (writeM bs a s o n v).length = bs.length := by
  unfold writeM; split
  · exact wr_length _ _ _ _
  · rfl
theorem write_cv {w : World} {p : Option Addr} {b d c : Nat} {bs : List Int} {rest : List Value} (hm : MemAt w p b d c bs rest) (a s o n v : Int) :
    CV P F.mem_Mem_Write [.pointer p, winV a s, .int .i64 o, .int .i64 n, .int .u64 v] w fun r w' => r = .int .i64 (errE bs.length a s o n) ∧ Out (fun k => k = d) w w' ∧ MemAt w' p b d c (writeM bs a s o n v) rest := by
  refine mem_Mem_Write_cv ?_
  unfold mem_Mem_Write
  refine alc_i fun w1 hB1 h1 hs1 => ?_
  have hb1 := hB1 _ (Nat.le_refl _)
  have hm1 := hm.ext hb1
  refine ldI_i h1 rfl (ldI_i h1 rfl ?_)
  refine (part_cv hm1 a s o n).mono ?_
  rintro _ w2 ⟨rfl, hB2⟩
  have hm2 := hm1.ext hB2
  have hb2 := hb1.trans (hB2.mono hb1.size)
  by_cases he : errE bs.length a s o n = 0
  · obtain ⟨a0, o0, hn, ht, hlen, _, _, _⟩ := errE_ok he hm.hl
    refine ⟨some ⟨d, (a + o).toNat, none⟩, n.toNat, c - (a + o).toNat, 0, by simp [partV, he], ?_⟩
    refine ⟨fun (i' : Int) w' => ∃ i : Nat, i ≤ n.toNat ∧ i' = i ∧ Out (fun k => k = d) w w' ∧ MemAt w' p b d c (wr bs (a + o).toNat v i) rest, fun (i' : Int) _ => (n - i').toNat, ⟨0, by omega, rfl, Out.pure hb2, hm2⟩, ?_⟩
    rintro _ w' ⟨i, hi, rfl, hO, hmi⟩
    unfold mem_Mem_Write_l0
    refine cnd_i (fun h => ?_) fun h => ⟨?_, hO, ?_⟩
    · have h := of_decide_eq_true h
      have hin : i < n.toNat := by omega
      refine ⟨by rw [W_id (by omega) (by omega)]; omega, ⟨by omega, by omega⟩, ?_⟩
      rw [show ((i : Int)).toNat = i from rfl]
      obtain ⟨td, rd⟩ := hmi.hd
      have hwl := wr_length bs (a + o).toNat v i
      have hk : (a + o).toNat + i < bs.length := by omega
      show st1 _ _ _ _
      rw [add_lit, Nat.mul_one, byte_eq (by omega)]
      refine st1_i rd (by rw [List.length_append, u8s_length]; omega) fun w3 hB3 e3 hs3 h3 => ⟨⟨i + 1, by omega, ?_, ?_, ?_⟩, ?_⟩
      · rw [W_id (by omega) (by omega)]; rfl
      · refine hO.trans ⟨(hB3 0 (by omega)).os, (hB3 0 (by omega)).tape, (hB3 0 (by omega)).output, by omega, fun k _ hk => e3 k hk⟩
      · refine ⟨hmi.hp, ?_, ⟨td, ?_⟩, by rw [hmi.hc]; simp [wr_length], hmi.hne, wr_range hm.hr _ _ _, by rw [wr_length]; exact hm.hl⟩
        · obtain ⟨tb, rb⟩ := hmi.hb
          refine ⟨tb, ?_⟩
          rw [show (wr bs (a + o).toNat v (i + 1)).length = (wr bs (a + o).toNat v i).length by simp [wr_length]]
          unfold Row; rw [e3 _ hmi.hne]; exact rb
        · rw [mem_set (by omega)] at h3
          exact h3
      · show (n - IntKind.i64.wrap ((i : Int) + 1)).toNat < (n - (i : Int)).toNat
        rw [W_id (by omega) (by omega)]; omega
    · rw [he]
    · have h := of_decide_eq_false h
      have : i = n.toNat := by omega
      subst this
      rw [writeM, if_pos he]; exact hmi
  · refine ⟨none, 0, 0, errE bs.length a s o n, by simp [partV, he], ?_⟩
    refine ⟨fun (st : Int) w' => st = 0 ∧ w' = w2, fun _ _ => 0, ⟨rfl, rfl⟩, ?_⟩
    rintro _ _ ⟨rfl, rfl⟩
    unfold mem_Mem_Write_l0
    refine cnd_i (fun h => by simp at h) fun h => ⟨rfl, Out.pure hb2, ?_⟩
    rw [writeM, if_neg he]; exact hm2
/-- a new memory -/
theorem new_cv {w : World} (n : Int) : CV P F.mem_New [.int .i64 n] w fun v w' => Below w.heap.size w w' ∧
    (if 0 ≤ n ∧ n ≤ 131072 then ∃ b d, v = .tuple [.pointer (some ⟨b, 0, none⟩), .int .i64 0].toArray ∧ MemAt w' (some ⟨b, 0, none⟩) b d n.toNat (List.replicate n.toNat 0) [] ∧ w.heap.size ≤ b ∧ w.heap.size ≤ d
      else v = .tuple [.pointer none, .int .i64 1].toArray) := by
  refine mem_New_cv ?_
  unfold mem_New JoinT
  have hB := Below.refl w.heap.size w
  have bad : ¬ (0 ≤ n ∧ n ≤ 131072) → mem_New_j0 n (fun v w' => Below w.heap.size w w' ∧
    (if 0 ≤ n ∧ n ≤ 131072 then ∃ b d, v = .tuple [.pointer (some ⟨b, 0, none⟩), .int .i64 0].toArray ∧ MemAt w' (some ⟨b, 0, none⟩) b d n.toNat (List.replicate n.toNat 0) [] ∧ w.heap.size ≤ b ∧ w.heap.size ≤ d
      else v = .tuple [.pointer none, .int .i64 1].toArray)) true w := by
    intro h
    unfold mem_New_j0
    exact cnd_i (fun _ => ⟨hB, by rw [if_neg h]⟩) fun h => by cases h
  refine cnd_i (fun h => bad (by have h := of_decide_eq_true h; omega)) fun h => ?_
  have h := of_decide_eq_false h
  cases h2 : decide (n > 131072)
  · have h2 := of_decide_eq_false h2
    unfold mem_New_j0
    refine cnd_i (fun h => by cases h) fun _ => ?_
    refine make_i appBytes zeroByte (by omega) (by omega) (by omega) fun w1 hB1 h1 hs1 => alc_i fun w2 hB2 h2' hs2 => ⟨(hB1 _ (Nat.le_refl _)).trans (hB2 _ (by omega)), ?_⟩
    rw [if_pos (by omega)]
    have hb' : ∃ t, Row w2 w1.heap.size [.slice (some ⟨w.heap.size, 0, none⟩) (List.replicate n.toNat (0 : Int)).length n.toNat] t := by rw [List.length_replicate]; exact ⟨_, h2'⟩
    have hd' : ∃ t, Row w2 w.heap.size (u8s (List.replicate n.toNat 0) ++ []) t := by
      have := h1.below (hB2 w1.heap.size (Nat.le_refl _)) (by omega)
      exact ⟨_, by simpa [u8s] using this⟩
    refine ⟨w1.heap.size, w.heap.size, rfl, ⟨rfl, hb', hd', by simp, by omega, ?_, by simp; omega⟩, by omega, Nat.le_refl _⟩
    intro x hx; rw [(List.mem_replicate.1 hx).2]; omega
  · have h2 := of_decide_eq_true h2
    exact bad (by omega)
end Go.Proofs.Ytggchklafbpgpaa
