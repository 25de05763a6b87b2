/-
  mem: numbers of bytes, read and written.
-/
import Derived.Test.YtggchklafbpgpaaM1
namespace Go.Proofs.Ytggchklafbpgpaa
open Go Go.RowKit X
set_option maxRecDepth 100000
set_option linter.unusedVariables false
/-- the number of a row of bytes, the lowest first -/
def le : List Int → Int
  | [] => 0
  | x :: r => x + 256 * le r
theorem le_nonneg {bs : List Int} (h : ∀ x ∈ bs, 0 ≤ x ∧ x < 256) : 0 ≤ le bs ∧ le bs < 256 ^ bs.length := by
  induction bs with
  | nil => simp [le]
  | cons x r ih =>
    obtain ⟨h1, h2⟩ := ih fun y hy => h y (by simp [hy])
    have hx := h x (by simp)
    simp only [le, List.length_cons, Int.pow_succ]
    omega
theorem le_append (a b : List Int) : le (a ++ b) = le a + 256 ^ a.length * le b := by
  induction a with
  | nil => simp [le]
  | cons x r ih => simp only [List.cons_append, le, ih, List.length_cons, Int.pow_succ, Int.mul_add]; rw [Int.mul_comm (256 ^ r.length) 256, Int.mul_assoc]; omega
theorem or_add {a x : Int} {i : Nat} (hi : i < 8) (ha : 0 ≤ a ∧ a < 256 ^ i) (hx : 0 ≤ x ∧ x < 256) :
    bitX .or .u64 a (IntKind.u64.wrap (IntKind.u64.wrap x * 2 ^ min (Int.toNat (IntKind.i64.wrap (8 * (i : Int)))) IntKind.u64.bits)) = a + 256 ^ i * x := by
  have e1 : IntKind.i64.wrap (8 * (i : Int)) = 8 * i := W_id (by omega) (by omega)
  have e2 : min (8 * (i : Int)).toNat IntKind.u64.bits = 8 * i := by simp [IntKind.bits]; omega
  rw [e1, e2]
  obtain ⟨m, rfl⟩ := Int.eq_ofNat_of_zero_le ha.1
  obtain ⟨y, rfl⟩ := Int.eq_ofNat_of_zero_le hx.1
  have hm : m < 256 ^ i := by have := ha.2; exact_mod_cast this
  have hy : y < 256 := by omega
  have hp : (256 : Nat) ^ i = 2 ^ (8 * i) := by rw [Nat.pow_mul]
  have hle : 2 ^ (8 * i) ≤ 2 ^ 56 := Nat.pow_le_pow_right (by omega) (by omega)
  have hprod : y * 2 ^ (8 * i) ≤ 255 * 2 ^ 56 := Nat.mul_le_mul (by omega) hle
  have w1 : IntKind.u64.wrap (y : Int) = y := by simp [IntKind.wrap, IntKind.signed, IntKind.bits]; omega
  rw [w1]
  have hc : ((y : Int) * 2 ^ (8 * i)) = ((y * 2 ^ (8 * i) : Nat) : Int) := by push_cast; rfl
  rw [hc]
  generalize hk : y * 2 ^ (8 * i) = k at *
  have w2 : IntKind.u64.wrap (k : Int) = k := by simp [IntKind.wrap, IntKind.signed, IntKind.bits]; omega
  rw [w2]
  have hor : k ||| m = k + m := by
    rw [← hk, ← Nat.shiftLeft_eq]; exact (Nat.shiftLeft_add_eq_or_of_lt (by rw [← hp]; exact hm) y).symm
  have hm64 : m < 2 ^ 64 := by rw [hp] at hm; omega
  have hb : (BitVec.ofInt 64 (m : Int) ||| BitVec.ofInt 64 (k : Int)).toNat = m + k := by
    rw [BitVec.toNat_or, BitVec.ofInt_natCast, BitVec.ofInt_natCast, BitVec.toNat_ofNat, BitVec.toNat_ofNat, Nat.mod_eq_of_lt hm64, Nat.mod_eq_of_lt (by omega), Nat.or_comm, hor, Nat.add_comm]
  show IntKind.u64.wrap _ = _
  have hb' : (BitVec.ofInt (IntKind.u64).bits (m : Int) ||| BitVec.ofInt (IntKind.u64).bits (k : Int)).toNat = m + k := hb
  rw [hb']
  have w3 : IntKind.u64.wrap ((m + k : Nat) : Int) = (m + k : Nat) := by
    simp [IntKind.wrap, IntKind.signed, IntKind.bits]
    rw [hp] at hm; omega
  rw [w3, ← hk, hp.symm]
  push_cast
  rw [Int.mul_comm (y : Int)]
/-- what stands in a row of bytes from a place on -/
def cut (bs : List Int) (k n : Nat) : List Int := (bs.drop k).take n
theorem cut_length {bs : List Int} {k n : Nat} (h : k + n ≤ bs.length) : (cut bs k n).length = n := by simp [cut]; omega
theorem cut_succ {bs : List Int} {k n : Nat} (h : k + n < bs.length) : cut bs k (n + 1) = cut bs k n ++ [bs[k + n]] := by
  unfold cut
  rw [List.take_succ_eq_append_getElem (by simp; omega)]
  simp
theorem cut_mem {bs : List Int} {k n : Nat} {x : Int} (h : x ∈ cut bs k n) : x ∈ bs := List.mem_of_mem_drop (List.mem_of_mem_take h)
def readV (bs : List Int) (a s o n : Int) : Value := if errE bs.length a s o n = 0 then .tuple [.int .u64 (le (cut bs (a + o).toNat n.toNat)), .int .i64 0].toArray else .tuple [.int .u64 0, .int .i64 (errE bs.length a s o n)].toArray
theorem read_cv {w : World} {p : Option Addr} {b d c : Nat} {bs : List Int} {rest : List Value} (hm : MemAt w p b d c bs rest) (a s o n : Int) :
    CV P F.mem_Mem_Read [.pointer p, winV a s, .int .i64 o, .int .i64 n] w fun v w' => v = readV bs a s o n ∧ Below w.heap.size w w' := by
  refine mem_Mem_Read_cv ?_
  unfold mem_Mem_Read
  refine alc_i fun w1 hB1 h1 hs1 => ?_
  have hb1 := hB1 _ (Nat.le_refl _)
  have hm1 := hm.ext hb1
  refine ldI_i h1 rfl (ldI_i h1 rfl ?_)
  refine (part_cv hm1 a s o n).mono ?_
  rintro _ w2 ⟨rfl, hB2⟩
  have hm2 := hm1.ext hB2
  have hb2 := hb1.trans (hB2.mono hb1.size)
  by_cases he : errE bs.length a s o n = 0
  · obtain ⟨a0, o0, hn, ht, hlen, _, _, _⟩ := errE_ok he hm.hl
    refine ⟨some ⟨d, (a + o).toNat, none⟩, n.toNat, c - (a + o).toNat, 0, by simp [partV, he], ?_⟩
    refine ⟨fun (st : Int × Int) w' => ∃ i : Nat, i ≤ n.toNat ∧ st.2 = i ∧ st.1 = le (cut bs (a + o).toNat i) ∧ w' = w2, fun (st : Int × Int) _ => (n - st.2).toNat, ⟨0, by omega, rfl, by simp [cut, le], rfl⟩, ?_⟩
    rintro ⟨acc, i'⟩ _ ⟨i, hi, hi', hacc, rfl⟩
    simp only at hi' hacc
    subst hi' hacc
    unfold mem_Mem_Read_l0
    refine cnd_i (fun h => ?_) fun h => ⟨?_, hb2⟩
    · have h := of_decide_eq_true h
      have hin : i < n.toNat := by omega
      refine ⟨⟨by omega, by omega⟩, ?_⟩
      rw [show ((i : Int)).toNat = i from rfl]
      obtain ⟨td, rd⟩ := hm2.hd
      have hk : (a + o).toNat + i < bs.length := by omega
      show ldI _ _ _ _
      rw [add_lit, Nat.mul_one]
      refine ldI_i rd (n := bs[(a + o).toNat + i]) (mem_get hk) ?_
      refine ⟨by rw [W_id (by omega) (by omega)]; omega, ⟨i + 1, by omega, ?_, ?_, rfl⟩, ?_⟩
      · show IntKind.i64.wrap ((i : Int) + 1) = ((i + 1 : Nat) : Int)
        rw [W_id (by omega) (by omega)]; rfl
      · show bitX .or .u64 _ _ = _
        have hr := hm.hr
        have hle := le_nonneg (bs := cut bs (a + o).toNat i) fun x hx => hr x (cut_mem hx)
        rw [cut_length (by omega)] at hle
        rw [or_add (by omega) hle (hr _ (List.getElem_mem hk)), cut_succ hk, le_append, cut_length (by omega)]
        simp [le]
      · show (n - IntKind.i64.wrap ((i : Int) + 1)).toNat < (n - (i : Int)).toNat
        rw [W_id (by omega) (by omega)]; omega
    · have h := of_decide_eq_false h
      have : i = n.toNat := by omega
      subst this
      simp [readV, he]
  · refine ⟨none, 0, 0, errE bs.length a s o n, by simp [partV, he], ?_⟩
    refine ⟨fun (st : Int × Int) w' => st = (0, 0) ∧ w' = w2, fun _ _ => 0, ⟨rfl, rfl⟩, ?_⟩
    rintro _ _ ⟨rfl, rfl⟩
    unfold mem_Mem_Read_l0
    refine cnd_i (fun h => by simp at h) fun h => ⟨?_, hb2⟩
    simp [readV, he]
end Go.Proofs.Ytggchklafbpgpaa
