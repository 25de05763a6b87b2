/-
  mem: whether a memory holds a window, whether an access may be, the part of the bytes that it is about.
-/
import Derived.Test.YtggmapokmlbgbaaDoorTy
import Derived.Test.YtggmapokmlbgbaaDoorA1
import Derived.Test.YtggmapokmlbgbaaDoorS6
namespace Go.Proofs.YtggmapokmlbgbaaDoor
open Go Go.RowKit X
set_option maxRecDepth 100000
set_option linter.unusedVariables false
def Plain (f : FuncId) (args : List Value) (v : Value) : Prop := ∀ w, CV P f args w fun v' w' => v' = v ∧ Below w.heap.size w w'
def winV (a s : Int) : Value := .agg [.int .i64 a, .int .i64 s].toArray
/-- a memory: its variable b, its bytes' block d; what room there is behind them -/
structure MemAt (w : World) (p : Option Addr) (b d c : Nat) (bs : List Int) (rest : List Value) : Prop where
  hp : p = some ⟨b, 0, none⟩
  hb : ∃ t, Row w b [.slice (some ⟨d, 0, none⟩) bs.length c] t
  hd : ∃ t, Row w d ((u8s bs ++ rest)) t
  hc : c = bs.length + rest.length
  hne : b ≠ d
  hr : ∀ x ∈ bs, 0 ≤ x ∧ x < 256
  hl : bs.length ≤ 131072
theorem mem_get {bs : List Int} {rest : List Value} {k : Nat} (h : k < bs.length) : (u8s bs ++ rest)[k]? = some (.int .u8 bs[k]) := by
  rw [List.getElem?_append_left (by rw [u8s_length]; exact h), u8s_get h]
theorem mem_set {bs : List Int} {rest : List Value} {k : Nat} {n : Int} (h : k < bs.length) : (u8s bs ++ rest).set k (.int .u8 n) = u8s (bs.set k n) ++ rest := by
  rw [List.set_append_left _ _ (by rw [u8s_length]; exact h), u8s_set]
theorem MemAt.ext {w w' : World} {p : Option Addr} {b d c : Nat} {bs : List Int} {rest : List Value} (h : MemAt w p b d c bs rest) (hB : Below w.heap.size w w') : MemAt w' p b d c bs rest :=
  ⟨h.hp, let ⟨t, r⟩ := h.hb; ⟨t, r.ext hB⟩, let ⟨t, r⟩ := h.hd; ⟨t, r.ext hB⟩, h.hc, h.hne, h.hr, h.hl⟩
theorem MemAt.heap {w w' : World} {p : Option Addr} {b d c : Nat} {bs : List Int} {rest : List Value} (h : MemAt w p b d c bs rest) (hb : w'.heap[b]? = w.heap[b]?) (hd : w'.heap[d]? = w.heap[d]?) : MemAt w' p b d c bs rest :=
  ⟨h.hp, let ⟨t, r⟩ := h.hb; ⟨t, by unfold Row; rw [hb]; exact r⟩, let ⟨t, r⟩ := h.hd; ⟨t, by unfold Row; rw [hd]; exact r⟩, h.hc, h.hne, h.hr, h.hl⟩
theorem MemAt.lt {w : World} {p : Option Addr} {b d c : Nat} {bs : List Int} {rest : List Value} (h : MemAt w p b d c bs rest) : b < w.heap.size ∧ d < w.heap.size :=
  ⟨let ⟨t, r⟩ := h.hb; r.lt, let ⟨t, r⟩ := h.hd; r.lt⟩
def holdsB (n : Nat) (a s : Int) : Bool := decide (0 ≤ a) && (decide (0 ≤ s) && (decide (s ≤ n) && decide (a ≤ n - s)))
theorem holdsB_iff {n : Nat} {a s : Int} : holdsB n a s = true ↔ 0 ≤ a ∧ 0 ≤ s ∧ s ≤ n ∧ a ≤ n - s := by simp [holdsB]
theorem holds_cv {w : World} {p : Option Addr} {b d c : Nat} {bs : List Int} {rest : List Value} (hm : MemAt w p b d c bs rest) (a s : Int) :
    CV P F.mem_Mem_Holds [.pointer p, winV a s] w fun v w' => v = .bool (holdsB bs.length a s) ∧ Below w.heap.size w w' := by
  refine mem_Mem_Holds_cv ?_
  unfold mem_Mem_Holds
  refine alc_i fun w1 hB1 h1 hs1 => ?_
  have hb1 := (hB1 _ (Nat.le_refl _)).drew
  have hm1 := hm.ext (hB1 _ (Nat.le_refl _))
  obtain ⟨tb, rb⟩ := hm1.hb
  have hp := hm.hp
  have hl := hm.hl
  subst hp
  unfold JoinT
  refine ldI_i h1.drew rfl (cnd_i (fun h => ?_) fun h => ⟨?_, hb1⟩)
  · refine ldI_i h1.drew rfl (cnd_i (fun h' => ?_) fun h' => ⟨?_, hb1⟩)
    · refine ldI_i h1.drew rfl (ldL_i rb.drew rfl (cnd_i (fun h2 => ?_) fun h2 => ⟨?_, hb1⟩))
      · refine ldI_i h1.drew rfl (ldL_i rb.drew rfl (ldI_i h1.drew rfl ⟨?_, hb1⟩))
        have h := of_decide_eq_true h
        have h' := of_decide_eq_true h'
        have h2 := of_decide_eq_true h2
        rw [W_id (by omega) (by omega)]
        simp [holdsB, show 0 ≤ a by omega, show 0 ≤ s by omega, h2]
      · have h2 := of_decide_eq_false h2
        have : holdsB bs.length a s = false := by
          cases hh : holdsB bs.length a s
          · rfl
          · rw [holdsB_iff] at hh; omega
        rw [this]
    · have h' := of_decide_eq_false h'
      have : holdsB bs.length a s = false := by
        cases hh : holdsB bs.length a s
        · rfl
        · rw [holdsB_iff] at hh; omega
      rw [this]
  · have h := of_decide_eq_false h
    have : holdsB bs.length a s = false := by
      cases hh : holdsB bs.length a s
      · rfl
      · rw [holdsB_iff] at hh; omega
    rw [this]
def mayE (s o n : Int) : Int := if n ≠ 1 ∧ n ≠ 4 ∧ n ≠ 8 then 40 else if Int.tmod o n ≠ 0 then 41 else if o < 0 ∨ o > IntKind.i64.wrap (s - n) then 42 else 0
theorem may_plain (s o n : Int) : Plain F.mem_May [.int .i64 s, .int .i64 o, .int .i64 n] (.int .i64 (mayE s o n)) := by
  intro w
  refine mem_May_cv ?_
  unfold mem_May JoinT
  have hB := Below.refl w.heap.size w
  have good : (n = 1 ∨ n = 4 ∨ n = 8) → mem_May_j1 s o n (fun v' w' => v' = .int .i64 (mayE s o n) ∧ Below w.heap.size w w') false w := by
    intro hn
    unfold mem_May_j1
    refine cnd_i (fun h => by cases h) fun _ => ⟨by omega, ?_⟩
    refine cnd_i (fun h => ⟨?_, hB⟩) fun h => ?_
    · have h : Int.tmod o n ≠ 0 := by simpa using h
      rw [mayE, if_neg (by omega), if_pos h]
    have h : Int.tmod o n = 0 := by simpa using h
    unfold JoinT mem_May_j0
    refine cnd_i (fun h' => cnd_i (fun _ => ⟨?_, hB⟩) fun h => by cases h) fun h' => cnd_i (fun h2 => ⟨?_, hB⟩) fun h2 => ⟨?_, hB⟩
    · have h' := of_decide_eq_true h'
      rw [mayE, if_neg (by omega), if_neg (by omega), if_pos (by omega)]
    · have h2 := of_decide_eq_true h2
      rw [mayE, if_neg (by omega), if_neg (by omega), if_pos (by omega)]
    · have h' := of_decide_eq_false h'
      have h2 := of_decide_eq_false h2
      rw [mayE, if_neg (by omega), if_neg (by omega), if_neg (by omega)]
  refine cnd_i (fun h => cnd_i (fun h' => ?_) fun h' => ?_) fun h => ?_
  · have h : n ≠ 1 := by simpa using h
    have h' : n ≠ 4 := by simpa using h'
    cases h2 : (n != 8)
    · exact good (by have : n = 8 := by simpa using h2
                     omega)
    · have h2 : n ≠ 8 := by simpa using h2
      exact ⟨by rw [mayE, if_pos (by omega)], hB⟩
  · exact good (by have : n = 4 := by simpa using h'
                   omega)
  · exact good (by have : n = 1 := by simpa using h
                   omega)
/-- why an access is refused; 0: it is not -/
def errE (len : Nat) (a s o n : Int) : Int := if holdsB len a s then mayE s o n else 42
theorem errE_ok {len : Nat} {a s o n : Int} (h : errE len a s o n = 0) (hl : len ≤ 131072) : 0 ≤ a ∧ 0 ≤ o ∧ (n = 1 ∨ n = 4 ∨ n = 8) ∧ Int.tmod o n = 0 ∧ a + o + n ≤ len ∧ s ≤ len ∧ o + n ≤ s ∧ a + s ≤ len := by
  unfold errE at h
  split at h
  · rename_i hh
    rw [holdsB_iff] at hh
    unfold mayE at h
    split at h
    · omega
    · split at h
      · omega
      · split at h
        · omega
        · rename_i h1 h2 h3
          have hn : n = 1 ∨ n = 4 ∨ n = 8 := by omega
          rw [W_id (by omega) (by omega)] at h3
          exact ⟨by omega, by omega, hn, by omega, by omega, by omega, by omega, by omega⟩
  · omega
def partV (len c d : Nat) (a s o n : Int) : Value := if errE len a s o n = 0 then .tuple [.slice (some ⟨d, (a + o).toNat, none⟩) n.toNat (c - (a + o).toNat), .int .i64 0].toArray else .tuple [.slice none 0 0, .int .i64 (errE len a s o n)].toArray
theorem part_cv {w : World} {p : Option Addr} {b d c : Nat} {bs : List Int} {rest : List Value} (hm : MemAt w p b d c bs rest) (a s o n : Int) :
    CV P F.mem_Mem_part [.pointer p, winV a s, .int .i64 o, .int .i64 n] w fun v w' => v = partV bs.length c d a s o n ∧ Below w.heap.size w w' := by
  refine mem_Mem_part_cv ?_
  unfold mem_Mem_part
  refine alc_i fun w1 hB1 h1 hs1 => ?_
  have hb1 := hB1 _ (Nat.le_refl _)
  have hm1 := hm.ext hb1
  refine ldI_i h1 rfl (ldI_i h1 rfl ?_)
  refine (holds_cv hm1 a s).mono ?_
  rintro _ w2 ⟨rfl, hB2⟩
  have h2 := h1.ext hB2
  have hm2 := hm1.ext hB2
  have hb2 := hb1.trans (hB2.mono hb1.size)
  refine ⟨_, rfl, ?_⟩
  cases hh : holdsB bs.length a s
  · refine ⟨?_, hb2⟩
    have : errE bs.length a s o n = 42 := by simp [errE, hh]
    simp [partV, this]
  refine cnd_i (fun h => by cases h) fun _ => ldI_i h2 rfl ?_
  refine (may_plain s o n w2).mono ?_
  rintro _ w3 ⟨rfl, hB3⟩
  have h3 := h2.ext hB3
  have hm3 := hm2.ext hB3
  have hb3 := hb2.trans (hB3.mono hb2.size)
  have he : errE bs.length a s o n = mayE s o n := by simp [errE, hh]
  refine ⟨_, rfl, cnd_i (fun h => ⟨?_, hb3⟩) fun h => ?_⟩
  · have h : mayE s o n ≠ 0 := by simpa using h
    simp [partV, he, h]
  have h : mayE s o n = 0 := by simpa using h
  have hz : errE bs.length a s o n = 0 := by rw [he, h]
  obtain ⟨a0, o0, hn, ht, hlen, _, _, _⟩ := errE_ok hz hm.hl
  have hl := hm.hl
  obtain ⟨tb, rb⟩ := hm3.hb
  have hp := hm.hp
  subst hp
  refine ldL_i rb.drew rfl (ldI_i h3.drew rfl (ldI_i h3.drew rfl ?_))
  have hc := hm.hc
  rw [W_id (n := a + o) (by omega) (by omega), W_id (n := a + o + n) (by omega) (by omega)]
  refine ⟨by simp, ?_, ?_, ?_⟩
  · intro x hx; cases hx; exact ⟨by omega, by simp; omega⟩
  · intro x hx; cases hx; exact ⟨by omega, by simp; omega⟩
  · refine ⟨?_, hb3.drew⟩
    have e1 : c ≠ (a + o).toNat := by omega
    have e2 : (a + o + n).toNat - (a + o).toNat = n.toNat := by omega
    simp [partV, hz, e1, e2, add_lit]
end Go.Proofs.YtggmapokmlbgbaaDoor
/-
  mem: numbers of bytes, read and written.
-/
namespace Go.Proofs.YtggmapokmlbgbaaDoor
open Go Go.RowKit X
set_option maxRecDepth 100000
set_option linter.unusedVariables false
/-- the number of a row of bytes, the lowest first -/
def le : List Int → Int
  | [] => 0
  | x :: r => x + 256 * le r
theorem le_nonneg {bs : List Int} (h : ∀ x ∈ bs, 0 ≤ x ∧ x < 256) : 0 ≤ le bs ∧ le bs < 256 ^ bs.length := by
  induction bs with
  | nil => simp [le]
  | cons x r ih =>
    obtain ⟨h1, h2⟩ := ih fun y hy => h y (by simp [hy])
    have hx := h x (by simp)
    simp only [le, List.length_cons, Int.pow_succ]
    omega
theorem le_append (a b : List Int) : le (a ++ b) = le a + 256 ^ a.length * le b := by
  induction a with
  | nil => simp [le]
  | cons x r ih => simp only [List.cons_append, le, ih, List.length_cons, Int.pow_succ, Int.mul_add]; rw [Int.mul_comm (256 ^ r.length) 256, Int.mul_assoc]; omega
theorem or_add {a x : Int} {i : Nat} (hi : i < 8) (ha : 0 ≤ a ∧ a < 256 ^ i) (hx : 0 ≤ x ∧ x < 256) :
    bitX .or .u64 a (IntKind.u64.wrap (IntKind.u64.wrap x * 2 ^ min (Int.toNat (IntKind.i64.wrap (8 * (i : Int)))) IntKind.u64.bits)) = a + 256 ^ i * x := by
  have e1 : IntKind.i64.wrap (8 * (i : Int)) = 8 * i := W_id (by omega) (by omega)
  have e2 : min (8 * (i : Int)).toNat IntKind.u64.bits = 8 * i := by simp [IntKind.bits]; omega
  rw [e1, e2]
  obtain ⟨m, rfl⟩ := Int.eq_ofNat_of_zero_le ha.1
  obtain ⟨y, rfl⟩ := Int.eq_ofNat_of_zero_le hx.1
  have hm : m < 256 ^ i := by have := ha.2; exact_mod_cast this
  have hy : y < 256 := by omega
  have hp : (256 : Nat) ^ i = 2 ^ (8 * i) := by rw [Nat.pow_mul]
  have hle : 2 ^ (8 * i) ≤ 2 ^ 56 := Nat.pow_le_pow_right (by omega) (by omega)
  have hprod : y * 2 ^ (8 * i) ≤ 255 * 2 ^ 56 := Nat.mul_le_mul (by omega) hle
  have w1 : IntKind.u64.wrap (y : Int) = y := by simp [IntKind.wrap, IntKind.signed, IntKind.bits]; omega
  rw [w1]
  have hc : ((y : Int) * 2 ^ (8 * i)) = ((y * 2 ^ (8 * i) : Nat) : Int) := by push_cast; rfl
  rw [hc]
  generalize hk : y * 2 ^ (8 * i) = k at *
  have w2 : IntKind.u64.wrap (k : Int) = k := by simp [IntKind.wrap, IntKind.signed, IntKind.bits]; omega
  rw [w2]
  have hor : k ||| m = k + m := by
    rw [← hk, ← Nat.shiftLeft_eq]; exact (Nat.shiftLeft_add_eq_or_of_lt (by rw [← hp]; exact hm) y).symm
  have hm64 : m < 2 ^ 64 := by rw [hp] at hm; omega
  have hb : (BitVec.ofInt 64 (m : Int) ||| BitVec.ofInt 64 (k : Int)).toNat = m + k := by
    rw [BitVec.toNat_or, BitVec.ofInt_natCast, BitVec.ofInt_natCast, BitVec.toNat_ofNat, BitVec.toNat_ofNat, Nat.mod_eq_of_lt hm64, Nat.mod_eq_of_lt (by omega), Nat.or_comm, hor, Nat.add_comm]
  show IntKind.u64.wrap _ = _
  have hb' : (BitVec.ofInt (IntKind.u64).bits (m : Int) ||| BitVec.ofInt (IntKind.u64).bits (k : Int)).toNat = m + k := hb
  rw [hb']
  have w3 : IntKind.u64.wrap ((m + k : Nat) : Int) = (m + k : Nat) := by
    simp [IntKind.wrap, IntKind.signed, IntKind.bits]
    rw [hp] at hm; omega
  rw [w3, ← hk, hp.symm]
  push_cast
  rw [Int.mul_comm (y : Int)]
/-- what stands in a row of bytes from a place on -/
def cut (bs : List Int) (k n : Nat) : List Int := (bs.drop k).take n
theorem cut_length {bs : List Int} {k n : Nat} (h : k + n ≤ bs.length) : (cut bs k n).length = n := by simp [cut]; omega
theorem cut_succ {bs : List Int} {k n : Nat} (h : k + n < bs.length) : cut bs k (n + 1) = cut bs k n ++ [bs[k + n]] := by
  unfold cut
  rw [List.take_succ_eq_append_getElem (by simp; omega)]
  simp
theorem cut_mem {bs : List Int} {k n : Nat} {x : Int} (h : x ∈ cut bs k n) : x ∈ bs := List.mem_of_mem_drop (List.mem_of_mem_take h)
def readV (bs : List Int) (a s o n : Int) : Value := if errE bs.length a s o n = 0 then .tuple [.int .u64 (le (cut bs (a + o).toNat n.toNat)), .int .i64 0].toArray else .tuple [.int .u64 0, .int .i64 (errE bs.length a s o n)].toArray
theorem read_cv {w : World} {p : Option Addr} {b d c : Nat} {bs : List Int} {rest : List Value} (hm : MemAt w p b d c bs rest) (a s o n : Int) :
    CV P F.mem_Mem_Read [.pointer p, winV a s, .int .i64 o, .int .i64 n] w fun v w' => v = readV bs a s o n ∧ Below w.heap.size w w' := by
  refine mem_Mem_Read_cv ?_
  unfold mem_Mem_Read
  refine alc_i fun w1 hB1 h1 hs1 => ?_
  have hb1 := hB1 _ (Nat.le_refl _)
  have hm1 := hm.ext hb1
  refine ldI_i h1 rfl (ldI_i h1 rfl ?_)
  refine (part_cv hm1 a s o n).mono ?_
  rintro _ w2 ⟨rfl, hB2⟩
  have hm2 := hm1.ext hB2
  have hb2 := hb1.trans (hB2.mono hb1.size)
  by_cases he : errE bs.length a s o n = 0
  · obtain ⟨a0, o0, hn, ht, hlen, _, _, _⟩ := errE_ok he hm.hl
    refine ⟨some ⟨d, (a + o).toNat, none⟩, n.toNat, c - (a + o).toNat, 0, by simp [partV, he], ?_⟩
    refine ⟨fun (st : Int × Int) w' => ∃ i : Nat, i ≤ n.toNat ∧ st.2 = i ∧ st.1 = le (cut bs (a + o).toNat i) ∧ w' = w2, fun (st : Int × Int) _ => (n - st.2).toNat, ⟨0, by omega, rfl, by simp [cut, le], rfl⟩, ?_⟩
    rintro ⟨acc, i'⟩ _ ⟨i, hi, hi', hacc, rfl⟩
    simp only at hi' hacc
    subst hi' hacc
    unfold mem_Mem_Read_l0
    refine cnd_i (fun h => ?_) fun h => ⟨?_, hb2⟩
    · have h := of_decide_eq_true h
      have hin : i < n.toNat := by omega
      refine ⟨⟨by omega, by omega⟩, ?_⟩
      rw [show ((i : Int)).toNat = i from rfl]
      obtain ⟨td, rd⟩ := hm2.hd
      have hk : (a + o).toNat + i < bs.length := by omega
      show ldI _ _ _ _
      rw [add_lit, Nat.mul_one]
      refine ldI_i rd (n := bs[(a + o).toNat + i]) (mem_get hk) ?_
      refine ⟨by rw [W_id (by omega) (by omega)]; omega, ⟨i + 1, by omega, ?_, ?_, rfl⟩, ?_⟩
      · show IntKind.i64.wrap ((i : Int) + 1) = ((i + 1 : Nat) : Int)
        rw [W_id (by omega) (by omega)]; rfl
      · show bitX .or .u64 _ _ = _
        have hr := hm.hr
        have hle := le_nonneg (bs := cut bs (a + o).toNat i) fun x hx => hr x (cut_mem hx)
        rw [cut_length (by omega)] at hle
        rw [or_add (by omega) hle (hr _ (List.getElem_mem hk)), cut_succ hk, le_append, cut_length (by omega)]
        simp [le]
      · show (n - IntKind.i64.wrap ((i : Int) + 1)).toNat < (n - (i : Int)).toNat
        rw [W_id (by omega) (by omega)]; omega
    · have h := of_decide_eq_false h
      have : i = n.toNat := by omega
      subst this
      simp [readV, he]
  · refine ⟨none, 0, 0, errE bs.length a s o n, by simp [partV, he], ?_⟩
    refine ⟨fun (st : Int × Int) w' => st = (0, 0) ∧ w' = w2, fun _ _ => 0, ⟨rfl, rfl⟩, ?_⟩
    rintro _ _ ⟨rfl, rfl⟩
    unfold mem_Mem_Read_l0
    refine cnd_i (fun h => by simp at h) fun h => ⟨?_, hb2⟩
    simp [readV, he]
end Go.Proofs.YtggmapokmlbgbaaDoor
/-
  mem: a number is written; a memory is made.
-/
namespace Go.Proofs.YtggmapokmlbgbaaDoor
open Go Go.RowKit X
set_option maxRecDepth 100000
set_option linter.unusedVariables false
def byteI (v : Int) (i : Nat) : Int := (v / 256 ^ i) % 256
theorem byteI_range (v : Int) (i : Nat) : 0 ≤ byteI v i ∧ byteI v i < 256 := ⟨Int.emod_nonneg _ (by omega), Int.emod_lt_of_pos _ (by omega)⟩
theorem byte_eq {v : Int} {i : Nat} (hi : i < 8) : IntKind.u8.wrap (Int.fdiv v (2 ^ min (Int.toNat (IntKind.i64.wrap (8 * (i : Int)))) IntKind.u64.bits)) = byteI v i := by
  have e1 : IntKind.i64.wrap (8 * (i : Int)) = 8 * i := W_id (by omega) (by omega)
  have e2 : min (8 * (i : Int)).toNat IntKind.u64.bits = 8 * i := by simp [IntKind.bits]; omega
  rw [e1, e2]
  have hp : (2 : Int) ^ (8 * i) = 256 ^ i := by rw [Int.pow_mul]; rfl
  have hpos : (0 : Int) ≤ 256 ^ i := Int.le_of_lt (Int.pow_pos (by omega))
  rw [hp, Int.fdiv_eq_ediv_of_nonneg _ hpos]
  simp [IntKind.wrap, IntKind.signed, IntKind.bits, byteI]
/-- n bytes of a number, put from a place on -/
def wr (bs : List Int) (k : Nat) (v : Int) : Nat → List Int
  | 0 => bs
  | i + 1 => (wr bs k v i).set (k + i) (byteI v i)
theorem wr_length (bs : List Int) (k : Nat) (v : Int) : ∀ i, (wr bs k v i).length = bs.length
  | 0 => rfl
  | i + 1 => by simp [wr, wr_length bs k v i]
theorem wr_range {bs : List Int} (h : ∀ x ∈ bs, 0 ≤ x ∧ x < 256) (k : Nat) (v : Int) : ∀ i, ∀ x ∈ wr bs k v i, 0 ≤ x ∧ x < 256
  | 0, x, hx => h x hx
  | i + 1, x, hx => by
    rcases List.mem_or_eq_of_mem_set hx with hx | rfl
    · exact wr_range h k v i x hx
    · exact byteI_range v i
theorem wr_get (bs : List Int) (k : Nat) (v : Int) : ∀ (i j : Nat), (wr bs k v i)[j]? = if k ≤ j ∧ j < k + i ∧ j < bs.length then some (byteI v (j - k)) else bs[j]?
  | 0, j => by simp [wr]; omega
  | i + 1, j => by
    simp only [wr, List.getElem?_set, wr_length, wr_get bs k v i j]
    by_cases e : k + i = j
    · subst e
      by_cases h : k + i < bs.length
      · simp [h]
      · rw [if_pos rfl, if_neg h, if_neg (by omega)]
        simp; omega
    · rw [if_neg e]
      by_cases h : k ≤ j ∧ j < k + i ∧ j < bs.length
      · rw [if_pos h, if_pos (by omega)]
      · rw [if_neg h, if_neg (by omega)]
def writeM (bs : List Int) (a s o n v : Int) : List Int := if errE bs.length a s o n = 0 then wr bs (a + o).toNat v n.toNat else bs
theorem writeM_length {bs : List Int} {a s o n v : Int} : (writeM bs a s o n v).length = bs.length := by
  unfold writeM; split
  · exact wr_length _ _ _ _
  · rfl
theorem write_cv {w : World} {p : Option Addr} {b d c : Nat} {bs : List Int} {rest : List Value} (hm : MemAt w p b d c bs rest) (a s o n v : Int) :
    CV P F.mem_Mem_Write [.pointer p, winV a s, .int .i64 o, .int .i64 n, .int .u64 v] w fun r w' => r = .int .i64 (errE bs.length a s o n) ∧ Out (fun k => k = d) w w' ∧ MemAt w' p b d c (writeM bs a s o n v) rest := by
  refine mem_Mem_Write_cv ?_
  unfold mem_Mem_Write
  refine alc_i fun w1 hB1 h1 hs1 => ?_
  have hb1 := hB1 _ (Nat.le_refl _)
  have hm1 := hm.ext hb1
  refine ldI_i h1 rfl (ldI_i h1 rfl ?_)
  refine (part_cv hm1 a s o n).mono ?_
  rintro _ w2 ⟨rfl, hB2⟩
  have hm2 := hm1.ext hB2
  have hb2 := hb1.trans (hB2.mono hb1.size)
  by_cases he : errE bs.length a s o n = 0
  · obtain ⟨a0, o0, hn, ht, hlen, _, _, _⟩ := errE_ok he hm.hl
    refine ⟨some ⟨d, (a + o).toNat, none⟩, n.toNat, c - (a + o).toNat, 0, by simp [partV, he], ?_⟩
    refine ⟨fun (i' : Int) w' => ∃ i : Nat, i ≤ n.toNat ∧ i' = i ∧ Out (fun k => k = d) w w' ∧ MemAt w' p b d c (wr bs (a + o).toNat v i) rest, fun (i' : Int) _ => (n - i').toNat, ⟨0, by omega, rfl, Out.pure hb2, hm2⟩, ?_⟩
    rintro _ w' ⟨i, hi, rfl, hO, hmi⟩
    unfold mem_Mem_Write_l0
    refine cnd_i (fun h => ?_) fun h => ⟨?_, hO, ?_⟩
    · have h := of_decide_eq_true h
      have hin : i < n.toNat := by omega
      refine ⟨by rw [W_id (by omega) (by omega)]; omega, ⟨by omega, by omega⟩, ?_⟩
      rw [show ((i : Int)).toNat = i from rfl]
      obtain ⟨td, rd⟩ := hmi.hd
      have hwl := wr_length bs (a + o).toNat v i
      have hk : (a + o).toNat + i < bs.length := by omega
      show st1 _ _ _ _
      rw [add_lit, Nat.mul_one, byte_eq (by omega)]
      refine st1_i rd (by rw [List.length_append, u8s_length]; omega) fun w3 hB3 e3 hs3 h3 => ⟨⟨i + 1, by omega, ?_, ?_, ?_⟩, ?_⟩
      · rw [W_id (by omega) (by omega)]; rfl
      · refine hO.trans ⟨(hB3 0 (by omega)).os, (hB3 0 (by omega)).tape, (hB3 0 (by omega)).output, by omega, fun k _ hk => e3 k hk⟩
      · refine ⟨hmi.hp, ?_, ⟨td, ?_⟩, by rw [hmi.hc]; simp [wr_length], hmi.hne, wr_range hm.hr _ _ _, by rw [wr_length]; exact hm.hl⟩
        · obtain ⟨tb, rb⟩ := hmi.hb
          refine ⟨tb, ?_⟩
          rw [show (wr bs (a + o).toNat v (i + 1)).length = (wr bs (a + o).toNat v i).length by simp [wr_length]]
          unfold Row; rw [e3 _ hmi.hne]; exact rb
        · rw [mem_set (by omega)] at h3
          exact h3
      · show (n - IntKind.i64.wrap ((i : Int) + 1)).toNat < (n - (i : Int)).toNat
        rw [W_id (by omega) (by omega)]; omega
    · rw [he]
    · have h := of_decide_eq_false h
      have : i = n.toNat := by omega
      subst this
      rw [writeM, if_pos he]; exact hmi
  · refine ⟨none, 0, 0, errE bs.length a s o n, by simp [partV, he], ?_⟩
    refine ⟨fun (st : Int) w' => st = 0 ∧ w' = w2, fun _ _ => 0, ⟨rfl, rfl⟩, ?_⟩
    rintro _ _ ⟨rfl, rfl⟩
    unfold mem_Mem_Write_l0
    refine cnd_i (fun h => by simp at h) fun h => ⟨rfl, Out.pure hb2, ?_⟩
    rw [writeM, if_neg he]; exact hm2
/-- a new memory -/
theorem new_cv {w : World} (n : Int) : CV P F.mem_New [.int .i64 n] w fun v w' => Below w.heap.size w w' ∧
    (if 0 ≤ n ∧ n ≤ 131072 then ∃ b d, v = .tuple [.pointer (some ⟨b, 0, none⟩), .int .i64 0].toArray ∧ MemAt w' (some ⟨b, 0, none⟩) b d n.toNat (List.replicate n.toNat 0) [] ∧ w.heap.size ≤ b ∧ w.heap.size ≤ d
      else v = .tuple [.pointer none, .int .i64 1].toArray) := by
  refine mem_New_cv ?_
  unfold mem_New JoinT
  have hB := Below.refl w.heap.size w
  have bad : ¬ (0 ≤ n ∧ n ≤ 131072) → mem_New_j0 n (fun v w' => Below w.heap.size w w' ∧
    (if 0 ≤ n ∧ n ≤ 131072 then ∃ b d, v = .tuple [.pointer (some ⟨b, 0, none⟩), .int .i64 0].toArray ∧ MemAt w' (some ⟨b, 0, none⟩) b d n.toNat (List.replicate n.toNat 0) [] ∧ w.heap.size ≤ b ∧ w.heap.size ≤ d
      else v = .tuple [.pointer none, .int .i64 1].toArray)) true w := by
    intro h
    unfold mem_New_j0
    exact cnd_i (fun _ => ⟨hB, by rw [if_neg h]⟩) fun h => by cases h
  refine cnd_i (fun h => bad (by have h := of_decide_eq_true h; omega)) fun h => ?_
  have h := of_decide_eq_false h
  cases h2 : decide (n > 131072)
  · have h2 := of_decide_eq_false h2
    unfold mem_New_j0
    refine cnd_i (fun h => by cases h) fun _ => ?_
    refine make_i appBytes zeroByte (by omega) (by omega) (by omega) fun w1 hB1 h1 hs1 => alc_i fun w2 hB2 h2' hs2 => ⟨(hB1 _ (Nat.le_refl _)).trans (hB2 _ (by omega)), ?_⟩
    rw [if_pos (by omega)]
    have hb' : ∃ t, Row w2 w1.heap.size [.slice (some ⟨w.heap.size, 0, none⟩) (List.replicate n.toNat (0 : Int)).length n.toNat] t := by rw [List.length_replicate]; exact ⟨_, h2'⟩
    have hd' : ∃ t, Row w2 w.heap.size (u8s (List.replicate n.toNat 0) ++ []) t := by
      have := h1.below (hB2 w1.heap.size (Nat.le_refl _)) (by omega)
      exact ⟨_, by simpa [u8s] using this⟩
    refine ⟨w1.heap.size, w.heap.size, rfl, ⟨rfl, hb', hd', by simp, by omega, ?_, by simp; omega⟩, by omega, Nat.le_refl _⟩
    intro x hx; rw [(List.mem_replicate.1 hx).2]; omega
  · have h2 := of_decide_eq_true h2
    exact bad (by omega)
end Go.Proofs.YtggmapokmlbgbaaDoor
/-
  mem: bytes read, put and wiped; copies.
-/
namespace Go.Proofs.YtggmapokmlbgbaaDoor
open Go Go.RowKit X
set_option maxRecDepth 100000
set_option linter.unusedVariables false
theorem u8s_one (bs : List Int) : ∀ u ∈ u8s bs, u.oneCell' = true := by
  intro u hu
  obtain ⟨x, _, rfl⟩ := List.mem_map.1 hu
  rfl
theorem clone_cv {w : World} {p : Option Addr} {c : Nat} {xs : List Int} (hx : Sl w p (u8s xs)) (hl : xs.length ≤ 140737488355328) :
    CV P F.slices_Clone__byte_byte [.slice p xs.length c] w fun v w' => Below w.heap.size w w' ∧ ∃ p' c', v = .slice p' xs.length c' ∧ w'.ownsRow w.heap.size tByte 1 (.slice p' xs.length c') xs.length (u8s xs) ∧ (p.isSome = true → p'.isSome = true) := by
  refine slices_Clone__byte_byte_cv ?_
  unfold slices_Clone__byte_byte
  refine cnd_i (fun h => ?_) fun h => ?_
  · have : p = none := by cases p <;> simp_all
    subst this
    have := sl_nil hx
    have : xs = [] := by cases xs <;> simp_all [u8s]
    subst this
    exact ⟨Below.refl _ _, none, 0, rfl, World.ownsRow_nil _ _ _ _, id⟩
  · refine alc_i fun w1 hB1 h1 hs1 => ?_
    have hx1 : Sl w1 p (u8s xs) := by
      intro j u hj
      obtain ⟨a, ha, hc⟩ := hx j u hj
      refine ⟨a, ha, ?_⟩
      have hlt := World.block_lt_of_cell? w _ hc
      rw [(hB1 _ (Nat.le_refl _)).cell hlt]; exact hc
    have hown : w1.ownsRow 0 tByte 1 (.slice (some ⟨w.heap.size, 0, none⟩) 0 0) 0 [] :=
      ⟨by simp, .inr ⟨w.heap.size, 0, #[], rfl, Nat.zero_le _, h1, Nat.le_refl _, by simp [maxLen], by simp, by simp⟩⟩
    obtain ⟨p', c', w2, hr, ho, hg, hk, hsome⟩ := app_fresh (P := P) (c2 := c) appBytes (by omega) hown hx1 (m := xs.length) (by rw [u8s_length]; simp) (u8s_one xs) (by unfold maxLen; omega) (by omega) (ty := tBytes)
    refine ⟨p', 0 + xs.length, c', w2, hr, ?_⟩
    refine ⟨(hB1 _ (Nat.le_refl _)).grown hg (by omega) (by intro k hk; simp [Value.ownBlock] at hk; omega), p', c', by simp, ?_, fun _ => hsome rfl⟩
    simp only [Nat.zero_add, List.nil_append] at ho hk
    refine ⟨ho.1, ?_⟩
    rcases ho.2 with h | ⟨g, cap, cur, e1, _, e3⟩
    · exact .inl h
    · refine .inr ⟨g, cap, cur, e1, ?_, e3⟩
      cases e1
      rcases hk g rfl with h | h
      · simp only [Value.ownBlock, Option.some.injEq] at h; omega
      · omega
/-- a part of a memory's bytes, as a slice -/
theorem part_sl {w : World} {p : Option Addr} {b d c : Nat} {bs : List Int} {rest : List Value} (hm : MemAt w p b d c bs rest) {k n : Nat} (h : k + n ≤ bs.length) : Sl w (if c = k then some ⟨d, 0, none⟩ else some ⟨d, k, none⟩) (u8s (cut bs k n)) := by
  intro j u hj
  have hj' : j < n := by
    have := (List.getElem?_eq_some_iff.1 hj).1
    rw [u8s_length, cut_length h] at this; exact this
  have hc := hm.hc
  rw [if_neg (by omega)]
  refine ⟨_, rfl, ?_⟩
  obtain ⟨td, rd⟩ := hm.hd
  rw [add_lit, rd.cell, mem_get (by omega)]
  rw [u8s_get (by rw [cut_length h]; exact hj')] at hj
  rw [← hj]
  congr 2
  simp [cut]
theorem bytes_cv {w : World} {p : Option Addr} {b d c : Nat} {bs : List Int} {rest : List Value} (hm : MemAt w p b d c bs rest) (a s : Int) :
    CV P F.mem_Mem_Bytes [.pointer p, winV a s] w fun v w' => Below w.heap.size w w' ∧
      (if holdsB bs.length a s then ∃ p' c', v = .tuple [.slice p' s.toNat c', .int .i64 0].toArray ∧ w'.ownsRow w.heap.size tByte 1 (.slice p' s.toNat c') s.toNat (u8s (cut bs a.toNat s.toNat))
        else v = .tuple [.slice none 0 0, .int .i64 42].toArray) := by
  refine mem_Mem_Bytes_cv ?_
  unfold mem_Mem_Bytes
  refine alc_i fun w1 hB1 h1 hs1 => ?_
  have hb1 := hB1 _ (Nat.le_refl _)
  have hm1 := hm.ext hb1
  refine ldI_i h1 rfl (ldI_i h1 rfl ?_)
  refine (holds_cv hm1 a s).mono ?_
  rintro _ w2 ⟨rfl, hB2⟩
  have h2 := h1.ext hB2
  have hm2 := hm1.ext hB2
  have hb2 := hb1.trans (hB2.mono hb1.size)
  refine ⟨_, rfl, ?_⟩
  cases hh : holdsB bs.length a s
  · exact ⟨hb2, by simp⟩
  refine cnd_i (fun h => by cases h) fun _ => ?_
  obtain ⟨g1, g2, g3, g4⟩ := holdsB_iff.1 hh
  have hl := hm.hl
  have hc := hm.hc
  obtain ⟨tb, rb⟩ := hm2.hb
  have hp := hm.hp
  subst hp
  unfold drw
  refine ldL_i rb.drew rfl (ldI_i h2.drew rfl (ldI_i h2.drew rfl (ldI_i h2.drew rfl ?_)))
  rw [W_id (n := a + s) (by omega) (by omega)]
  refine ⟨by simp, ?_, ?_, ?_⟩
  · intro x hx; cases hx; exact ⟨by omega, by simp; omega⟩
  · intro x hx; cases hx; exact ⟨by omega, by simp; omega⟩
  have hsl := part_sl (w := w2.drew) (hm2.heap rfl rfl) (k := a.toNat) (n := s.toNat) (by omega)
  have hcl : (cut bs a.toNat s.toNat).length = s.toNat := cut_length (by omega)
  have hcv := clone_cv (c := c - a.toNat) hsl (by rw [hcl]; omega)
  rw [hcl] at hcv
  have e1 : (a + s).toNat - a.toNat = s.toNat := by omega
  simp only [Option.map_some, Option.getD_some, Option.map_none, Option.getD_none, e1, Nat.mul_one, add_lit, Nat.zero_add]
  refine hcv.mono ?_
  rintro _ w3 ⟨hB3, p', c', rfl, ho, _⟩
  refine ⟨p', _, c', rfl, hb2.drew.trans (hB3.mono hb2.size), ?_⟩
  rw [if_pos trivial]
  refine ⟨p', c', rfl, ho.1, ?_⟩
  rcases ho.2 with h | ⟨g, cap, cur, h3, h4, h5⟩
  · exact .inl h
  · exact .inr ⟨g, cap, cur, h3, by have := hb2.size; have : w2.drew.heap.size = w2.heap.size := rfl; omega, h5⟩
/-- bytes put over others from a place on -/
def over (bs : List Int) (k : Nat) (xs : List Int) : List Int := bs.take k ++ xs ++ bs.drop (k + xs.length)
theorem over_length {bs xs : List Int} {k : Nat} (h : k + xs.length ≤ bs.length) : (over bs k xs).length = bs.length := by simp [over]; omega
theorem over_nil {bs : List Int} {k : Nat} : over bs k [] = bs := by simp [over]
theorem splice_u8s {bs xs : List Int} {rest : List Value} {k : Nat} (h : k + xs.length ≤ bs.length) : splice ((u8s bs ++ rest)) k (u8s xs) = u8s (over bs k xs) ++ rest := by
  simp only [splice, over, u8s_append, u8s_length]
  rw [List.take_append_of_le_length (by rw [u8s_length]; omega), List.drop_append_of_le_length (by rw [u8s_length]; omega)]
  simp [u8s]
theorem over_range {bs xs : List Int} {k : Nat} (h : ∀ x ∈ bs, 0 ≤ x ∧ x < 256) (h' : ∀ x ∈ xs, 0 ≤ x ∧ x < 256) : ∀ x ∈ over bs k xs, 0 ≤ x ∧ x < 256 := by
  intro x hx
  simp only [over, List.mem_append] at hx
  rcases hx with (hx | hx) | hx
  · exact h x (List.mem_of_mem_take hx)
  · exact h' x hx
  · exact h x (List.mem_of_mem_drop hx)
/-- a memory whose bytes' row was turned in part -/
theorem MemAt.turned {w w' : World} {p : Option Addr} {b d c : Nat} {bs xs : List Int} {rest : List Value} {k : Nat} {td : TypeId} (hm : MemAt w p b d c bs rest) (h : k + xs.length ≤ bs.length) (hx : ∀ x ∈ xs, 0 ≤ x ∧ x < 256)
    (hd : Row w' d (splice ((u8s bs ++ rest)) k (u8s xs)) td) (ho : ∀ k, k ≠ d → w'.heap[k]? = w.heap[k]?) : MemAt w' p b d c (over bs k xs) rest := by
  obtain ⟨tb, rb⟩ := hm.hb
  refine ⟨hm.hp, ⟨tb, ?_⟩, ⟨td, ?_⟩, by rw [hm.hc, over_length h], hm.hne, over_range hm.hr hx, by rw [over_length h]; exact hm.hl⟩
  · rw [over_length h]; unfold Row; rw [ho _ hm.hne]; exact rb
  · rw [splice_u8s h] at hd; exact hd
theorem wipe_cv {w : World} {p : Option Addr} {b d c : Nat} {bs : List Int} {rest : List Value} (hm : MemAt w p b d c bs rest) (a s : Int) :
    CV P F.mem_Mem_Wipe [.pointer p, winV a s] w fun v w' => v = .int .i64 (if holdsB bs.length a s then 0 else 42) ∧ Out (fun k => k = d) w w' ∧
      MemAt w' p b d c (if holdsB bs.length a s then over bs a.toNat (List.replicate s.toNat 0) else bs) rest := by
  refine mem_Mem_Wipe_cv ?_
  unfold mem_Mem_Wipe
  refine alc_i fun w1 hB1 h1 hs1 => ?_
  have hb1 := hB1 _ (Nat.le_refl _)
  have hm1 := hm.ext hb1
  refine ldI_i h1 rfl (ldI_i h1 rfl ?_)
  refine (holds_cv hm1 a s).mono ?_
  rintro _ w2 ⟨rfl, hB2⟩
  have h2 := h1.ext hB2
  have hm2 := hm1.ext hB2
  have hb2 := hb1.trans (hB2.mono hb1.size)
  refine ⟨_, rfl, ?_⟩
  cases hh : holdsB bs.length a s
  · exact ⟨rfl, Out.pure hb2, hm2⟩
  refine cnd_i (fun h => by cases h) fun _ => ?_
  obtain ⟨g1, g2, g3, g4⟩ := holdsB_iff.1 hh
  have hl := hm.hl
  have hc := hm.hc
  obtain ⟨tb, rb⟩ := hm2.hb
  obtain ⟨td, rd⟩ := hm2.hd
  have hp := hm.hp
  subst hp
  unfold drw
  refine ldL_i rb.drew rfl (ldI_i h2.drew rfl (ldI_i h2.drew rfl (ldI_i h2.drew rfl ?_)))
  rw [W_id (n := a + s) (by omega) (by omega)]
  refine ⟨by simp, ?_, ?_, ?_⟩
  · intro x hx; cases hx; exact ⟨by omega, by simp; omega⟩
  · intro x hx; cases hx; exact ⟨by omega, by simp; omega⟩
  have e1 : (a + s).toNat - a.toNat = s.toNat := by omega
  simp only [Option.map_some, Option.getD_some, Option.map_none, Option.getD_none, e1, Nat.mul_one, add_lit, Nat.zero_add]
  have fin : ∀ w', Row w' d (splice ((u8s bs ++ rest)) a.toNat (u8s (List.replicate s.toNat 0))) td → (∀ k, k ≠ d → w'.heap[k]? = w2.heap[k]?) → w'.heap.size = w2.heap.size → w'.os = w2.os → w'.tape = w2.tape → w'.output = w2.output →
      (Value.int .i64 0 = .int .i64 (if true = true then 0 else 42) ∧ Out (fun k => k = d) w w' ∧ MemAt w' (some ⟨b, 0, none⟩) b d c (if true = true then over bs a.toNat (List.replicate s.toNat 0) else bs) rest) := by
    intro w' h5 h6 h7 h8 h9 h10
    refine ⟨rfl, (Out.pure hb2).trans ⟨h8, h9, h10, by omega, fun k _ hk => h6 k hk⟩, ?_⟩
    rw [if_pos rfl]
    exact hm2.turned (by simp; omega) (by intro x hx; rw [(List.mem_replicate.1 hx).2]; omega) h5 h6
  have erep : u8s (List.replicate s.toNat 0) = List.replicate s.toNat (.int .u8 0) := by simp [u8s]
  by_cases hca : c = a.toNat
  · have hs0 : s.toNat = 0 := by omega
    rw [if_pos hca]
    refine clear_i appBytes zeroByte rfl (o := 0) rd.drew (by omega) fun w' h5 h6 h7 h8 h9 h10 => fin w' ?_ h6 h7 h8 h9 h10
    rw [hs0] at h5 ⊢
    simpa [splice, u8s] using h5
  · rw [if_neg hca]
    refine clear_i appBytes zeroByte rfl (o := a.toNat) rd.drew (by rw [List.length_append, u8s_length]; omega) fun w' h5 h6 h7 h8 h9 h10 => fin w' ?_ h6 h7 h8 h9 h10
    rw [erep]; exact h5
theorem put_cv {w : World} {p : Option Addr} {b d c : Nat} {bs : List Int} {rest : List Value} (hm : MemAt w p b d c bs rest) (a s : Int) {q : Option Addr} {c' : Nat} {xs : List Int} (hx : Sl w q (u8s xs)) (hr : ∀ x ∈ xs, 0 ≤ x ∧ x < 256) :
    CV P F.mem_Mem_Put [.pointer p, winV a s, .slice q xs.length c'] w fun v w' => v = .int .i64 (if holdsB bs.length a s && decide ((xs.length : Int) ≤ s) then 0 else 42) ∧ Out (fun k => k = d) w w' ∧
      MemAt w' p b d c (if holdsB bs.length a s && decide ((xs.length : Int) ≤ s) then over bs a.toNat xs else bs) rest := by
  refine mem_Mem_Put_cv ?_
  unfold mem_Mem_Put JoinT
  refine alc_i fun w1 hB1 h1 hs1 => ?_
  have hb1 := hB1 _ (Nat.le_refl _)
  have hm1 := hm.ext hb1
  refine ldI_i h1 rfl (ldI_i h1 rfl ?_)
  refine (holds_cv hm1 a s).mono ?_
  rintro _ w2 ⟨rfl, hB2⟩
  have h2 := h1.ext hB2
  have hm2 := hm1.ext hB2
  have hb2 := hb1.trans (hB2.mono hb1.size)
  refine ⟨_, rfl, ?_⟩
  cases hh : holdsB bs.length a s
  · refine cnd_i (fun _ => ?_) fun h => by cases h
    unfold mem_Mem_Put_j0
    exact cnd_i (fun _ => ⟨rfl, Out.pure hb2, hm2⟩) fun h => by cases h
  refine cnd_i (fun h => by cases h) fun _ => ldI_i h2 rfl ?_
  unfold mem_Mem_Put_j0
  refine cnd_i (fun h => ?_) fun h => ?_
  · have h := of_decide_eq_true h
    rw [show decide ((xs.length : Int) ≤ s) = false from decide_eq_false (by omega)]
    exact ⟨rfl, Out.pure hb2, hm2⟩
  have h := of_decide_eq_false h
  rw [show decide ((xs.length : Int) ≤ s) = true from decide_eq_true (by omega)]
  obtain ⟨g1, g2, g3, g4⟩ := holdsB_iff.1 hh
  have hl := hm.hl
  have hc := hm.hc
  obtain ⟨tb, rb⟩ := hm2.hb
  obtain ⟨td, rd⟩ := hm2.hd
  have hp := hm.hp
  subst hp
  unfold drw
  refine ldL_i rb.drew rfl (ldI_i h2.drew rfl ?_)
  refine ⟨by simp, by simp, ?_, ?_⟩
  · intro x hx; cases hx; exact ⟨by omega, by simp; omega⟩
  simp only [Option.map_some, Option.getD_some, Option.map_none, Option.getD_none, Nat.mul_one, add_lit, Nat.zero_add]
  have hx2 : Sl w2.drew q (u8s xs) := by
    intro j u hj
    obtain ⟨y, hy, hcell⟩ := hx j u hj
    refine ⟨y, hy, ?_⟩
    have hlt := World.block_lt_of_cell? w _ hcell
    show w2.cell? _ = _
    rw [hb2.cell hlt]; exact hcell
  have fin : ∀ w', Row w' d (splice ((u8s bs ++ rest)) a.toNat (u8s xs)) td → (∀ k, k ≠ d → w'.heap[k]? = w2.heap[k]?) → w'.heap.size = w2.heap.size → w'.os = w2.os → w'.tape = w2.tape → w'.output = w2.output →
      (Value.int .i64 0 = .int .i64 (if (true && true) = true then 0 else 42) ∧ Out (fun k => k = d) w w' ∧ MemAt w' (some ⟨b, 0, none⟩) b d c (if (true && true) = true then over bs a.toNat xs else bs) rest) := by
    intro w' h5 h6 h7 h8 h9 h10
    refine ⟨rfl, (Out.pure hb2).trans ⟨h8, h9, h10, by omega, fun k _ hk => h6 k hk⟩, ?_⟩
    show MemAt w' _ b d c (over bs a.toNat xs) rest
    exact hm2.turned (by omega) hr h5 h6
  by_cases hca : c = a.toNat
  · have hs0 : xs.length = 0 := by omega
    have : xs = [] := List.eq_nil_of_length_eq_zero hs0
    subst this
    rw [if_pos hca]
    refine copy_i appBytes (o := 0) rd.drew hx2 (by simp [u8s]) (by simp) (by simp) (by simp [u8s]) fun w' h5 h6 h7 h8 h9 h10 => fin w' ?_ h6 h7 h8 h9 h10
    simpa [splice, u8s] using h5
  · rw [if_neg hca]
    refine copy_i appBytes (o := a.toNat) rd.drew hx2 (by rw [u8s_length]) (by omega) (by rw [List.length_append, u8s_length]; omega) (u8s_one xs) fun w' h5 h6 h7 h8 h9 h10 => fin w' h5 h6 h7 h8 h9 h10
end Go.Proofs.YtggmapokmlbgbaaDoor
/-
  mem: a memory as a thing among things.
-/
namespace Go.Proofs.YtggmapokmlbgbaaDoor
open Go Go.RowKit X
set_option maxRecDepth 100000
set_option linter.unusedVariables false
def memI (b : Nat) (bs : List Int) : It where
  h := fun w S => ∃ d c rest, MemAt w (some ⟨b, 0, none⟩) b d c bs rest ∧ ∀ k, S k ↔ k = b ∨ k = d
  loc := fun ⟨d, c, rest, h1, h2⟩ hw _ => ⟨d, c, rest, h1.heap (hw _ ((h2 _).2 (.inl rfl))) (hw _ ((h2 _).2 (.inr rfl))), h2⟩
  lt := fun ⟨d, c, rest, h1, h2⟩ k hk => by rcases (h2 k).1 hk with rfl | rfl; exact h1.lt.1; exact h1.lt.2
theorem tri_mem {f : FuncId} {args : List Value} {b : Nat} {bs : List Int} {V : Value} (h : ∀ w d c rest, MemAt w (some ⟨b, 0, none⟩) b d c bs rest → CV P f args w fun v w' => v = V ∧ Below w.heap.size w w') :
    Tri P f args [memI b bs] fun v L' => v = V ∧ L' = [memI b bs] :=
  Tri.of_pure fun w S hS => let ⟨d, c, rest, h1, _⟩ := sep_one.1 hS; h w d c rest h1
theorem tri_mem_w {f : FuncId} {args : List Value} {b : Nat} {bs bs' : List Int} {V : Value}
    (h : ∀ w d c rest, MemAt w (some ⟨b, 0, none⟩) b d c bs rest → CV P f args w fun v w' => v = V ∧ Out (fun k => k = d) w w' ∧ MemAt w' (some ⟨b, 0, none⟩) b d c bs' rest) :
    Tri P f args [memI b bs] fun v L' => v = V ∧ L' = [memI b bs'] := by
  intro w S hS
  obtain ⟨d, c, rest, h1, h2⟩ := sep_one.1 hS
  exact (h w d c rest h1).mono fun v w' ⟨e, hO, hm⟩ => ⟨_, ⟨e, rfl⟩, own_one ⟨d, c, rest, hm, h2⟩ (hO.mono fun k _ hk => (h2 k).2 (.inr hk)) fun k hk => .inl hk⟩
theorem holds_t (b : Nat) (bs : List Int) (a s : Int) : Tri P F.mem_Mem_Holds [.pointer (some ⟨b, 0, none⟩), winV a s] [memI b bs] fun v L' => v = .bool (holdsB bs.length a s) ∧ L' = [memI b bs] := tri_mem fun w d c rest hm => holds_cv hm a s
theorem read_t (b : Nat) (bs : List Int) (a s o n : Int) : Tri P F.mem_Mem_Read [.pointer (some ⟨b, 0, none⟩), winV a s, .int .i64 o, .int .i64 n] [memI b bs] fun v L' => v = readV bs a s o n ∧ L' = [memI b bs] := tri_mem fun w d c rest hm => read_cv hm a s o n
theorem write_t (b : Nat) (bs : List Int) (a s o n v : Int) : Tri P F.mem_Mem_Write [.pointer (some ⟨b, 0, none⟩), winV a s, .int .i64 o, .int .i64 n, .int .u64 v] [memI b bs] fun r L' => r = .int .i64 (errE bs.length a s o n) ∧ L' = [memI b (writeM bs a s o n v)] :=
  tri_mem_w fun w d c rest hm => write_cv hm a s o n v
theorem wipe_t (b : Nat) (bs : List Int) (a s : Int) : Tri P F.mem_Mem_Wipe [.pointer (some ⟨b, 0, none⟩), winV a s] [memI b bs] fun r L' => r = .int .i64 (if holdsB bs.length a s then 0 else 42) ∧ L' = [memI b (if holdsB bs.length a s then over bs a.toNat (List.replicate s.toNat 0) else bs)] :=
  tri_mem_w fun w d c rest hm => wipe_cv hm a s
theorem new_t (n : Int) : Tri P F.mem_New [.int .i64 n] [] fun v L' => if 0 ≤ n ∧ n ≤ 131072 then ∃ b, v = .tuple [.pointer (some ⟨b, 0, none⟩), .int .i64 0].toArray ∧ L' = [memI b (List.replicate n.toNat 0)] else v = .tuple [.pointer none, .int .i64 1].toArray ∧ L' = [] := by
  intro w S hS
  refine (new_cv n).mono fun v w' ⟨hB, h⟩ => ?_
  split at h
  · rename_i hn
    obtain ⟨b, d, rfl, hm, hb, hd⟩ := h
    refine ⟨_, by dsimp only; rw [if_pos hn]; exact ⟨b, rfl, rfl⟩, (Own.start hS).add (i := memI b _) (S := fun k => k = b ∨ k = d) hB ⟨d, _, [], hm, fun _ => Iff.rfl⟩ ?_⟩
    rintro k (rfl | rfl) <;> assumption
  · rename_i hn
    exact ⟨[], by dsimp only; rw [if_neg hn]; exact ⟨h, rfl⟩, (Own.start hS).grow hB⟩
theorem bytes_t (b : Nat) (bs : List Int) (a s : Int) : Tri P F.mem_Mem_Bytes [.pointer (some ⟨b, 0, none⟩), winV a s] [memI b bs] fun v L' =>
    if holdsB bs.length a s then ∃ p c, v = .tuple [.slice p s.toNat c, .int .i64 0].toArray ∧ L' = [own tByte 1 (.slice p s.toNat c) s.toNat (u8s (cut bs a.toNat s.toNat)), memI b bs] else v = .tuple [.slice none 0 0, .int .i64 42].toArray ∧ L' = [memI b bs] := by
  intro w S hS
  obtain ⟨d, c, rest, hm, h2⟩ := sep_one.1 hS
  refine (bytes_cv hm a s).mono fun v w' ⟨hB, h⟩ => ?_
  split at h
  · rename_i hh
    obtain ⟨p, c', rfl, ho⟩ := h
    exact ⟨_, by dsimp only; rw [if_pos hh]; exact ⟨p, c', rfl, rfl⟩, own_add (Own.start hS) hB ho (Nat.le_refl _)⟩
  · rename_i hh
    exact ⟨_, by dsimp only; rw [if_neg hh]; exact ⟨h, rfl⟩, (Own.start hS).grow hB⟩
theorem put_t (b : Nat) (bs : List Int) (a s : Int) {q : Option Addr} {c' : Nat} {xs : List Int} (i : It) (hi : ∀ w S, i.h w S → Sl w q (u8s xs)) (hr : ∀ x ∈ xs, 0 ≤ x ∧ x < 256) :
    Tri P F.mem_Mem_Put [.pointer (some ⟨b, 0, none⟩), winV a s, .slice q xs.length c'] [memI b bs, i] fun v L' => v = .int .i64 (if holdsB bs.length a s && decide ((xs.length : Int) ≤ s) then 0 else 42) ∧
      L' = [memI b (if holdsB bs.length a s && decide ((xs.length : Int) ≤ s) then over bs a.toNat xs else bs), i] := by
  rintro w S ⟨S1, S2, ⟨d, c, rest, hm, h2⟩, hS2, h3, h4⟩
  refine (put_cv hm a s (hi w S2 (sep_one.1 hS2)) hr).mono fun v w' ⟨e, hO, hm'⟩ => ⟨_, ⟨e, rfl⟩, ?_⟩
  refine own_join (L2 := [memI b _]) hS2 h3 (Out.refl _ _) (fun k hk => .inl ((h4 k).2 hk)) (S' := S1) (sep_one.2 ⟨d, c, rest, hm', h2⟩) (hO.mono fun k _ hk => (h2 k).2 (.inr hk)) fun k hk => .inl hk
end Go.Proofs.YtggmapokmlbgbaaDoor
/-
  mem: the document's memory: windows, numbers written; a memory's rows; two new memories.
-/
namespace Go.Proofs.YtggmapokmlbgbaaDoor
open Go Go.RowKit X
set_option maxRecDepth 100000
set_option linter.unusedVariables false
def ptr (b : Nat) : Value := .pointer (some ⟨b, 0, none⟩)
theorem refHolds_cv {w : World} {p : Option Addr} {b d c : Nat} {bs : List Int} {rest : List Value} (hm : MemAt w p b d c bs rest) (a s : Int) :
    CV P F.crierref04_Mem_Holds [.pointer p, winV a s] w fun v w' => v = .bool (holdsB bs.length a s) ∧ Below w.heap.size w w' := by
  refine crierref04_Mem_Holds_cv ?_
  unfold crierref04_Mem_Holds
  refine alc_i fun w1 hB1 h1 hs1 => ?_
  have hb1 := (hB1 _ (Nat.le_refl _)).drew
  have hm1 := hm.ext (hB1 _ (Nat.le_refl _))
  obtain ⟨tb, rb⟩ := hm1.hb
  have hp := hm.hp
  have hl := hm.hl
  subst hp
  unfold JoinT
  refine ldI_i h1.drew rfl (cnd_i (fun h => ?_) fun h => ⟨?_, hb1⟩)
  · refine ldI_i h1.drew rfl (cnd_i (fun h' => ?_) fun h' => ⟨?_, hb1⟩)
    · refine ldI_i h1.drew rfl (ldL_i rb.drew rfl (cnd_i (fun h2 => ?_) fun h2 => ⟨?_, hb1⟩))
      · refine ldI_i h1.drew rfl (ldL_i rb.drew rfl (ldI_i h1.drew rfl ⟨?_, hb1⟩))
        have h := of_decide_eq_true h
        have h' := of_decide_eq_true h'
        have h2 := of_decide_eq_true h2
        rw [W_id (by omega) (by omega)]
        simp [holdsB, show 0 ≤ a by omega, show 0 ≤ s by omega, h2]
      · have h2 := of_decide_eq_false h2
        have : holdsB bs.length a s = false := by
          cases hh : holdsB bs.length a s
          · rfl
          · rw [holdsB_iff] at hh; omega
        rw [this]
    · have h' := of_decide_eq_false h'
      have : holdsB bs.length a s = false := by
        cases hh : holdsB bs.length a s
        · rfl
        · rw [holdsB_iff] at hh; omega
      rw [this]
  · have h := of_decide_eq_false h
    have : holdsB bs.length a s = false := by
      cases hh : holdsB bs.length a s
      · rfl
      · rw [holdsB_iff] at hh; omega
    rw [this]
theorem refMay_plain (s o n : Int) : Plain F.crierref04_May [.int .i64 s, .int .i64 o, .int .i64 n] (.int .i64 (mayE s o n)) := by
  intro w
  refine crierref04_May_cv ?_
  unfold crierref04_May JoinT
  have hB := Below.refl w.heap.size w
  have good : (n = 1 ∨ n = 4 ∨ n = 8) → crierref04_May_j1 s o n (fun v' w' => v' = .int .i64 (mayE s o n) ∧ Below w.heap.size w w') false w := by
    intro hn
    unfold crierref04_May_j1
    refine cnd_i (fun h => by cases h) fun _ => ⟨by omega, ?_⟩
    refine cnd_i (fun h => ⟨?_, hB⟩) fun h => ?_
    · have h : Int.tmod o n ≠ 0 := by simpa using h
      rw [mayE, if_neg (by omega), if_pos h]
    have h : Int.tmod o n = 0 := by simpa using h
    unfold JoinT crierref04_May_j0
    refine cnd_i (fun h' => cnd_i (fun _ => ⟨?_, hB⟩) fun h => by cases h) fun h' => cnd_i (fun h2 => ⟨?_, hB⟩) fun h2 => ⟨?_, hB⟩
    · have h' := of_decide_eq_true h'
      rw [mayE, if_neg (by omega), if_neg (by omega), if_pos (by omega)]
    · have h2 := of_decide_eq_true h2
      rw [mayE, if_neg (by omega), if_neg (by omega), if_pos (by omega)]
    · have h' := of_decide_eq_false h'
      have h2 := of_decide_eq_false h2
      rw [mayE, if_neg (by omega), if_neg (by omega), if_neg (by omega)]
  refine cnd_i (fun h => cnd_i (fun h' => ?_) fun h' => ?_) fun h => ?_
  · have h : n ≠ 1 := by simpa using h
    have h' : n ≠ 4 := by simpa using h'
    cases h2 : (n != 8)
    · exact good (by have : n = 8 := by simpa using h2
                     omega)
    · have h2 : n ≠ 8 := by simpa using h2
      exact ⟨by rw [mayE, if_pos (by omega)], hB⟩
  · exact good (by have : n = 4 := by simpa using h'
                   omega)
  · exact good (by have : n = 1 := by simpa using h
                   omega)
theorem refHolds_t (b : Nat) (bs : List Int) (a s : Int) : Tri P F.crierref04_Mem_Holds [ptr b, winV a s] [memI b bs] fun v L' => v = .bool (holdsB bs.length a s) ∧ L' = [memI b bs] := tri_mem fun w d c rest hm => refHolds_cv hm a s
/-- a memory's rows -/
theorem mem_open {w w0 : World} {S0 : Nat → Prop} {L F : List It} {b : Nat} {bs : List Int} (H : X.Own w0 S0 L w) (hp : Pick L (memI b bs) F) : ∃ (d c : Nat) (rest : List Value) (tb td : TypeId),
    X.Own w0 S0 (row b [.slice (some ⟨d, 0, none⟩) bs.length c] tb :: row d (u8s bs ++ rest) td :: F) w ∧ c = bs.length + rest.length ∧ (∀ x ∈ bs, 0 ≤ x ∧ x < 256) ∧ bs.length ≤ 131072 := by
  obtain ⟨S, h1, h2⟩ := H
  obtain ⟨S1, S2, ⟨d, c, rest, hm, g⟩, g2, g3, g4⟩ := hp.iff.1 h1
  obtain ⟨tb, rb⟩ := hm.hb
  obtain ⟨td, rd⟩ := hm.hd
  refine ⟨d, c, rest, tb, td, ⟨S, ⟨fun k => k = b, fun k => k = d ∨ S2 k, ⟨rb, fun _ => Iff.rfl⟩, ⟨fun k => k = d, S2, ⟨rd, fun _ => Iff.rfl⟩, g2, ?_, fun _ => Iff.rfl⟩, ?_, ?_⟩, h2⟩, hm.hc, hm.hr, hm.hl⟩
  · rintro k rfl; exact g3 k ((g k).2 (.inr rfl))
  · rintro k rfl (h | h)
    · exact hm.hne h
    · exact g3 k ((g k).2 (.inl rfl)) h
  · intro k; rw [g4, g, or_assoc]
theorem mem_shut {w w0 : World} {S0 : Nat → Prop} {F : List It} {b d c n : Nat} {bs : List Int} {rest : List Value} {tb td : TypeId} (H : X.Own w0 S0 (row b [.slice (some ⟨d, 0, none⟩) n c] tb :: row d (u8s bs ++ rest) td :: F) w)
    (hn : n = bs.length) (hc : c = bs.length + rest.length) (hr : ∀ x ∈ bs, 0 ≤ x ∧ x < 256) (hl : bs.length ≤ 131072) : X.Own w0 S0 (memI b bs :: F) w := by
  subst hn
  obtain ⟨S, ⟨S1, S2, ⟨rb, e1⟩, ⟨T1, T2, ⟨rd, e2⟩, g2, g3, g4⟩, g5, g6⟩, h2⟩ := H
  refine ⟨S, ⟨fun k => k = b ∨ k = d, T2, ⟨d, c, rest, ⟨rfl, ⟨_, rb⟩, ⟨_, rd⟩, hc, ?_, hr, hl⟩, fun _ => Iff.rfl⟩, g2, ?_, ?_⟩, h2⟩
  · rintro rfl; exact g5 b ((e1 b).2 rfl) ((g4 b).2 (.inl ((e2 b).2 rfl)))
  · rintro k (rfl | rfl) h
    · exact g5 k ((e1 k).2 rfl) ((g4 k).2 (.inr h))
    · exact g3 k ((e2 k).2 rfl) h
  · intro k; rw [g6, g4, e1, e2, or_assoc]
theorem refWrite_t (b : Nat) (bs : List Int) (a s o n v : Int) (hv : 0 ≤ v ∧ v < 2 ^ 64) : Tri P F.crierref04_Mem_Write [ptr b, winV a s, .int .i64 o, .int .i64 n, .int .u64 v] [memI b bs] fun r L' => r = .int .i64 (errE bs.length a s o n) ∧ L' = [memI b (writeM bs a s o n v)] := by
  intro w S hS
  refine crierref04_Mem_Write_cv ?_
  unfold crierref04_Mem_Write
  have H := Own.start hS
  refine alc_o H fun bx wx H => ?_
  repeat (first | refine ldI_a H ?_ | refine ldL_a H ?_ | refine ldB_a H ?_ | refine ldP_a H ?_ | refine ldS_a H ?_)
  refine call_pa H (refHolds_t b bs a s) fun wx H => ?_
  refine ⟨_, rfl, ?_⟩
  cases hh : holdsB bs.length a s
  · have : errE bs.length a s o n = 42 := by simp [errE, hh]
    rw [writeM, this, if_neg (by omega)]
    exact cnd_i (fun _ => ⟨_, ⟨rfl, rfl⟩, H.dp⟩) (fun h => by cases h)
  refine cnd_i (fun h => by cases h) fun _ => ?_
  repeat (first | refine ldI_a H ?_ | refine ldL_a H ?_ | refine ldB_a H ?_ | refine ldP_a H ?_ | refine ldS_a H ?_)
  refine call_pa H (tri_plain (refMay_plain s o n)) fun wx H => ?_
  have he : errE bs.length a s o n = mayE s o n := by simp [errE, hh]
  refine ⟨_, rfl, cnd_i (fun h => ?_) fun h => ?_⟩
  · have h : mayE s o n ≠ 0 := by simpa using h
    rw [writeM, he, if_neg h]
    exact ⟨_, ⟨rfl, rfl⟩, H.dp⟩
  have h : mayE s o n = 0 := by simpa using h
  have hz : errE bs.length a s o n = 0 := by rw [he, h]
  obtain ⟨d, c, rest, tb, td, H, hc, hr, hl⟩ := mem_open H (b := b) (bs := bs) (by repeat (first | exact Pick.here | apply Pick.there))
  obtain ⟨a0, o0, hn, ht, hlen, _, _, _⟩ := errE_ok hz hl
  refine loop_o (fun (st : Int × Int) L => ∃ i : Nat, i ≤ n.toNat ∧ st.2 = i ∧ st.1 = v / 256 ^ i ∧ L = [row b [.slice (some ⟨d, 0, none⟩) bs.length c] tb, row d (u8s (wr bs (a + o).toNat v i) ++ rest) td, row bx [.int .i64 a, .int .i64 s] _])
    (fun (st : Int × Int) => (n - st.2).toNat) H ⟨0, by omega, rfl, by simp, rfl⟩ ?_
  rintro ⟨v', i'⟩ _ wx ⟨i, hi, hi', hv', rfl⟩ H
  simp only at hi' hv'
  subst hi' hv'
  unfold crierref04_Mem_Write_l0
  dsimp only
  refine cnd_i (fun h => ?_) fun h => ?_
  · have h := of_decide_eq_true h
    refine drw_o H fun wx H => ?_
    repeat (first | refine ldI_a H ?_ | refine ldL_a H ?_ | refine ldB_a H ?_ | refine ldP_a H ?_ | refine ldS_a H ?_)
    rw [W_id (n := a + o) (by omega) (by omega), W_id (n := a + o + _) (by omega) (by omega)]
    refine ⟨by omega, ⟨by omega, by omega⟩, ?_⟩
    dsimp only [nn]
    have hk : (a + o + (i : Int)).toNat < (wr bs (a + o).toNat v i).length := by rw [wr_length]; omega
    have e : (a + o + (i : Int)).toNat = (a + o).toNat + i := by omega
    have hq : 0 ≤ v / 256 ^ i ∧ v / 256 ^ i ≤ v := ⟨Int.ediv_nonneg hv.1 (Int.le_of_lt (Int.pow_pos (by omega))), Int.ediv_le_self _ hv.1⟩
    have hb : IntKind.u8.wrap (Int.tmod (v / 256 ^ i) 256) = byteI v i := by
      rw [Int.tmod_eq_emod_of_nonneg hq.1]
      have := byteI_range v i
      unfold byteI at *
      simp [IntKind.wrap, IntKind.signed, IntKind.bits]
    rw [add_lit, Nat.mul_one, Nat.zero_add, hb]
    refine st1_o H (by repeat (first | exact Rep.here | apply Rep.there)) (by rw [List.length_append, u8s_length]; omega) fun wx H => ⟨by omega, ⟨_, ⟨i + 1, by omega, ?_, ?_, ?_⟩, H⟩, ?_⟩
    · rw [W_id (by omega) (by omega)]; rfl
    · show IntKind.u64.wrap _ = _
      rw [Int.tdiv_eq_ediv_of_nonneg hq.1, Int.pow_succ, ← Int.ediv_ediv_of_nonneg (Int.le_of_lt (Int.pow_pos (by omega)))]
      have h1 : 0 ≤ v / 256 ^ i / 256 := Int.ediv_nonneg hq.1 (by omega)
      have h2 : v / 256 ^ i / 256 ≤ v / 256 ^ i := Int.ediv_le_self _ hq.1
      have := hv.2
      simp [IntKind.wrap, IntKind.signed, IntKind.bits]; omega
    · rw [mem_set hk, e]; rfl
    · show (n - IntKind.i64.wrap ((i : Int) + 1)).toNat < (n - (i : Int)).toNat
      rw [W_id (by omega) (by omega)]; omega
  · have h := of_decide_eq_false h
    have : i = n.toNat := by omega
    subst this
    rw [hz, writeM, if_pos hz]
    exact ⟨_, ⟨rfl, rfl⟩, (mem_shut H (by rw [wr_length]) (by rw [wr_length]; exact hc) (wr_range hr _ _ _) (by rw [wr_length]; exact hl)).dp⟩
theorem lawNew_cv {w : World} (n : Int) : CV P F.crierlaw04_New [.int .i64 n] w fun v w' => Below w.heap.size w w' ∧ ∃ (b d b' d' N : Nat), N ≤ 4096 ∧ v = .tuple [.pointer (some ⟨b, 0, none⟩), .pointer (some ⟨b', 0, none⟩)].toArray ∧
    MemAt w' (some ⟨b, 0, none⟩) b d N (List.replicate N 0) [] ∧ MemAt w' (some ⟨b', 0, none⟩) b' d' N (List.replicate N 0) [] ∧ w.heap.size ≤ b ∧ w.heap.size ≤ d ∧ b < d' ∧ d < d' ∧ b < b' ∧ d < b' := by
  refine crierlaw04_New_cv ?_
  unfold crierlaw04_New JoinT
  have go : ∀ m : Int, 0 ≤ m → m ≤ 4096 → crierlaw04_New_j0 (fun v w' => Below w.heap.size w w' ∧ ∃ (b d b' d' N : Nat), N ≤ 4096 ∧ v = .tuple [.pointer (some ⟨b, 0, none⟩), .pointer (some ⟨b', 0, none⟩)].toArray ∧
    MemAt w' (some ⟨b, 0, none⟩) b d N (List.replicate N 0) [] ∧ MemAt w' (some ⟨b', 0, none⟩) b' d' N (List.replicate N 0) [] ∧ w.heap.size ≤ b ∧ w.heap.size ≤ d ∧ b < d' ∧ d < d' ∧ b < b' ∧ d < b') m w := by
    intro m h0 h1
    unfold crierlaw04_New_j0
    refine (new_cv (w := w) m).mono ?_
    rintro _ w1 ⟨hB1, h⟩
    rw [if_pos (by omega)] at h
    obtain ⟨b, d, rfl, hm, hb, hd⟩ := h
    refine ⟨_, 0, rfl, cnd_i (fun h => by cases h) fun _ => ?_⟩
    unfold drw
    have hlt := hm.lt
    have hs1 := hB1.size
    refine make_i appBytes zeroByte (w := w1.drew) h0 (by omega) (by omega) fun w2 hB2 h2 hs2 => alc_i fun w3 hB3 h3 hs3 => ?_
    have e1 : w1.drew.heap.size = w1.heap.size := rfl
    have hB13 : Below w1.heap.size w1 w3 := ((Below.refl _ w1).drew.trans (hB2 _ (Nat.le_refl _))).trans (hB3 _ (by omega))
    refine ⟨hB1.trans (hB13.mono hs1), b, d, w2.heap.size, w1.heap.size, m.toNat, by omega, rfl, hm.ext hB13, ?_, hb, hd, hlt.1, hlt.2, by omega, by omega⟩
    have hb' : ∃ t, Row w3 w2.heap.size [.slice (some ⟨w1.heap.size, 0, none⟩) (List.replicate m.toNat (0 : Int)).length m.toNat] t := by rw [List.length_replicate]; exact ⟨_, h3⟩
    have hd' : ∃ t, Row w3 w1.heap.size (u8s (List.replicate m.toNat 0) ++ []) t := by
      have := h2.below (hB3 w2.heap.size (Nat.le_refl _)) (by omega)
      exact ⟨_, by simpa [u8s] using this⟩
    exact ⟨rfl, hb', hd', by simp, by omega, by intro x hx; rw [(List.mem_replicate.1 hx).2]; omega, by simp; omega⟩
  unfold crierlaw04_New_j1
  refine cnd_i (fun h => ?_) fun h => ?_
  · exact cnd_i (fun _ => go 200 (by omega) (by omega)) fun h => by cases h
  · have h := of_decide_eq_false h
    refine cnd_i (fun h' => go 200 (by omega) (by omega)) fun h' => ?_
    have h' := of_decide_eq_false h'
    exact go n (by omega) (by omega)
theorem lawNew_t (n : Int) : Tri P F.crierlaw04_New [.int .i64 n] [] fun v L' => ∃ b b' N, N ≤ 4096 ∧ v = .tuple [ptr b, ptr b'].toArray ∧ L' = [memI b (List.replicate N 0), memI b' (List.replicate N 0)] := by
  intro w S hS
  refine (lawNew_cv n).mono fun v w' ⟨hB, b, d, b', d', N, hN, e, hm, hm', g1, g2, g3, g4, g5, g6⟩ => ⟨_, ⟨b, b', N, hN, e, rfl⟩, ?_⟩
  have hs := hm.lt
  have hs' := hm'.lt
  have H0 := (Own.start hS).grow hB
  obtain ⟨T, e1, e2, e3⟩ := H0
  have hT := Sep.lt hS
  refine ⟨fun k => (k = b ∨ k = d) ∨ (k = b' ∨ k = d'), ⟨fun k => k = b ∨ k = d, fun k => k = b' ∨ k = d', ⟨d, _, [], hm, fun _ => Iff.rfl⟩, sep_one.2 ⟨d', _, [], hm', fun _ => Iff.rfl⟩, ?_, fun _ => Iff.rfl⟩, e2, ?_⟩
  · have := hm.hne
    have := hm'.hne
    rintro k (rfl | rfl) (h | h) <;> omega
  · rintro k ((rfl | rfl) | (rfl | rfl)) <;> exact .inr (by omega)
end Go.Proofs.YtggmapokmlbgbaaDoor
/-
  mem: windows of windows.
-/
namespace Go.Proofs.YtggmapokmlbgbaaDoor
open Go Go.RowKit X
set_option maxRecDepth 100000
set_option linter.unusedVariables false
def fairB (a s : Int) : Bool := decide (a ≥ 0) && (decide (a ≤ 1099511627776) && (decide (s ≥ 0) && decide (s ≤ 1099511627776)))
theorem fairB_iff {a s : Int} : fairB a s = true ↔ 0 ≤ a ∧ a ≤ 1099511627776 ∧ 0 ≤ s ∧ s ≤ 1099511627776 := by simp [fairB]
def partW (a s x n : Int) : Value := if fairB a s && (decide (0 ≤ x) && (decide (0 ≤ n) && (decide (n ≤ s) && decide (x ≤ s - n)))) then .tuple [winV (a + x) n, .int .i64 0].toArray else .tuple [winV 0 0, .int .i64 42].toArray
theorem cond_false {a s x n : Int} (h : ¬ (fairB a s = true ∧ 0 ≤ x ∧ 0 ≤ n ∧ n ≤ s ∧ x ≤ s - n)) : partW a s x n = .tuple [winV 0 0, .int .i64 42].toArray := by
  unfold partW; rw [if_neg]; simpa using h
theorem cond_true {a s x n : Int} (h : fairB a s = true ∧ 0 ≤ x ∧ 0 ≤ n ∧ n ≤ s ∧ x ≤ s - n) : partW a s x n = .tuple [winV (a + x) n, .int .i64 0].toArray := by
  unfold partW; rw [if_pos]; simpa using h
theorem and_low {v : Int} (h0 : 0 ≤ v) (h1 : v < 2 ^ 64) (m : Nat) (hm : m ≤ 64) : bitX .and .u64 v ((2 ^ m - 1 : Nat) : Int) = v % 2 ^ m := by
  obtain ⟨x, rfl⟩ := Int.eq_ofNat_of_zero_le h0
  have hx : x < 2 ^ 64 := by omega
  have hle : 2 ^ m ≤ 2 ^ 64 := Nat.pow_le_pow_right (by omega) hm
  have hp : 0 < 2 ^ m := Nat.pow_pos (by omega)
  show IntKind.u64.wrap ((BitVec.ofInt 64 (x : Int) &&& BitVec.ofInt 64 ((2 ^ m - 1 : Nat) : Int)).toNat : Int) = _
  rw [BitVec.toNat_and, BitVec.ofInt_natCast, BitVec.ofInt_natCast, BitVec.toNat_ofNat, BitVec.toNat_ofNat, Nat.mod_eq_of_lt hx, Nat.mod_eq_of_lt (by omega), Nat.and_two_pow_sub_one_eq_mod]
  have hlt : x % 2 ^ m < 2 ^ m := Nat.mod_lt _ hp
  have : IntKind.u64.wrap ((x % 2 ^ m : Nat) : Int) = ((x % 2 ^ m : Nat) : Int) := by
    generalize x % 2 ^ m = y at *
    simp [IntKind.wrap, IntKind.signed, IntKind.bits]
    omega
  rw [this]; push_cast; rfl
end Go.Proofs.YtggmapokmlbgbaaDoor
/-
  mem: what is written, read back as a number.
-/
namespace Go.Proofs.YtggmapokmlbgbaaDoor
open Go Go.RowKit X
set_option maxRecDepth 100000
set_option linter.unusedVariables false
def bytesOf (v : Int) (n : Nat) : List Int := (List.range n).map (byteI v)
theorem le_bytes (v : Int) (h : 0 ≤ v) : ∀ n, le (bytesOf v n) = v % 256 ^ n
  | 0 => by simp [bytesOf, le, Int.emod_one]
  | n + 1 => by
    have e : bytesOf v (n + 1) = bytesOf v n ++ [byteI v n] := by simp [bytesOf, List.range_succ]
    rw [e, le_append, le_bytes v h n]
    simp only [bytesOf, List.length_map, List.length_range, le, byteI, Int.mul_zero, Int.add_zero]
    have hp : (0 : Int) < 256 ^ n := Int.pow_pos (by omega)
    rw [Int.pow_succ]
    have h1 := Int.emod_add_mul_ediv v (256 ^ n)
    have h2 := Int.emod_add_mul_ediv (v / 256 ^ n) 256
    have h3 : v / 256 ^ n / 256 = v / (256 ^ n * 256) := Int.ediv_ediv_of_nonneg (Int.le_of_lt hp)
    have h4 := Int.emod_add_mul_ediv v (256 ^ n * 256)
    rw [h3] at h2
    have h5 : 256 ^ n * (256 * (v / (256 ^ n * 256))) = 256 ^ n * 256 * (v / (256 ^ n * 256)) := by rw [Int.mul_assoc]
    have h6 : 256 ^ n * (v / 256 ^ n) = 256 ^ n * (v / 256 ^ n % 256) + 256 ^ n * (256 * (v / (256 ^ n * 256))) := by
      conv => lhs; rw [← h2]
      rw [Int.mul_add]
    omega
theorem cut_wr {bs : List Int} {k n : Nat} (v : Int) (h : k + n ≤ bs.length) : cut (wr bs k v n) k n = bytesOf v n := by
  apply List.ext_getElem?
  intro j
  simp only [cut, List.getElem?_take, List.getElem?_drop, wr_get, bytesOf, List.getElem?_map]
  by_cases hj : j < n
  · rw [if_pos hj, if_pos (by omega)]; simp [hj]
  · rw [if_neg hj]; simp [hj]
def lawN (n : Int) : Nat := if n < 0 ∨ n > 4096 then 200 else n.toNat
theorem lawN_le (n : Int) : lawN n ≤ 4096 := by unfold lawN; split <;> omega
theorem lawNewX_cv {w : World} (n : Int) : CV P F.crierlaw04_New [.int .i64 n] w fun v w' => Below w.heap.size w w' ∧ ∃ (b d b' d' : Nat), v = .tuple [.pointer (some ⟨b, 0, none⟩), .pointer (some ⟨b', 0, none⟩)].toArray ∧
    MemAt w' (some ⟨b, 0, none⟩) b d (lawN n) (List.replicate (lawN n) 0) [] ∧ MemAt w' (some ⟨b', 0, none⟩) b' d' (lawN n) (List.replicate (lawN n) 0) [] ∧ w.heap.size ≤ b ∧ w.heap.size ≤ d ∧ b < d' ∧ d < d' ∧ b < b' ∧ d < b' := by
  refine crierlaw04_New_cv ?_
  unfold crierlaw04_New JoinT
  have go : ∀ m : Int, 0 ≤ m → m ≤ 4096 → lawN n = m.toNat → crierlaw04_New_j0 (fun v w' => Below w.heap.size w w' ∧ ∃ (b d b' d' : Nat), v = .tuple [.pointer (some ⟨b, 0, none⟩), .pointer (some ⟨b', 0, none⟩)].toArray ∧
    MemAt w' (some ⟨b, 0, none⟩) b d (lawN n) (List.replicate (lawN n) 0) [] ∧ MemAt w' (some ⟨b', 0, none⟩) b' d' (lawN n) (List.replicate (lawN n) 0) [] ∧ w.heap.size ≤ b ∧ w.heap.size ≤ d ∧ b < d' ∧ d < d' ∧ b < b' ∧ d < b') m w := by
    intro m h0 h1 hm0
    rw [hm0]
    unfold crierlaw04_New_j0
    refine (new_cv (w := w) m).mono ?_
    rintro _ w1 ⟨hB1, h⟩
    rw [if_pos (by omega)] at h
    obtain ⟨b, d, rfl, hm, hb, hd⟩ := h
    refine ⟨_, 0, rfl, cnd_i (fun h => by cases h) fun _ => ?_⟩
    unfold drw
    have hlt := hm.lt
    have hs1 := hB1.size
    refine make_i appBytes zeroByte (w := w1.drew) h0 (by omega) (by omega) fun w2 hB2 h2 hs2 => alc_i fun w3 hB3 h3 hs3 => ?_
    have e1 : w1.drew.heap.size = w1.heap.size := rfl
    have hB13 : Below w1.heap.size w1 w3 := ((Below.refl _ w1).drew.trans (hB2 _ (Nat.le_refl _))).trans (hB3 _ (by omega))
    refine ⟨hB1.trans (hB13.mono hs1), b, d, w2.heap.size, w1.heap.size, rfl, hm.ext hB13, ?_, hb, hd, hlt.1, hlt.2, by omega, by omega⟩
    have hb' : ∃ t, Row w3 w2.heap.size [.slice (some ⟨w1.heap.size, 0, none⟩) (List.replicate m.toNat (0 : Int)).length m.toNat] t := by rw [List.length_replicate]; exact ⟨_, h3⟩
    have hd' : ∃ t, Row w3 w1.heap.size (u8s (List.replicate m.toNat 0) ++ []) t := by
      have := h2.below (hB3 w2.heap.size (Nat.le_refl _)) (by omega)
      exact ⟨_, by simpa [u8s] using this⟩
    exact ⟨rfl, hb', hd', by simp, by omega, by intro x hx; rw [(List.mem_replicate.1 hx).2]; omega, by simp; omega⟩
  unfold crierlaw04_New_j1
  refine cnd_i (fun h => ?_) fun h => ?_
  · exact cnd_i (fun _ => go 200 (by omega) (by omega) (by unfold lawN; rw [if_pos (.inl (of_decide_eq_true h))]; rfl)) fun h => by cases h
  · have h := of_decide_eq_false h
    refine cnd_i (fun h' => go 200 (by omega) (by omega) (by unfold lawN; rw [if_pos (.inr (of_decide_eq_true h'))]; rfl)) fun h' => ?_
    have h' := of_decide_eq_false h'
    exact go n (by omega) (by omega) (by unfold lawN; rw [if_neg (by omega)])
theorem lawNewX_t (n : Int) : Tri P F.crierlaw04_New [.int .i64 n] [] fun v L' => ∃ b b', v = .tuple [ptr b, ptr b'].toArray ∧ L' = [memI b (List.replicate (lawN n) 0), memI b' (List.replicate (lawN n) 0)] := by
  intro w S hS
  refine (lawNewX_cv n).mono fun v w' ⟨hB, b, d, b', d', e, hm, hm', g1, g2, g3, g4, g5, g6⟩ => ⟨_, ⟨b, b', e, rfl⟩, ?_⟩
  have hs := hm.lt
  have hs' := hm'.lt
  have H0 := (Own.start hS).grow hB
  obtain ⟨T, e1, e2, e3⟩ := H0
  have hT := Sep.lt hS
  refine ⟨fun k => (k = b ∨ k = d) ∨ (k = b' ∨ k = d'), ⟨fun k => k = b ∨ k = d, fun k => k = b' ∨ k = d', ⟨d, _, [], hm, fun _ => Iff.rfl⟩, sep_one.2 ⟨d', _, [], hm', fun _ => Iff.rfl⟩, ?_, fun _ => Iff.rfl⟩, e2, ?_⟩
  · have := hm.hne
    have := hm'.hne
    rintro k (rfl | rfl) (h | h) <;> omega
  · rintro k ((rfl | rfl) | (rfl | rfl)) <;> exact .inr (by omega)
end Go.Proofs.YtggmapokmlbgbaaDoor
/-
  mem: how big a memory is.
-/
namespace Go.Proofs.YtggmapokmlbgbaaDoor
open Go Go.RowKit X
set_option maxRecDepth 100000
set_option linter.unusedVariables false
theorem size_t (b : Nat) (bs : List Int) : Tri P F.mem_Mem_Size [ptr b] [memI b bs] fun v L' => v = .int .i64 bs.length ∧ L' = [memI b bs] := by
  refine tri_mem fun w d c rest hm => mem_Mem_Size_cv ?_
  unfold mem_Mem_Size
  obtain ⟨t, r⟩ := hm.hb
  exact ldL_i r rfl ⟨rfl, Below.refl _ _⟩
end Go.Proofs.YtggmapokmlbgbaaDoor
/-
  mem: the document's memory: bytes put, wiped; both alike.
-/
namespace Go.Proofs.YtggmapokmlbgbaaDoor
open Go Go.RowKit X
set_option maxRecDepth 100000
set_option linter.unusedVariables false
theorem over_succ {bs xs : List Int} {k i : Nat} (h : k + i < bs.length) (hi : i < xs.length) : (over bs k (xs.take i)).set (k + i) xs[i] = over bs k (xs.take (i + 1)) := by
  unfold over
  rw [List.take_succ_eq_append_getElem hi]
  have e : k + (xs.take i).length = k + i := by simp; omega
  rw [e, List.drop_eq_getElem_cons h, List.set_append_right _ _ (by simp; omega)]
  have e2 : k + i - (bs.take k ++ xs.take i).length = 0 := by simp; omega
  rw [e2, List.set_cons_zero]
  have e3 : k + (xs.take i ++ [xs[i]]).length = k + i + 1 := by simp; omega
  rw [e3]
  simp only [List.append_assoc, List.cons_append, List.nil_append]
theorem memPut_t (b : Nat) (bs : List Int) (a s : Int) {q : Option Addr} {c' : Nat} {xs : List Int} (i : It) (hi : ∀ w S, i.h w S → Sl w q (u8s xs)) (hx : ∀ x ∈ xs, 0 ≤ x ∧ x < 256) :
    Tri P F.crierref04_Mem_Put [ptr b, winV a s, .slice q xs.length c'] [memI b bs, i] fun v L' => v = .int .i64 (if holdsB bs.length a s && decide ((xs.length : Int) ≤ s) then 0 else 42) ∧
      L' = [memI b (if holdsB bs.length a s && decide ((xs.length : Int) ≤ s) then over bs a.toNat xs else bs), i] := by
  intro w S hS
  refine crierref04_Mem_Put_cv ?_
  unfold crierref04_Mem_Put
  have H := Own.start hS
  refine alc_o H fun bx wx H => ?_
  refine join_o ?_
  repeat (first | refine ldI_a H ?_ | refine ldL_a H ?_ | refine ldB_a H ?_ | refine ldP_a H ?_ | refine ldS_a H ?_)
  refine call_pa H (refHolds_t b bs a s) fun wx H => ?_
  refine ⟨_, rfl, ?_⟩
  cases hh : holdsB bs.length a s
  · refine cnd_i (fun _ => ?_) (fun h => by cases h)
    unfold crierref04_Mem_Put_j1
    exact cnd_i (fun _ => ⟨_, ⟨rfl, rfl⟩, H.dp⟩) (fun h => by cases h)
  refine cnd_i (fun h => by cases h) fun _ => ?_
  repeat (first | refine ldI_a H ?_ | refine ldL_a H ?_ | refine ldB_a H ?_ | refine ldP_a H ?_ | refine ldS_a H ?_)
  unfold crierref04_Mem_Put_j1
  refine cnd_i (fun h => ?_) fun h => ?_
  · have h := of_decide_eq_true h
    rw [show decide ((xs.length : Int) ≤ s) = false from decide_eq_false (by omega)]
    exact ⟨_, ⟨rfl, rfl⟩, H.dp⟩
  have h := of_decide_eq_false h
  rw [show decide ((xs.length : Int) ≤ s) = true from decide_eq_true (by omega)]
  obtain ⟨g1, g2, g3, g4⟩ := holdsB_iff.1 hh
  obtain ⟨d, c, rest, tb, td, H, hc, hr, hl⟩ := mem_open H (b := b) (bs := bs) (by repeat (first | exact Pick.here | apply Pick.there))
  refine loop_o (fun (st : Int) L => ∃ j : Nat, j ≤ xs.length ∧ st = j ∧ L = [row b [.slice (some ⟨d, 0, none⟩) bs.length c] tb, row d (u8s (over bs a.toNat (xs.take j)) ++ rest) td, row bx [.int .i64 a, .int .i64 s] tWin, i])
    (fun (st : Int) => ((xs.length : Int) - st).toNat) H ⟨0, by omega, rfl, by simp [over]⟩ ?_
  rintro _ _ wx ⟨j, hj, rfl, rfl⟩ H
  unfold crierref04_Mem_Put_l0
  have hol : (over bs a.toNat (xs.take j)).length = bs.length := over_length (by simp; omega)
  refine cnd_i (fun h => ?_) fun h => ?_
  · have h := of_decide_eq_true h
    refine drw_o H fun wx H => ?_
    repeat (first | refine ldI_a H ?_ | refine ldL_a H ?_ | refine ldB_a H ?_ | refine ldP_a H ?_ | refine ldS_a H ?_)
    refine ⟨by omega, ?_⟩
    rw [show ((j : Int)).toNat = j from rfl]
    obtain ⟨ad, rfl, hcell⟩ := H.rd (i := i) (by repeat (first | exact Pick.here | apply Pick.there)) hi j _ (u8s_get (bs := xs) (by omega))
    refine ⟨xs[j], by rw [Nat.mul_one]; exact hcell, ?_⟩
    rw [W_id (n := a + _) (by omega) (by omega)]
    refine ⟨⟨by omega, by omega⟩, ?_⟩
    show st1 _ _ _ _
    rw [add_lit, Nat.mul_one, Nat.zero_add]
    refine st1_o H (by repeat (first | exact Rep.here | apply Rep.there)) (by rw [List.length_append, u8s_length]; omega) fun wx H => ⟨⟨_, ⟨j + 1, by omega, ?_, ?_⟩, H⟩, ?_⟩
    · rw [W_id (by omega) (by omega)]; rfl
    · rw [mem_set (by omega), show (a + (j : Int)).toNat = a.toNat + j by omega, over_succ (by omega) (by omega)]
    · rw [W_id (by omega) (by omega)]
      show ((xs.length : Int) - ((j : Int) + 1)).toNat < ((xs.length : Int) - (j : Int)).toNat
      omega
  · have h := of_decide_eq_false h
    have : j = xs.length := by omega
    subst this
    rw [List.take_length] at H hol
    exact ⟨_, ⟨rfl, rfl⟩, (mem_shut H hol.symm (by rw [hol]; exact hc) (over_range hr hx) (by rw [hol]; exact hl)).dp⟩
theorem refWipe_t (b : Nat) (bs : List Int) (a s : Int) : Tri P F.crierref04_Mem_Wipe [ptr b, winV a s] [memI b bs] fun r L' => r = .int .i64 (if holdsB bs.length a s then 0 else 42) ∧ L' = [memI b (if holdsB bs.length a s then over bs a.toNat (List.replicate s.toNat 0) else bs)] := by
  intro w S hS
  refine crierref04_Mem_Wipe_cv ?_
  unfold crierref04_Mem_Wipe
  have H := Own.start hS
  refine alc_o H fun bx wx H => ?_
  repeat (first | refine ldI_a H ?_ | refine ldL_a H ?_ | refine ldB_a H ?_ | refine ldP_a H ?_ | refine ldS_a H ?_)
  refine call_pa H (refHolds_t b bs a s) fun wx H => ?_
  refine ⟨_, rfl, ?_⟩
  cases hh : holdsB bs.length a s
  · exact cnd_i (fun _ => ⟨_, ⟨rfl, rfl⟩, H.dp⟩) (fun h => by cases h)
  refine cnd_i (fun h => by cases h) fun _ => ?_
  obtain ⟨g1, g2, g3, g4⟩ := holdsB_iff.1 hh
  obtain ⟨d, c, rest, tb, td, H, hc, hr, hl⟩ := mem_open H (b := b) (bs := bs) (by repeat (first | exact Pick.here | apply Pick.there))
  refine loop_o (fun (st : Int) L => ∃ j : Nat, j ≤ s.toNat ∧ st = j ∧ L = [row b [.slice (some ⟨d, 0, none⟩) bs.length c] tb, row d (u8s (over bs a.toNat (List.replicate j 0)) ++ rest) td, row bx [.int .i64 a, .int .i64 s] tWin])
    (fun (st : Int) => (s - st).toNat) H ⟨0, by omega, rfl, by simp [over]⟩ ?_
  rintro _ _ wx ⟨j, hj, rfl, rfl⟩ H
  unfold crierref04_Mem_Wipe_l0
  have hol : (over bs a.toNat (List.replicate j 0)).length = bs.length := over_length (by simp; omega)
  repeat (first | refine ldI_a H ?_ | refine ldL_a H ?_ | refine ldB_a H ?_ | refine ldP_a H ?_ | refine ldS_a H ?_)
  refine cnd_i (fun h => ?_) fun h => ?_
  · have h := of_decide_eq_true h
    refine drw_o H fun wx H => ?_
    repeat (first | refine ldI_a H ?_ | refine ldL_a H ?_ | refine ldB_a H ?_ | refine ldP_a H ?_ | refine ldS_a H ?_)
    rw [W_id (n := a + _) (by omega) (by omega)]
    refine ⟨⟨by omega, by omega⟩, ?_⟩
    show st1 _ _ _ _
    rw [add_lit, Nat.mul_one, Nat.zero_add]
    refine st1_o H (by repeat (first | exact Rep.here | apply Rep.there)) (by rw [List.length_append, u8s_length]; omega) fun wx H => ⟨⟨_, ⟨j + 1, by omega, ?_, ?_⟩, H⟩, ?_⟩
    · rw [W_id (by omega) (by omega)]; rfl
    · rw [mem_set (by omega), show (a + (j : Int)).toNat = a.toNat + j by omega]
      have := over_succ (bs := bs) (xs := List.replicate (j + 1) 0) (k := a.toNat) (i := j) (by omega) (by simp)
      simp only [List.take_replicate, List.getElem_replicate, Nat.min_self] at this
      rw [show min j (j + 1) = j by omega] at this
      rw [this]
    · rw [W_id (by omega) (by omega)]
      show (s - ((j : Int) + 1)).toNat < (s - (j : Int)).toNat
      omega
  · have h := of_decide_eq_false h
    have : j = s.toNat := by omega
    subst this
    exact ⟨_, ⟨rfl, rfl⟩, (mem_shut H hol.symm (by rw [hol]; exact hc) (over_range hr (by intro x hx; rw [(List.mem_replicate.1 hx).2]; omega)) (by rw [hol]; exact hl)).dp⟩
theorem cut_all (bs : List Int) : cut bs 0 bs.length = bs := by simp [cut]
theorem same_t (b b' : Nat) (bs : List Int) : Tri P F.crierlaw04_Same [ptr b, ptr b'] [memI b bs, memI b' bs] fun v L' => v = .bool true ∧ L' = [memI b bs, memI b' bs] := by
  intro w S hS
  refine crierlaw04_Same_cv ?_
  unfold crierlaw04_Same
  have H := Own.start hS
  obtain ⟨d, c, rest, tb, td, H, hc, hr, hl⟩ := mem_open H (b := b') (bs := bs) (by repeat (first | exact Pick.here | apply Pick.there))
  repeat (first | refine ldI_a H ?_ | refine ldL_a H ?_ | refine ldB_a H ?_ | refine ldP_a H ?_ | refine ldS_a H ?_)
  refine call_oa H (bytes_t b bs 0 bs.length) fun vx L' wx hq H => ?_
  rw [if_pos (holdsB_iff.2 (by omega))] at hq
  obtain ⟨p1, c1, rfl, rfl⟩ := hq
  simp only [List.cons_append, List.nil_append] at H
  refine ⟨_, _, _, _, rfl, join_o ?_⟩
  refine drw_o H fun wx H => ?_
  repeat (first | refine ldI_a H ?_ | refine ldL_a H ?_ | refine ldB_a H ?_ | refine ldP_a H ?_ | refine ldS_a H ?_)
  refine call_pa H (size_t b bs) fun wx H => ?_
  refine ⟨_, rfl, rfl, ldL_o H (by repeat (first | exact Pick.here | apply Pick.there)) (by rfl) rfl, cnd_i (fun _ => cnd_i (fun _ => ?_) (fun h => by cases h)) fun h => by simp at h⟩
  have hcl : cut bs (0 : Int).toNat (bs.length : Int).toNat = bs := by simp [cut]
  rw [hcl] at H
  refine bts_i (H.sl (p := p1) (c := c1) (by repeat (first | exact Pick.here | apply Pick.there))).1 (by simp) ?_
  repeat (first | refine ldI_a H ?_ | refine ldL_a H ?_ | refine ldB_a H ?_ | refine ldP_a H ?_ | refine ldS_a H ?_)
  have hd := H.row (b := d) (by repeat (first | exact Pick.here | apply Pick.there))
  refine bts_i (xs := bs) (fun j u hj => ⟨_, rfl, ?_⟩) rfl ?_
  · have hj' : j < bs.length := by have := (List.getElem?_eq_some_iff.1 hj).1; rwa [u8s_length] at this
    rw [add_lit, Nat.zero_add, hd.cell, List.getElem?_append_left (by rw [u8s_length]; exact hj')]; exact hj
  · refine ⟨_, ⟨by simp, rfl⟩, ?_⟩
    exact (mem_shut (F := [own tByte 1 (.slice p1 (bs.length : Int).toNat c1) (bs.length : Int).toNat (u8s bs), memI b bs]) (H.dp) rfl hc hr hl).dp
end Go.Proofs.YtggmapokmlbgbaaDoor
/-
  mem: the document's memory: a number is read.
-/
namespace Go.Proofs.YtggmapokmlbgbaaDoor
open Go Go.RowKit X
set_option maxRecDepth 100000
set_option linter.unusedVariables false
theorem refRead_t (b : Nat) (bs : List Int) (a s o n : Int) : Tri P F.crierref04_Mem_Read [ptr b, winV a s, .int .i64 o, .int .i64 n] [memI b bs] fun v L' => v = readV bs a s o n ∧ L' = [memI b bs] := by
  intro w S hS
  refine crierref04_Mem_Read_cv ?_
  unfold crierref04_Mem_Read
  have H := Own.start hS
  refine alc_o H fun bx wx H => ?_
  repeat (first | refine ldI_a H ?_ | refine ldL_a H ?_ | refine ldB_a H ?_ | refine ldP_a H ?_ | refine ldS_a H ?_)
  refine call_pa H (refHolds_t b bs a s) fun wx H => ?_
  refine ⟨_, rfl, ?_⟩
  cases hh : holdsB bs.length a s
  · refine cnd_i (fun _ => ⟨_, ⟨?_, rfl⟩, H.dp⟩) (fun h => by cases h)
    have : errE bs.length a s o n = 42 := by simp [errE, hh]
    simp [readV, this]
  refine cnd_i (fun h => by cases h) fun _ => ?_
  repeat (first | refine ldI_a H ?_ | refine ldL_a H ?_ | refine ldB_a H ?_ | refine ldP_a H ?_ | refine ldS_a H ?_)
  refine call_pa H (tri_plain (refMay_plain s o n)) fun wx H => ?_
  have he : errE bs.length a s o n = mayE s o n := by simp [errE, hh]
  refine ⟨_, rfl, cnd_i (fun h => ⟨_, ⟨?_, rfl⟩, H.dp⟩) fun h => ?_⟩
  · have h : mayE s o n ≠ 0 := by simpa using h
    simp [readV, he, h]
  have h : mayE s o n = 0 := by simpa using h
  have hz : errE bs.length a s o n = 0 := by rw [he, h]
  obtain ⟨d, c, rest, tb, td, H, hc, hr, hl⟩ := mem_open H (b := b) (bs := bs) (by repeat (first | exact Pick.here | apply Pick.there))
  obtain ⟨a0, o0, hn, ht, hlen, _, _, _⟩ := errE_ok hz hl
  refine loop_o (fun (st : Int × Int) L => ∃ i : Nat, i ≤ n.toNat ∧ st.2 = n - 1 - i ∧ st.1 = le (cut bs ((a + o).toNat + (n.toNat - i)) i) ∧ L = [row b [.slice (some ⟨d, 0, none⟩) bs.length c] tb, row d (u8s bs ++ rest) td, row bx [.int .i64 a, .int .i64 s] tWin])
    (fun (st : Int × Int) => (st.2 + 1).toNat) H ⟨0, by omega, by rw [W_id (by omega) (by omega)]; simp, by simp [cut, le], rfl⟩ ?_
  rintro ⟨acc, i'⟩ _ wx ⟨i, hi, hi', hacc, rfl⟩ H
  simp only at hi' hacc
  subst hi' hacc
  unfold crierref04_Mem_Read_l0
  dsimp only
  refine cnd_i (fun h => ?_) fun h => ?_
  · have h := of_decide_eq_true h
    refine drw_o H fun wx H => ?_
    repeat (first | refine ldI_a H ?_ | refine ldL_a H ?_ | refine ldB_a H ?_ | refine ldP_a H ?_ | refine ldS_a H ?_)
    rw [W_id (n := a + o) (by omega) (by omega), W_id (n := a + o + _) (by omega) (by omega)]
    refine ⟨by omega, ?_⟩
    show ldI _ _ _ _
    have hk : (a + o + (n - 1 - (i : Int))).toNat < bs.length := by omega
    rw [add_lit, Nat.mul_one, Nat.zero_add]
    refine ldI_o H (by repeat (first | exact Pick.here | apply Pick.there)) (mem_get hk) ?_
    have hcut : cut bs ((a + o).toNat + (n.toNat - (i + 1))) (i + 1) = bs[(a + o + (n - 1 - (i : Int))).toNat] :: cut bs ((a + o).toNat + (n.toNat - i)) i := by
      have e : (a + o + (n - 1 - (i : Int))).toNat = (a + o).toNat + (n.toNat - (i + 1)) := by omega
      simp only [e]
      have hk' : (a + o).toNat + (n.toNat - (i + 1)) < bs.length := by omega
      unfold cut
      rw [List.drop_eq_getElem_cons hk', List.take_succ_cons]
      congr 3
      omega
    have hb := hr _ (List.getElem_mem hk)
    have hle := le_nonneg (bs := cut bs ((a + o).toNat + (n.toNat - i)) i) fun x hx => hr x (cut_mem hx)
    rw [cut_length (by omega)] at hle
    have hp : (256 : Int) ^ i ≤ 256 ^ 7 := by
      have : (256 : Nat) ^ i ≤ 256 ^ 7 := Nat.pow_le_pow_right (by omega) (by omega)
      exact_mod_cast this
    have u : ∀ m : Int, 0 ≤ m → m < 18446744073709551616 → IntKind.u64.wrap m = m := by
      intro m h1 h2
      simp [IntKind.wrap, IntKind.signed, IntKind.bits]; omega
    have h7 : (256 : Int) ^ 7 = 72057594037927936 := by decide
    refine ⟨⟨_, ⟨i + 1, by omega, ?_, ?_, rfl⟩, H⟩, ?_⟩
    · rw [W_id (by omega) (by omega)]; push_cast; omega
    · show IntKind.u64.wrap _ = _
      rw [u (_ * 256) (by omega) (by omega), u (bs[_]) hb.1 (by omega), u _ (by omega) (by omega), hcut]
      simp only [le]
      omega
    · show (IntKind.i64.wrap (n - 1 - (i : Int) - 1) + 1).toNat < (n - 1 - (i : Int) + 1).toNat
      rw [W_id (by omega) (by omega)]; omega
  · have h := of_decide_eq_false h
    have : i = n.toNat := by omega
    subst this
    refine ⟨_, ⟨?_, rfl⟩, (mem_shut H rfl hc hr hl).dp⟩
    simp [readV, hz]
end Go.Proofs.YtggmapokmlbgbaaDoor
