/-
  cmd: a command's words, reckoned; the command of its words is the command again.
-/
import Derived.Test.YtggmapokmlbgbaaDoorE2
import Derived.Test.YtggmapokmlbgbaaDoorMA
namespace Go.Proofs.YtggmapokmlbgbaaDoor
open Go Go.RowKit X
set_option maxRecDepth 100000
set_option linter.unusedVariables false
set_option linter.unusedSimpArgs false
set_option maxHeartbeats 1000000
theorem insB_eq {a n : Int} {f : Nat} (hf : f < 64) (ha : 0 ≤ a ∧ a < 2 ^ f) (hn : 0 ≤ n) (h : n * 2 ^ f < 2 ^ 64) : insB a n f = a + n * 2 ^ f := by
  unfold insB
  have e2 : min (Int.toNat (f : Int)) IntKind.u64.bits = f := by simp [IntKind.bits]; omega
  rw [e2]
  obtain ⟨m, rfl⟩ := Int.eq_ofNat_of_zero_le ha.1
  obtain ⟨y, rfl⟩ := Int.eq_ofNat_of_zero_le hn
  have hm : m < 2 ^ f := by have := ha.2; exact_mod_cast this
  have hk : y * 2 ^ f < 2 ^ 64 := by exact_mod_cast h
  have hp : 0 < 2 ^ f := Nat.pow_pos (by omega)
  have hle : 2 ^ f ≤ 2 ^ 63 := Nat.pow_le_pow_right (by omega) (by omega)
  have hy : y < 2 ^ 64 := Nat.lt_of_le_of_lt (Nat.le_mul_of_pos_right y hp) hk
  have w1 : IntKind.u64.wrap (y : Int) = y := by simp [IntKind.wrap, IntKind.signed, IntKind.bits]; omega
  rw [w1]
  have hc : ((y : Int) * 2 ^ f) = ((y * 2 ^ f : Nat) : Int) := by push_cast; rfl
  rw [hc]
  have hor : (y * 2 ^ f) ||| m = y * 2 ^ f + m := by
    rw [← Nat.shiftLeft_eq]; exact (Nat.shiftLeft_add_eq_or_of_lt hm y).symm
  generalize y * 2 ^ f = k at *
  have w2 : IntKind.u64.wrap (k : Int) = k := by simp [IntKind.wrap, IntKind.signed, IntKind.bits]; omega
  rw [w2]
  have hm64 : m < 2 ^ 64 := by omega
  have hsum : k ||| m < 2 ^ 64 := Nat.or_lt_two_pow hk hm64
  have hb : (BitVec.ofInt 64 (m : Int) ||| BitVec.ofInt 64 (k : Int)).toNat = m + k := by
    rw [BitVec.toNat_or, BitVec.ofInt_natCast, BitVec.ofInt_natCast, BitVec.toNat_ofNat, BitVec.toNat_ofNat, Nat.mod_eq_of_lt hm64, Nat.mod_eq_of_lt hk, Nat.or_comm, hor, Nat.add_comm]
  show IntKind.u64.wrap _ = _
  have hb' : (BitVec.ofInt (IntKind.u64).bits (m : Int) ||| BitVec.ofInt (IntKind.u64).bits (k : Int)).toNat = m + k := hb
  rw [hb']
  have w3 : IntKind.u64.wrap ((m + k : Nat) : Int) = (m + k : Nat) := by
    simp [IntKind.wrap, IntKind.signed, IntKind.bits]
    omega
  rw [w3]
  push_cast; rfl
theorem ext_eq {a : Int} {f s : Nat} (hf : f < 64) (hs : s ≤ 62) (ha : 0 ≤ a ∧ a < 2 ^ 64) : ext a f s = a / 2 ^ f % 2 ^ s := by
  unfold ext
  have e1 : min (Int.toNat (f : Int)) IntKind.u64.bits = f := by simp [IntKind.bits]; omega
  have e2 : min (Int.toNat (s : Int)) IntKind.u64.bits = s := by simp [IntKind.bits]; omega
  rw [e1, e2]
  have hp : (0 : Int) < 2 ^ f := Int.pow_pos (by omega)
  have hle : (2 : Nat) ^ s ≤ 2 ^ 62 := Nat.pow_le_pow_right (by omega) hs
  have hps : 0 < (2 : Nat) ^ s := Nat.pow_pos (by omega)
  have e3 : IntKind.u64.wrap (IntKind.u64.wrap (1 * 2 ^ s) - 1) = ((2 ^ s - 1 : Nat) : Int) := by
    have : (1 * 2 ^ s : Int) = ((2 ^ s : Nat) : Int) := by push_cast; omega
    rw [this]
    generalize (2 : Nat) ^ s = y at *
    simp [IntKind.wrap, IntKind.signed, IntKind.bits]
    omega
  rw [e3, Int.fdiv_eq_ediv_of_nonneg _ (by omega)]
  have hd0 : 0 ≤ a / 2 ^ f := Int.ediv_nonneg ha.1 (by omega)
  have hd1 : a / 2 ^ f < 2 ^ 64 := Int.lt_of_le_of_lt (Int.ediv_le_self _ ha.1) ha.2
  rw [and_low hd0 hd1 s (by omega)]
  have hq : (2 : Int) ^ s = ((2 ^ s : Nat) : Int) := by push_cast; rfl
  rw [hq]
  generalize (2 : Nat) ^ s = y at *
  generalize a / 2 ^ f = z at *
  have h1 := Int.emod_nonneg z (b := (y : Int)) (by omega)
  have h2 := Int.emod_lt_of_pos z (b := (y : Int)) (by omega)
  rw [W_id (by omega) (by omega)]
theorem and_i64 {a : Int} (h0 : 0 ≤ a) (h1 : a < 2 ^ 63) : bitX .and .i64 a 255 = a % 256 := by
  obtain ⟨x, rfl⟩ := Int.eq_ofNat_of_zero_le h0
  have hx : x < 2 ^ 63 := by omega
  show IntKind.i64.wrap ((BitVec.ofInt 64 (x : Int) &&& BitVec.ofInt 64 ((255 : Nat) : Int)).toNat : Int) = _
  rw [BitVec.toNat_and, BitVec.ofInt_natCast, BitVec.ofInt_natCast, BitVec.toNat_ofNat, BitVec.toNat_ofNat, Nat.mod_eq_of_lt (by omega), Nat.mod_eq_of_lt (by omega), show (255 : Nat) = 2 ^ 8 - 1 from rfl, Nat.and_two_pow_sub_one_eq_mod]
  rw [W_id (by omega) (by omega)]; push_cast; rfl
/-- the words as sums -/
def wS (c : Cm) : List Int := [c.op + c.dev * 4294967296, c.ev + (if c.op = 14 then 0 else c.num) * 4294967296 + c.bits, c.coll + c.tgt * 65536 + c.addr / 256 * 256 + (if c.val = true then 1 else 0) * 9223372036854775808, (if c.op = 14 then c.num else 0) * 65536]
def stD (ws : List Int) (k : Nat) (c : Cm) : Cm := if ph c.op k then c.put (ext (ws.getD (pw c.op k) 0) (pf c.op k) (ps c.op k)) k else c
theorem cd_eight (ws : List Int) : cd ws 8 = stD ws 7 (stD ws 6 (stD ws 5 (stD ws 4 (stD ws 3 (stD ws 2 (stD ws 1 (stD ws 0 (cd ws 0)))))))) := rfl
theorem l4 {a b c d a' b' c' d' : Int} (h1 : a = a') (h2 : b = b') (h3 : c = c') (h4 : d = d') : [a, b, c, d] = [a', b', c', d'] := by rw [h1, h2, h3, h4]
theorem cd_zero (a b c d : Int) : cd [a, b, c, d] 0 = ⟨IntKind.i64.wrap (bitX .and .u64 a 255), 0, 0, 0, 0, 0, 0, 0, false⟩ := rfl
theorem low8 {a : Int} (h0 : 0 ≤ a) (h1 : a < 2 ^ 64) : IntKind.i64.wrap (bitX .and .u64 a 255) = a % 256 := by
  have h : bitX .and .u64 a 255 = a % 2 ^ 8 := and_low h0 h1 8 (by omega)
  rw [h, W_id (by omega) (by omega)]; rfl
def Fld (c : Cm) : Prop := ∀ k, k < 8 → 0 ≤ c.get k ∧ c.get k < 2 ^ ps c.op k ∧ (ph c.op k = false → c.get k = 0)
theorem ps_le (op : Int) (k : Nat) : ps op k ≤ 40 := by unfold ps; split <;> (try split) <;> omega
theorem fld_of {c : Cm} (h : (List.range 8).any (badB c) = false) : Fld c := by
  intro k hk
  have hb : badB c k = false := by
    cases e : badB c k with
    | false => rfl
    | true => rw [List.any_eq_true.2 ⟨k, List.mem_range.2 hk, e⟩] at h; cases h
  unfold badB at hb
  have e2 : min (Int.toNat ((ps c.op k : Nat) : Int)) IntKind.i64.bits = ps c.op k := by have := ps_le c.op k; simp [IntKind.bits]; omega
  have hle : (2 : Nat) ^ ps c.op k ≤ 2 ^ 40 := Nat.pow_le_pow_right (by omega) (ps_le _ _)
  have e3 : IntKind.i64.wrap (1 * 2 ^ ps c.op k) = 2 ^ ps c.op k := by
    have : (1 * 2 ^ ps c.op k : Int) = ((2 ^ ps c.op k : Nat) : Int) := by push_cast; omega
    rw [this]
    have h2 : (2 : Int) ^ ps c.op k = ((2 ^ ps c.op k : Nat) : Int) := by push_cast; rfl
    rw [h2]
    generalize (2 : Nat) ^ ps c.op k = y at *
    exact W_id (by omega) (by omega)
  rw [e2, e3] at hb
  simp only [Bool.or_eq_false_iff, decide_eq_false_iff_not, Bool.and_eq_false_iff] at hb
  refine ⟨by omega, by omega, fun hh => ?_⟩
  rcases hb.1 with h1 | h1
  · rw [hh] at h1; cases h1
  · simpa using h1

theorem rt_1 (dev ev num coll tgt bits addr : Int) (val : Bool) (hA : addr % 256 = 0) (f : Fld ⟨1, dev, ev, num, coll, tgt, bits, addr, val⟩) :
    wd ⟨1, dev, ev, num, coll, tgt, bits, addr, val⟩ 8 = wS ⟨1, dev, ev, num, coll, tgt, bits, addr, val⟩ ∧ cd (wS ⟨1, dev, ev, num, coll, tgt, bits, addr, val⟩) 8 = ⟨1, dev, ev, num, coll, tgt, bits, addr, val⟩ := by
  have f0 : 0 ≤ dev ∧ dev < 2 ^ 32 := ⟨(f 0 (by omega)).1, (f 0 (by omega)).2.1⟩
  have f1 : 0 ≤ ev ∧ ev < 2 ^ 32 := ⟨(f 1 (by omega)).1, (f 1 (by omega)).2.1⟩
  have f2 : num = 0 := (f 2 (by omega)).2.2 (by simp [ph])
  have f3 : 0 ≤ coll ∧ coll < 2 ^ 16 := ⟨(f 3 (by omega)).1, (f 3 (by omega)).2.1⟩
  have f4 : tgt = 0 := (f 4 (by omega)).2.2 (by simp [ph])
  have f5 : bits = 0 := (f 5 (by omega)).2.2 (by simp [ph])
  have f6 : (addr / 256) = 0 := (f 6 (by omega)).2.2 (by simp [ph])
  have f7 : val = false := by have h := (f 7 (by omega)).2.2 (by simp [ph]); cases val <;> first | rfl | cases h
  subst f7
  have e : wd ⟨1, dev, ev, num, coll, tgt, bits, addr, false⟩ 8 = wS ⟨1, dev, ev, num, coll, tgt, bits, addr, false⟩ := by
    show [insB (1) dev 32, insB (0) ev 0, insB (0) coll 0, 0] = _
    rw [insB_eq (a := 1) (n := dev) (f := 32) (by omega) (by omega) (by omega) (by omega), insB_eq (a := 0) (n := ev) (f := 0) (by omega) (by omega) (by omega) (by omega), insB_eq (a := 0) (n := coll) (f := 0) (by omega) (by omega) (by omega) (by omega)]
    unfold wS
    dsimp only
    simp only [show ¬ ((1 : Int) = 14) by decide, if_false, Bool.false_eq_true, if_true]
    exact l4 (by omega) (by omega) (by omega) (by omega)
  refine ⟨e, ?_⟩
  unfold wS
  dsimp only
  simp only [show ¬ ((1 : Int) = 14) by decide, if_false, Bool.false_eq_true, if_true]
  have h0 : cd [1 + dev * 4294967296, ev + num * 4294967296 + bits, coll + tgt * 65536 + addr / 256 * 256 + 0 * 9223372036854775808, 0 * 65536] 0 = ⟨1, 0, 0, 0, 0, 0, 0, 0, false⟩ := by
    rw [cd_zero, low8 (by omega) (by omega), show (1 + dev * 4294967296) % 256 = 1 by omega]
  have hd : ∀ W0 W1 W2 W3 : Int, cd [W0, W1, W2, W3] 0 = ⟨1, 0, 0, 0, 0, 0, 0, 0, false⟩ → cd [W0, W1, W2, W3] 8 = ⟨1, ext W0 32 32, ext W1 0 32, 0, ext W2 0 16, 0, 0, 0, false⟩ := by
    intro W0 W1 W2 W3 h
    rw [cd_eight, h]
    simp [stD, ph, pw, pf, ps, Cm.put]
  rw [hd _ _ _ _ h0]
  have x0 : ext (1 + dev * 4294967296) 32 32 = dev := by rw [ext_eq (by omega) (by omega) (by omega)]; omega
  have x1 : ext (ev + num * 4294967296 + bits) 0 32 = ev := by rw [ext_eq (by omega) (by omega) (by omega)]; omega
  have x3 : ext (coll + tgt * 65536 + addr / 256 * 256 + 0 * 9223372036854775808) 0 16 = coll := by rw [ext_eq (by omega) (by omega) (by omega)]; omega
  rw [x0, x1, x3]
  subst f2
  subst f4
  subst f5
  obtain rfl : addr = 0 := by omega
  try rfl
theorem rt_3 (dev ev num coll tgt bits addr : Int) (val : Bool) (hA : addr % 256 = 0) (f : Fld ⟨3, dev, ev, num, coll, tgt, bits, addr, val⟩) :
    wd ⟨3, dev, ev, num, coll, tgt, bits, addr, val⟩ 8 = wS ⟨3, dev, ev, num, coll, tgt, bits, addr, val⟩ ∧ cd (wS ⟨3, dev, ev, num, coll, tgt, bits, addr, val⟩) 8 = ⟨3, dev, ev, num, coll, tgt, bits, addr, val⟩ := by
  have f0 : 0 ≤ dev ∧ dev < 2 ^ 32 := ⟨(f 0 (by omega)).1, (f 0 (by omega)).2.1⟩
  have f1 : 0 ≤ ev ∧ ev < 2 ^ 32 := ⟨(f 1 (by omega)).1, (f 1 (by omega)).2.1⟩
  have f2 : num = 0 := (f 2 (by omega)).2.2 (by simp [ph])
  have f3 : coll = 0 := (f 3 (by omega)).2.2 (by simp [ph])
  have f4 : tgt = 0 := (f 4 (by omega)).2.2 (by simp [ph])
  have f5 : bits = 0 := (f 5 (by omega)).2.2 (by simp [ph])
  have f6 : (addr / 256) = 0 := (f 6 (by omega)).2.2 (by simp [ph])
  have f7 : val = false := by have h := (f 7 (by omega)).2.2 (by simp [ph]); cases val <;> first | rfl | cases h
  subst f7
  have e : wd ⟨3, dev, ev, num, coll, tgt, bits, addr, false⟩ 8 = wS ⟨3, dev, ev, num, coll, tgt, bits, addr, false⟩ := by
    show [insB (3) dev 32, insB (0) ev 0, 0, 0] = _
    rw [insB_eq (a := 3) (n := dev) (f := 32) (by omega) (by omega) (by omega) (by omega), insB_eq (a := 0) (n := ev) (f := 0) (by omega) (by omega) (by omega) (by omega)]
    unfold wS
    dsimp only
    simp only [show ¬ ((3 : Int) = 14) by decide, if_false, Bool.false_eq_true, if_true]
    exact l4 (by omega) (by omega) (by omega) (by omega)
  refine ⟨e, ?_⟩
  unfold wS
  dsimp only
  simp only [show ¬ ((3 : Int) = 14) by decide, if_false, Bool.false_eq_true, if_true]
  have h0 : cd [3 + dev * 4294967296, ev + num * 4294967296 + bits, coll + tgt * 65536 + addr / 256 * 256 + 0 * 9223372036854775808, 0 * 65536] 0 = ⟨3, 0, 0, 0, 0, 0, 0, 0, false⟩ := by
    rw [cd_zero, low8 (by omega) (by omega), show (3 + dev * 4294967296) % 256 = 3 by omega]
  have hd : ∀ W0 W1 W2 W3 : Int, cd [W0, W1, W2, W3] 0 = ⟨3, 0, 0, 0, 0, 0, 0, 0, false⟩ → cd [W0, W1, W2, W3] 8 = ⟨3, ext W0 32 32, ext W1 0 32, 0, 0, 0, 0, 0, false⟩ := by
    intro W0 W1 W2 W3 h
    rw [cd_eight, h]
    simp [stD, ph, pw, pf, ps, Cm.put]
  rw [hd _ _ _ _ h0]
  have x0 : ext (3 + dev * 4294967296) 32 32 = dev := by rw [ext_eq (by omega) (by omega) (by omega)]; omega
  have x1 : ext (ev + num * 4294967296 + bits) 0 32 = ev := by rw [ext_eq (by omega) (by omega) (by omega)]; omega
  rw [x0, x1]
  subst f2
  subst f3
  subst f4
  subst f5
  obtain rfl : addr = 0 := by omega
  try rfl
theorem rt_4 (dev ev num coll tgt bits addr : Int) (val : Bool) (hA : addr % 256 = 0) (f : Fld ⟨4, dev, ev, num, coll, tgt, bits, addr, val⟩) :
    wd ⟨4, dev, ev, num, coll, tgt, bits, addr, val⟩ 8 = wS ⟨4, dev, ev, num, coll, tgt, bits, addr, val⟩ ∧ cd (wS ⟨4, dev, ev, num, coll, tgt, bits, addr, val⟩) 8 = ⟨4, dev, ev, num, coll, tgt, bits, addr, val⟩ := by
  have f0 : 0 ≤ dev ∧ dev < 2 ^ 32 := ⟨(f 0 (by omega)).1, (f 0 (by omega)).2.1⟩
  have f1 : 0 ≤ ev ∧ ev < 2 ^ 32 := ⟨(f 1 (by omega)).1, (f 1 (by omega)).2.1⟩
  have f2 : num = 0 := (f 2 (by omega)).2.2 (by simp [ph])
  have f3 : coll = 0 := (f 3 (by omega)).2.2 (by simp [ph])
  have f4 : tgt = 0 := (f 4 (by omega)).2.2 (by simp [ph])
  have f5 : bits = 0 := (f 5 (by omega)).2.2 (by simp [ph])
  have f6 : (addr / 256) = 0 := (f 6 (by omega)).2.2 (by simp [ph])
  have f7 : val = false := by have h := (f 7 (by omega)).2.2 (by simp [ph]); cases val <;> first | rfl | cases h
  subst f7
  have e : wd ⟨4, dev, ev, num, coll, tgt, bits, addr, false⟩ 8 = wS ⟨4, dev, ev, num, coll, tgt, bits, addr, false⟩ := by
    show [insB (4) dev 32, insB (0) ev 0, 0, 0] = _
    rw [insB_eq (a := 4) (n := dev) (f := 32) (by omega) (by omega) (by omega) (by omega), insB_eq (a := 0) (n := ev) (f := 0) (by omega) (by omega) (by omega) (by omega)]
    unfold wS
    dsimp only
    simp only [show ¬ ((4 : Int) = 14) by decide, if_false, Bool.false_eq_true, if_true]
    exact l4 (by omega) (by omega) (by omega) (by omega)
  refine ⟨e, ?_⟩
  unfold wS
  dsimp only
  simp only [show ¬ ((4 : Int) = 14) by decide, if_false, Bool.false_eq_true, if_true]
  have h0 : cd [4 + dev * 4294967296, ev + num * 4294967296 + bits, coll + tgt * 65536 + addr / 256 * 256 + 0 * 9223372036854775808, 0 * 65536] 0 = ⟨4, 0, 0, 0, 0, 0, 0, 0, false⟩ := by
    rw [cd_zero, low8 (by omega) (by omega), show (4 + dev * 4294967296) % 256 = 4 by omega]
  have hd : ∀ W0 W1 W2 W3 : Int, cd [W0, W1, W2, W3] 0 = ⟨4, 0, 0, 0, 0, 0, 0, 0, false⟩ → cd [W0, W1, W2, W3] 8 = ⟨4, ext W0 32 32, ext W1 0 32, 0, 0, 0, 0, 0, false⟩ := by
    intro W0 W1 W2 W3 h
    rw [cd_eight, h]
    simp [stD, ph, pw, pf, ps, Cm.put]
  rw [hd _ _ _ _ h0]
  have x0 : ext (4 + dev * 4294967296) 32 32 = dev := by rw [ext_eq (by omega) (by omega) (by omega)]; omega
  have x1 : ext (ev + num * 4294967296 + bits) 0 32 = ev := by rw [ext_eq (by omega) (by omega) (by omega)]; omega
  rw [x0, x1]
  subst f2
  subst f3
  subst f4
  subst f5
  obtain rfl : addr = 0 := by omega
  try rfl
theorem rt_5 (dev ev num coll tgt bits addr : Int) (val : Bool) (hA : addr % 256 = 0) (f : Fld ⟨5, dev, ev, num, coll, tgt, bits, addr, val⟩) :
    wd ⟨5, dev, ev, num, coll, tgt, bits, addr, val⟩ 8 = wS ⟨5, dev, ev, num, coll, tgt, bits, addr, val⟩ ∧ cd (wS ⟨5, dev, ev, num, coll, tgt, bits, addr, val⟩) 8 = ⟨5, dev, ev, num, coll, tgt, bits, addr, val⟩ := by
  have f0 : dev = 0 := (f 0 (by omega)).2.2 (by simp [ph])
  have f1 : ev = 0 := (f 1 (by omega)).2.2 (by simp [ph])
  have f2 : num = 0 := (f 2 (by omega)).2.2 (by simp [ph])
  have f3 : coll = 0 := (f 3 (by omega)).2.2 (by simp [ph])
  have f4 : 0 ≤ tgt ∧ tgt < 2 ^ 16 := ⟨(f 4 (by omega)).1, (f 4 (by omega)).2.1⟩
  have f5 : bits = 0 := (f 5 (by omega)).2.2 (by simp [ph])
  have f6 : (addr / 256) = 0 := (f 6 (by omega)).2.2 (by simp [ph])
  have f7 : val = false := by have h := (f 7 (by omega)).2.2 (by simp [ph]); cases val <;> first | rfl | cases h
  subst f7
  have e : wd ⟨5, dev, ev, num, coll, tgt, bits, addr, false⟩ 8 = wS ⟨5, dev, ev, num, coll, tgt, bits, addr, false⟩ := by
    show [5, 0, insB (0) tgt 16, 0] = _
    rw [insB_eq (a := 0) (n := tgt) (f := 16) (by omega) (by omega) (by omega) (by omega)]
    unfold wS
    dsimp only
    simp only [show ¬ ((5 : Int) = 14) by decide, if_false, Bool.false_eq_true, if_true]
    exact l4 (by omega) (by omega) (by omega) (by omega)
  refine ⟨e, ?_⟩
  unfold wS
  dsimp only
  simp only [show ¬ ((5 : Int) = 14) by decide, if_false, Bool.false_eq_true, if_true]
  have h0 : cd [5 + dev * 4294967296, ev + num * 4294967296 + bits, coll + tgt * 65536 + addr / 256 * 256 + 0 * 9223372036854775808, 0 * 65536] 0 = ⟨5, 0, 0, 0, 0, 0, 0, 0, false⟩ := by
    rw [cd_zero, low8 (by omega) (by omega), show (5 + dev * 4294967296) % 256 = 5 by omega]
  have hd : ∀ W0 W1 W2 W3 : Int, cd [W0, W1, W2, W3] 0 = ⟨5, 0, 0, 0, 0, 0, 0, 0, false⟩ → cd [W0, W1, W2, W3] 8 = ⟨5, 0, 0, 0, 0, ext W2 16 16, 0, 0, false⟩ := by
    intro W0 W1 W2 W3 h
    rw [cd_eight, h]
    simp [stD, ph, pw, pf, ps, Cm.put]
  rw [hd _ _ _ _ h0]
  have x4 : ext (coll + tgt * 65536 + addr / 256 * 256 + 0 * 9223372036854775808) 16 16 = tgt := by rw [ext_eq (by omega) (by omega) (by omega)]; omega
  rw [x4]
  subst f0
  subst f1
  subst f2
  subst f3
  subst f5
  obtain rfl : addr = 0 := by omega
  try rfl
theorem rt_8 (dev ev num coll tgt bits addr : Int) (val : Bool) (hA : addr % 256 = 0) (f : Fld ⟨8, dev, ev, num, coll, tgt, bits, addr, val⟩) :
    wd ⟨8, dev, ev, num, coll, tgt, bits, addr, val⟩ 8 = wS ⟨8, dev, ev, num, coll, tgt, bits, addr, val⟩ ∧ cd (wS ⟨8, dev, ev, num, coll, tgt, bits, addr, val⟩) 8 = ⟨8, dev, ev, num, coll, tgt, bits, addr, val⟩ := by
  have f0 : 0 ≤ dev ∧ dev < 2 ^ 32 := ⟨(f 0 (by omega)).1, (f 0 (by omega)).2.1⟩
  have f1 : ev = 0 := (f 1 (by omega)).2.2 (by simp [ph])
  have f2 : num = 0 := (f 2 (by omega)).2.2 (by simp [ph])
  have f3 : coll = 0 := (f 3 (by omega)).2.2 (by simp [ph])
  have f4 : tgt = 0 := (f 4 (by omega)).2.2 (by simp [ph])
  have f5 : 0 ≤ bits ∧ bits < 2 ^ 5 := ⟨(f 5 (by omega)).1, (f 5 (by omega)).2.1⟩
  have f6 : 0 ≤ (addr / 256) ∧ (addr / 256) < 2 ^ 40 := ⟨(f 6 (by omega)).1, (f 6 (by omega)).2.1⟩
  have f7 : True := trivial
  have hv : (0 : Int) ≤ (if val = true then 1 else 0) ∧ (if val = true then (1 : Int) else 0) ≤ 1 := by cases val <;> decide
  have e : wd ⟨8, dev, ev, num, coll, tgt, bits, addr, val⟩ 8 = wS ⟨8, dev, ev, num, coll, tgt, bits, addr, val⟩ := by
    show [insB (8) dev 32, insB (0) bits 0, insB (insB (0) (addr / 256) 8) (if val = true then 1 else 0) 63, 0] = _
    rw [insB_eq (a := 8) (n := dev) (f := 32) (by omega) (by omega) (by omega) (by omega), insB_eq (a := 0) (n := bits) (f := 0) (by omega) (by omega) (by omega) (by omega), insB_eq (a := 0) (n := (addr / 256)) (f := 8) (by omega) (by omega) (by omega) (by omega), insB_eq (a := 0 + (addr / 256) * 2 ^ 8) (n := (if val = true then 1 else 0)) (f := 63) (by omega) (by omega) (by omega) (by omega)]
    unfold wS
    dsimp only
    simp only [show ¬ ((8 : Int) = 14) by decide, if_false, Bool.false_eq_true, if_true]
    exact l4 (by omega) (by omega) (by omega) (by omega)
  refine ⟨e, ?_⟩
  unfold wS
  dsimp only
  simp only [show ¬ ((8 : Int) = 14) by decide, if_false, Bool.false_eq_true, if_true]
  have h0 : cd [8 + dev * 4294967296, ev + num * 4294967296 + bits, coll + tgt * 65536 + addr / 256 * 256 + (if val = true then 1 else 0) * 9223372036854775808, 0 * 65536] 0 = ⟨8, 0, 0, 0, 0, 0, 0, 0, false⟩ := by
    rw [cd_zero, low8 (by omega) (by omega), show (8 + dev * 4294967296) % 256 = 8 by omega]
  have hd : ∀ W0 W1 W2 W3 : Int, cd [W0, W1, W2, W3] 0 = ⟨8, 0, 0, 0, 0, 0, 0, 0, false⟩ → cd [W0, W1, W2, W3] 8 = ⟨8, ext W0 32 32, 0, 0, 0, 0, ext W1 0 5, IntKind.i64.wrap (ext W2 8 40 * 256), (ext W2 63 1 == 1)⟩ := by
    intro W0 W1 W2 W3 h
    rw [cd_eight, h]
    simp [stD, ph, pw, pf, ps, Cm.put]
  rw [hd _ _ _ _ h0]
  have x0 : ext (8 + dev * 4294967296) 32 32 = dev := by rw [ext_eq (by omega) (by omega) (by omega)]; omega
  have x5 : ext (ev + num * 4294967296 + bits) 0 5 = bits := by rw [ext_eq (by omega) (by omega) (by omega)]; omega
  have x6 : ext (coll + tgt * 65536 + addr / 256 * 256 + (if val = true then 1 else 0) * 9223372036854775808) 8 40 = (addr / 256) := by rw [ext_eq (by omega) (by omega) (by omega)]; omega
  have x7 : ext (coll + tgt * 65536 + addr / 256 * 256 + (if val = true then 1 else 0) * 9223372036854775808) 63 1 = (if val = true then 1 else 0) := by rw [ext_eq (by omega) (by omega) (by omega)]; omega
  rw [x0, x5, x6, x7]
  rw [W_id (by omega) (by omega), show addr / 256 * 256 = addr by omega]
  subst f1
  subst f2
  subst f3
  subst f4
  cases val <;> rfl
theorem rt_9 (dev ev num coll tgt bits addr : Int) (val : Bool) (hA : addr % 256 = 0) (f : Fld ⟨9, dev, ev, num, coll, tgt, bits, addr, val⟩) :
    wd ⟨9, dev, ev, num, coll, tgt, bits, addr, val⟩ 8 = wS ⟨9, dev, ev, num, coll, tgt, bits, addr, val⟩ ∧ cd (wS ⟨9, dev, ev, num, coll, tgt, bits, addr, val⟩) 8 = ⟨9, dev, ev, num, coll, tgt, bits, addr, val⟩ := by
  have f0 : dev = 0 := (f 0 (by omega)).2.2 (by simp [ph])
  have f1 : ev = 0 := (f 1 (by omega)).2.2 (by simp [ph])
  have f2 : num = 0 := (f 2 (by omega)).2.2 (by simp [ph])
  have f3 : 0 ≤ coll ∧ coll < 2 ^ 16 := ⟨(f 3 (by omega)).1, (f 3 (by omega)).2.1⟩
  have f4 : 0 ≤ tgt ∧ tgt < 2 ^ 16 := ⟨(f 4 (by omega)).1, (f 4 (by omega)).2.1⟩
  have f5 : bits = 0 := (f 5 (by omega)).2.2 (by simp [ph])
  have f6 : (addr / 256) = 0 := (f 6 (by omega)).2.2 (by simp [ph])
  have f7 : True := trivial
  have hv : (0 : Int) ≤ (if val = true then 1 else 0) ∧ (if val = true then (1 : Int) else 0) ≤ 1 := by cases val <;> decide
  have e : wd ⟨9, dev, ev, num, coll, tgt, bits, addr, val⟩ 8 = wS ⟨9, dev, ev, num, coll, tgt, bits, addr, val⟩ := by
    show [9, 0, insB (insB (insB (0) coll 0) tgt 16) (if val = true then 1 else 0) 63, 0] = _
    rw [insB_eq (a := 0) (n := coll) (f := 0) (by omega) (by omega) (by omega) (by omega), insB_eq (a := 0 + coll * 2 ^ 0) (n := tgt) (f := 16) (by omega) (by omega) (by omega) (by omega), insB_eq (a := 0 + coll * 2 ^ 0 + tgt * 2 ^ 16) (n := (if val = true then 1 else 0)) (f := 63) (by omega) (by omega) (by omega) (by omega)]
    unfold wS
    dsimp only
    simp only [show ¬ ((9 : Int) = 14) by decide, if_false, Bool.false_eq_true, if_true]
    exact l4 (by omega) (by omega) (by omega) (by omega)
  refine ⟨e, ?_⟩
  unfold wS
  dsimp only
  simp only [show ¬ ((9 : Int) = 14) by decide, if_false, Bool.false_eq_true, if_true]
  have h0 : cd [9 + dev * 4294967296, ev + num * 4294967296 + bits, coll + tgt * 65536 + addr / 256 * 256 + (if val = true then 1 else 0) * 9223372036854775808, 0 * 65536] 0 = ⟨9, 0, 0, 0, 0, 0, 0, 0, false⟩ := by
    rw [cd_zero, low8 (by omega) (by omega), show (9 + dev * 4294967296) % 256 = 9 by omega]
  have hd : ∀ W0 W1 W2 W3 : Int, cd [W0, W1, W2, W3] 0 = ⟨9, 0, 0, 0, 0, 0, 0, 0, false⟩ → cd [W0, W1, W2, W3] 8 = ⟨9, 0, 0, 0, ext W2 0 16, ext W2 16 16, 0, 0, (ext W2 63 1 == 1)⟩ := by
    intro W0 W1 W2 W3 h
    rw [cd_eight, h]
    simp [stD, ph, pw, pf, ps, Cm.put]
  rw [hd _ _ _ _ h0]
  have x3 : ext (coll + tgt * 65536 + addr / 256 * 256 + (if val = true then 1 else 0) * 9223372036854775808) 0 16 = coll := by rw [ext_eq (by omega) (by omega) (by omega)]; omega
  have x4 : ext (coll + tgt * 65536 + addr / 256 * 256 + (if val = true then 1 else 0) * 9223372036854775808) 16 16 = tgt := by rw [ext_eq (by omega) (by omega) (by omega)]; omega
  have x7 : ext (coll + tgt * 65536 + addr / 256 * 256 + (if val = true then 1 else 0) * 9223372036854775808) 63 1 = (if val = true then 1 else 0) := by rw [ext_eq (by omega) (by omega) (by omega)]; omega
  rw [x3, x4, x7]
  subst f0
  subst f1
  subst f2
  subst f5
  obtain rfl : addr = 0 := by omega
  cases val <;> rfl
theorem rt_10 (dev ev num coll tgt bits addr : Int) (val : Bool) (hA : addr % 256 = 0) (f : Fld ⟨10, dev, ev, num, coll, tgt, bits, addr, val⟩) :
    wd ⟨10, dev, ev, num, coll, tgt, bits, addr, val⟩ 8 = wS ⟨10, dev, ev, num, coll, tgt, bits, addr, val⟩ ∧ cd (wS ⟨10, dev, ev, num, coll, tgt, bits, addr, val⟩) 8 = ⟨10, dev, ev, num, coll, tgt, bits, addr, val⟩ := by
  have f0 : 0 ≤ dev ∧ dev < 2 ^ 32 := ⟨(f 0 (by omega)).1, (f 0 (by omega)).2.1⟩
  have f1 : 0 ≤ ev ∧ ev < 2 ^ 32 := ⟨(f 1 (by omega)).1, (f 1 (by omega)).2.1⟩
  have f2 : 0 ≤ num ∧ num < 2 ^ 32 := ⟨(f 2 (by omega)).1, (f 2 (by omega)).2.1⟩
  have f3 : 0 ≤ coll ∧ coll < 2 ^ 16 := ⟨(f 3 (by omega)).1, (f 3 (by omega)).2.1⟩
  have f4 : tgt = 0 := (f 4 (by omega)).2.2 (by simp [ph])
  have f5 : bits = 0 := (f 5 (by omega)).2.2 (by simp [ph])
  have f6 : (addr / 256) = 0 := (f 6 (by omega)).2.2 (by simp [ph])
  have f7 : val = false := by have h := (f 7 (by omega)).2.2 (by simp [ph]); cases val <;> first | rfl | cases h
  subst f7
  have e : wd ⟨10, dev, ev, num, coll, tgt, bits, addr, false⟩ 8 = wS ⟨10, dev, ev, num, coll, tgt, bits, addr, false⟩ := by
    show [insB (10) dev 32, insB (insB (0) ev 0) num 32, insB (0) coll 0, 0] = _
    rw [insB_eq (a := 10) (n := dev) (f := 32) (by omega) (by omega) (by omega) (by omega), insB_eq (a := 0) (n := ev) (f := 0) (by omega) (by omega) (by omega) (by omega), insB_eq (a := 0 + ev * 2 ^ 0) (n := num) (f := 32) (by omega) (by omega) (by omega) (by omega), insB_eq (a := 0) (n := coll) (f := 0) (by omega) (by omega) (by omega) (by omega)]
    unfold wS
    dsimp only
    simp only [show ¬ ((10 : Int) = 14) by decide, if_false, Bool.false_eq_true, if_true]
    exact l4 (by omega) (by omega) (by omega) (by omega)
  refine ⟨e, ?_⟩
  unfold wS
  dsimp only
  simp only [show ¬ ((10 : Int) = 14) by decide, if_false, Bool.false_eq_true, if_true]
  have h0 : cd [10 + dev * 4294967296, ev + num * 4294967296 + bits, coll + tgt * 65536 + addr / 256 * 256 + 0 * 9223372036854775808, 0 * 65536] 0 = ⟨10, 0, 0, 0, 0, 0, 0, 0, false⟩ := by
    rw [cd_zero, low8 (by omega) (by omega), show (10 + dev * 4294967296) % 256 = 10 by omega]
  have hd : ∀ W0 W1 W2 W3 : Int, cd [W0, W1, W2, W3] 0 = ⟨10, 0, 0, 0, 0, 0, 0, 0, false⟩ → cd [W0, W1, W2, W3] 8 = ⟨10, ext W0 32 32, ext W1 0 32, ext W1 32 32, ext W2 0 16, 0, 0, 0, false⟩ := by
    intro W0 W1 W2 W3 h
    rw [cd_eight, h]
    simp [stD, ph, pw, pf, ps, Cm.put]
  rw [hd _ _ _ _ h0]
  have x0 : ext (10 + dev * 4294967296) 32 32 = dev := by rw [ext_eq (by omega) (by omega) (by omega)]; omega
  have x1 : ext (ev + num * 4294967296 + bits) 0 32 = ev := by rw [ext_eq (by omega) (by omega) (by omega)]; omega
  have x2 : ext (ev + num * 4294967296 + bits) 32 32 = num := by rw [ext_eq (by omega) (by omega) (by omega)]; omega
  have x3 : ext (coll + tgt * 65536 + addr / 256 * 256 + 0 * 9223372036854775808) 0 16 = coll := by rw [ext_eq (by omega) (by omega) (by omega)]; omega
  rw [x0, x1, x2, x3]
  subst f4
  subst f5
  obtain rfl : addr = 0 := by omega
  try rfl
theorem rt_11 (dev ev num coll tgt bits addr : Int) (val : Bool) (hA : addr % 256 = 0) (f : Fld ⟨11, dev, ev, num, coll, tgt, bits, addr, val⟩) :
    wd ⟨11, dev, ev, num, coll, tgt, bits, addr, val⟩ 8 = wS ⟨11, dev, ev, num, coll, tgt, bits, addr, val⟩ ∧ cd (wS ⟨11, dev, ev, num, coll, tgt, bits, addr, val⟩) 8 = ⟨11, dev, ev, num, coll, tgt, bits, addr, val⟩ := by
  have f0 : 0 ≤ dev ∧ dev < 2 ^ 32 := ⟨(f 0 (by omega)).1, (f 0 (by omega)).2.1⟩
  have f1 : 0 ≤ ev ∧ ev < 2 ^ 32 := ⟨(f 1 (by omega)).1, (f 1 (by omega)).2.1⟩
  have f2 : num = 0 := (f 2 (by omega)).2.2 (by simp [ph])
  have f3 : 0 ≤ coll ∧ coll < 2 ^ 16 := ⟨(f 3 (by omega)).1, (f 3 (by omega)).2.1⟩
  have f4 : tgt = 0 := (f 4 (by omega)).2.2 (by simp [ph])
  have f5 : bits = 0 := (f 5 (by omega)).2.2 (by simp [ph])
  have f6 : (addr / 256) = 0 := (f 6 (by omega)).2.2 (by simp [ph])
  have f7 : val = false := by have h := (f 7 (by omega)).2.2 (by simp [ph]); cases val <;> first | rfl | cases h
  subst f7
  have e : wd ⟨11, dev, ev, num, coll, tgt, bits, addr, false⟩ 8 = wS ⟨11, dev, ev, num, coll, tgt, bits, addr, false⟩ := by
    show [insB (11) dev 32, insB (0) ev 0, insB (0) coll 0, 0] = _
    rw [insB_eq (a := 11) (n := dev) (f := 32) (by omega) (by omega) (by omega) (by omega), insB_eq (a := 0) (n := ev) (f := 0) (by omega) (by omega) (by omega) (by omega), insB_eq (a := 0) (n := coll) (f := 0) (by omega) (by omega) (by omega) (by omega)]
    unfold wS
    dsimp only
    simp only [show ¬ ((11 : Int) = 14) by decide, if_false, Bool.false_eq_true, if_true]
    exact l4 (by omega) (by omega) (by omega) (by omega)
  refine ⟨e, ?_⟩
  unfold wS
  dsimp only
  simp only [show ¬ ((11 : Int) = 14) by decide, if_false, Bool.false_eq_true, if_true]
  have h0 : cd [11 + dev * 4294967296, ev + num * 4294967296 + bits, coll + tgt * 65536 + addr / 256 * 256 + 0 * 9223372036854775808, 0 * 65536] 0 = ⟨11, 0, 0, 0, 0, 0, 0, 0, false⟩ := by
    rw [cd_zero, low8 (by omega) (by omega), show (11 + dev * 4294967296) % 256 = 11 by omega]
  have hd : ∀ W0 W1 W2 W3 : Int, cd [W0, W1, W2, W3] 0 = ⟨11, 0, 0, 0, 0, 0, 0, 0, false⟩ → cd [W0, W1, W2, W3] 8 = ⟨11, ext W0 32 32, ext W1 0 32, 0, ext W2 0 16, 0, 0, 0, false⟩ := by
    intro W0 W1 W2 W3 h
    rw [cd_eight, h]
    simp [stD, ph, pw, pf, ps, Cm.put]
  rw [hd _ _ _ _ h0]
  have x0 : ext (11 + dev * 4294967296) 32 32 = dev := by rw [ext_eq (by omega) (by omega) (by omega)]; omega
  have x1 : ext (ev + num * 4294967296 + bits) 0 32 = ev := by rw [ext_eq (by omega) (by omega) (by omega)]; omega
  have x3 : ext (coll + tgt * 65536 + addr / 256 * 256 + 0 * 9223372036854775808) 0 16 = coll := by rw [ext_eq (by omega) (by omega) (by omega)]; omega
  rw [x0, x1, x3]
  subst f2
  subst f4
  subst f5
  obtain rfl : addr = 0 := by omega
  try rfl
theorem rt_12 (dev ev num coll tgt bits addr : Int) (val : Bool) (hA : addr % 256 = 0) (f : Fld ⟨12, dev, ev, num, coll, tgt, bits, addr, val⟩) :
    wd ⟨12, dev, ev, num, coll, tgt, bits, addr, val⟩ 8 = wS ⟨12, dev, ev, num, coll, tgt, bits, addr, val⟩ ∧ cd (wS ⟨12, dev, ev, num, coll, tgt, bits, addr, val⟩) 8 = ⟨12, dev, ev, num, coll, tgt, bits, addr, val⟩ := by
  have f0 : 0 ≤ dev ∧ dev < 2 ^ 32 := ⟨(f 0 (by omega)).1, (f 0 (by omega)).2.1⟩
  have f1 : 0 ≤ ev ∧ ev < 2 ^ 32 := ⟨(f 1 (by omega)).1, (f 1 (by omega)).2.1⟩
  have f2 : num = 0 := (f 2 (by omega)).2.2 (by simp [ph])
  have f3 : coll = 0 := (f 3 (by omega)).2.2 (by simp [ph])
  have f4 : tgt = 0 := (f 4 (by omega)).2.2 (by simp [ph])
  have f5 : bits = 0 := (f 5 (by omega)).2.2 (by simp [ph])
  have f6 : (addr / 256) = 0 := (f 6 (by omega)).2.2 (by simp [ph])
  have f7 : val = false := by have h := (f 7 (by omega)).2.2 (by simp [ph]); cases val <;> first | rfl | cases h
  subst f7
  have e : wd ⟨12, dev, ev, num, coll, tgt, bits, addr, false⟩ 8 = wS ⟨12, dev, ev, num, coll, tgt, bits, addr, false⟩ := by
    show [insB (12) dev 32, insB (0) ev 0, 0, 0] = _
    rw [insB_eq (a := 12) (n := dev) (f := 32) (by omega) (by omega) (by omega) (by omega), insB_eq (a := 0) (n := ev) (f := 0) (by omega) (by omega) (by omega) (by omega)]
    unfold wS
    dsimp only
    simp only [show ¬ ((12 : Int) = 14) by decide, if_false, Bool.false_eq_true, if_true]
    exact l4 (by omega) (by omega) (by omega) (by omega)
  refine ⟨e, ?_⟩
  unfold wS
  dsimp only
  simp only [show ¬ ((12 : Int) = 14) by decide, if_false, Bool.false_eq_true, if_true]
  have h0 : cd [12 + dev * 4294967296, ev + num * 4294967296 + bits, coll + tgt * 65536 + addr / 256 * 256 + 0 * 9223372036854775808, 0 * 65536] 0 = ⟨12, 0, 0, 0, 0, 0, 0, 0, false⟩ := by
    rw [cd_zero, low8 (by omega) (by omega), show (12 + dev * 4294967296) % 256 = 12 by omega]
  have hd : ∀ W0 W1 W2 W3 : Int, cd [W0, W1, W2, W3] 0 = ⟨12, 0, 0, 0, 0, 0, 0, 0, false⟩ → cd [W0, W1, W2, W3] 8 = ⟨12, ext W0 32 32, ext W1 0 32, 0, 0, 0, 0, 0, false⟩ := by
    intro W0 W1 W2 W3 h
    rw [cd_eight, h]
    simp [stD, ph, pw, pf, ps, Cm.put]
  rw [hd _ _ _ _ h0]
  have x0 : ext (12 + dev * 4294967296) 32 32 = dev := by rw [ext_eq (by omega) (by omega) (by omega)]; omega
  have x1 : ext (ev + num * 4294967296 + bits) 0 32 = ev := by rw [ext_eq (by omega) (by omega) (by omega)]; omega
  rw [x0, x1]
  subst f2
  subst f3
  subst f4
  subst f5
  obtain rfl : addr = 0 := by omega
  try rfl
theorem rt_13 (dev ev num coll tgt bits addr : Int) (val : Bool) (hA : addr % 256 = 0) (f : Fld ⟨13, dev, ev, num, coll, tgt, bits, addr, val⟩) :
    wd ⟨13, dev, ev, num, coll, tgt, bits, addr, val⟩ 8 = wS ⟨13, dev, ev, num, coll, tgt, bits, addr, val⟩ ∧ cd (wS ⟨13, dev, ev, num, coll, tgt, bits, addr, val⟩) 8 = ⟨13, dev, ev, num, coll, tgt, bits, addr, val⟩ := by
  have f0 : dev = 0 := (f 0 (by omega)).2.2 (by simp [ph])
  have f1 : ev = 0 := (f 1 (by omega)).2.2 (by simp [ph])
  have f2 : num = 0 := (f 2 (by omega)).2.2 (by simp [ph])
  have f3 : 0 ≤ coll ∧ coll < 2 ^ 16 := ⟨(f 3 (by omega)).1, (f 3 (by omega)).2.1⟩
  have f4 : tgt = 0 := (f 4 (by omega)).2.2 (by simp [ph])
  have f5 : bits = 0 := (f 5 (by omega)).2.2 (by simp [ph])
  have f6 : (addr / 256) = 0 := (f 6 (by omega)).2.2 (by simp [ph])
  have f7 : val = false := by have h := (f 7 (by omega)).2.2 (by simp [ph]); cases val <;> first | rfl | cases h
  subst f7
  have e : wd ⟨13, dev, ev, num, coll, tgt, bits, addr, false⟩ 8 = wS ⟨13, dev, ev, num, coll, tgt, bits, addr, false⟩ := by
    show [13, 0, insB (0) coll 0, 0] = _
    rw [insB_eq (a := 0) (n := coll) (f := 0) (by omega) (by omega) (by omega) (by omega)]
    unfold wS
    dsimp only
    simp only [show ¬ ((13 : Int) = 14) by decide, if_false, Bool.false_eq_true, if_true]
    exact l4 (by omega) (by omega) (by omega) (by omega)
  refine ⟨e, ?_⟩
  unfold wS
  dsimp only
  simp only [show ¬ ((13 : Int) = 14) by decide, if_false, Bool.false_eq_true, if_true]
  have h0 : cd [13 + dev * 4294967296, ev + num * 4294967296 + bits, coll + tgt * 65536 + addr / 256 * 256 + 0 * 9223372036854775808, 0 * 65536] 0 = ⟨13, 0, 0, 0, 0, 0, 0, 0, false⟩ := by
    rw [cd_zero, low8 (by omega) (by omega), show (13 + dev * 4294967296) % 256 = 13 by omega]
  have hd : ∀ W0 W1 W2 W3 : Int, cd [W0, W1, W2, W3] 0 = ⟨13, 0, 0, 0, 0, 0, 0, 0, false⟩ → cd [W0, W1, W2, W3] 8 = ⟨13, 0, 0, 0, ext W2 0 16, 0, 0, 0, false⟩ := by
    intro W0 W1 W2 W3 h
    rw [cd_eight, h]
    simp [stD, ph, pw, pf, ps, Cm.put]
  rw [hd _ _ _ _ h0]
  have x3 : ext (coll + tgt * 65536 + addr / 256 * 256 + 0 * 9223372036854775808) 0 16 = coll := by rw [ext_eq (by omega) (by omega) (by omega)]; omega
  rw [x3]
  subst f0
  subst f1
  subst f2
  subst f4
  subst f5
  obtain rfl : addr = 0 := by omega
  try rfl
theorem rt_14 (dev ev num coll tgt bits addr : Int) (val : Bool) (hA : addr % 256 = 0) (f : Fld ⟨14, dev, ev, num, coll, tgt, bits, addr, val⟩) :
    wd ⟨14, dev, ev, num, coll, tgt, bits, addr, val⟩ 8 = wS ⟨14, dev, ev, num, coll, tgt, bits, addr, val⟩ ∧ cd (wS ⟨14, dev, ev, num, coll, tgt, bits, addr, val⟩) 8 = ⟨14, dev, ev, num, coll, tgt, bits, addr, val⟩ := by
  have f0 : dev = 0 := (f 0 (by omega)).2.2 (by simp [ph])
  have f1 : ev = 0 := (f 1 (by omega)).2.2 (by simp [ph])
  have f2 : 0 ≤ num ∧ num < 2 ^ 16 := ⟨(f 2 (by omega)).1, (f 2 (by omega)).2.1⟩
  have f3 : coll = 0 := (f 3 (by omega)).2.2 (by simp [ph])
  have f4 : 0 ≤ tgt ∧ tgt < 2 ^ 16 := ⟨(f 4 (by omega)).1, (f 4 (by omega)).2.1⟩
  have f5 : bits = 0 := (f 5 (by omega)).2.2 (by simp [ph])
  have f6 : (addr / 256) = 0 := (f 6 (by omega)).2.2 (by simp [ph])
  have f7 : val = false := by have h := (f 7 (by omega)).2.2 (by simp [ph]); cases val <;> first | rfl | cases h
  subst f7
  have e : wd ⟨14, dev, ev, num, coll, tgt, bits, addr, false⟩ 8 = wS ⟨14, dev, ev, num, coll, tgt, bits, addr, false⟩ := by
    show [14, 0, insB (0) tgt 16, insB (0) num 16] = _
    rw [insB_eq (a := 0) (n := num) (f := 16) (by omega) (by omega) (by omega) (by omega), insB_eq (a := 0) (n := tgt) (f := 16) (by omega) (by omega) (by omega) (by omega)]
    unfold wS
    dsimp only
    simp only [show ((14 : Int) = 14) = True by simp, if_false, Bool.false_eq_true, if_true]
    exact l4 (by omega) (by omega) (by omega) (by omega)
  refine ⟨e, ?_⟩
  unfold wS
  dsimp only
  simp only [show ((14 : Int) = 14) = True by simp, if_false, Bool.false_eq_true, if_true]
  have h0 : cd [14 + dev * 4294967296, ev + 0 * 4294967296 + bits, coll + tgt * 65536 + addr / 256 * 256 + 0 * 9223372036854775808, num * 65536] 0 = ⟨14, 0, 0, 0, 0, 0, 0, 0, false⟩ := by
    rw [cd_zero, low8 (by omega) (by omega), show (14 + dev * 4294967296) % 256 = 14 by omega]
  have hd : ∀ W0 W1 W2 W3 : Int, cd [W0, W1, W2, W3] 0 = ⟨14, 0, 0, 0, 0, 0, 0, 0, false⟩ → cd [W0, W1, W2, W3] 8 = ⟨14, 0, 0, ext W3 16 16, 0, ext W2 16 16, 0, 0, false⟩ := by
    intro W0 W1 W2 W3 h
    rw [cd_eight, h]
    simp [stD, ph, pw, pf, ps, Cm.put]
  rw [hd _ _ _ _ h0]
  have x2 : ext (num * 65536) 16 16 = num := by rw [ext_eq (by omega) (by omega) (by omega)]; omega
  have x4 : ext (coll + tgt * 65536 + addr / 256 * 256 + 0 * 9223372036854775808) 16 16 = tgt := by rw [ext_eq (by omega) (by omega) (by omega)]; omega
  rw [x2, x4]
  subst f0
  subst f1
  subst f3
  subst f5
  obtain rfl : addr = 0 := by omega
  try rfl
theorem rt_15 (dev ev num coll tgt bits addr : Int) (val : Bool) (hA : addr % 256 = 0) (f : Fld ⟨15, dev, ev, num, coll, tgt, bits, addr, val⟩) :
    wd ⟨15, dev, ev, num, coll, tgt, bits, addr, val⟩ 8 = wS ⟨15, dev, ev, num, coll, tgt, bits, addr, val⟩ ∧ cd (wS ⟨15, dev, ev, num, coll, tgt, bits, addr, val⟩) 8 = ⟨15, dev, ev, num, coll, tgt, bits, addr, val⟩ := by
  have f0 : 0 ≤ dev ∧ dev < 2 ^ 32 := ⟨(f 0 (by omega)).1, (f 0 (by omega)).2.1⟩
  have f1 : 0 ≤ ev ∧ ev < 2 ^ 32 := ⟨(f 1 (by omega)).1, (f 1 (by omega)).2.1⟩
  have f2 : num = 0 := (f 2 (by omega)).2.2 (by simp [ph])
  have f3 : coll = 0 := (f 3 (by omega)).2.2 (by simp [ph])
  have f4 : tgt = 0 := (f 4 (by omega)).2.2 (by simp [ph])
  have f5 : bits = 0 := (f 5 (by omega)).2.2 (by simp [ph])
  have f6 : (addr / 256) = 0 := (f 6 (by omega)).2.2 (by simp [ph])
  have f7 : val = false := by have h := (f 7 (by omega)).2.2 (by simp [ph]); cases val <;> first | rfl | cases h
  subst f7
  have e : wd ⟨15, dev, ev, num, coll, tgt, bits, addr, false⟩ 8 = wS ⟨15, dev, ev, num, coll, tgt, bits, addr, false⟩ := by
    show [insB (15) dev 32, insB (0) ev 0, 0, 0] = _
    rw [insB_eq (a := 15) (n := dev) (f := 32) (by omega) (by omega) (by omega) (by omega), insB_eq (a := 0) (n := ev) (f := 0) (by omega) (by omega) (by omega) (by omega)]
    unfold wS
    dsimp only
    simp only [show ¬ ((15 : Int) = 14) by decide, if_false, Bool.false_eq_true, if_true]
    exact l4 (by omega) (by omega) (by omega) (by omega)
  refine ⟨e, ?_⟩
  unfold wS
  dsimp only
  simp only [show ¬ ((15 : Int) = 14) by decide, if_false, Bool.false_eq_true, if_true]
  have h0 : cd [15 + dev * 4294967296, ev + num * 4294967296 + bits, coll + tgt * 65536 + addr / 256 * 256 + 0 * 9223372036854775808, 0 * 65536] 0 = ⟨15, 0, 0, 0, 0, 0, 0, 0, false⟩ := by
    rw [cd_zero, low8 (by omega) (by omega), show (15 + dev * 4294967296) % 256 = 15 by omega]
  have hd : ∀ W0 W1 W2 W3 : Int, cd [W0, W1, W2, W3] 0 = ⟨15, 0, 0, 0, 0, 0, 0, 0, false⟩ → cd [W0, W1, W2, W3] 8 = ⟨15, ext W0 32 32, ext W1 0 32, 0, 0, 0, 0, 0, false⟩ := by
    intro W0 W1 W2 W3 h
    rw [cd_eight, h]
    simp [stD, ph, pw, pf, ps, Cm.put]
  rw [hd _ _ _ _ h0]
  have x0 : ext (15 + dev * 4294967296) 32 32 = dev := by rw [ext_eq (by omega) (by omega) (by omega)]; omega
  have x1 : ext (ev + num * 4294967296 + bits) 0 32 = ev := by rw [ext_eq (by omega) (by omega) (by omega)]; omega
  rw [x0, x1]
  subst f2
  subst f3
  subst f4
  subst f5
  obtain rfl : addr = 0 := by omega
  try rfl
theorem encM_some {c : Cm} {ws : List Int} (h : encM c = some ws) : knownB c.op = true ∧ Fld c ∧ c.addr % 256 = 0 ∧ ws = wS c ∧ cd ws 8 = c := by
  unfold encM at h
  split at h
  · cases h
  · rename_i hb
    split at h
    · cases h
    · rename_i hf
      cases h
      have hf := fld_of (by simpa using hf)
      unfold badC at hb
      simp only [Bool.or_eq_true, not_or, Bool.not_eq_true', Bool.not_eq_false] at hb
      obtain ⟨hk, ha⟩ := hb
      have h6 : 0 ≤ c.addr / 256 ∧ c.addr / 256 < 2 ^ 40 := ⟨(hf 6 (by omega)).1, (hf 6 (by omega)).2.1⟩
      have hA : c.addr % 256 = 0 := by
        rw [and_i64 (by omega) (by omega)] at ha
        simpa using ha
      clear ha
      refine ⟨hk, hf, hA, ?_⟩
      obtain ⟨op, dev, ev, num, coll, tgt, bits, addr, val⟩ := c
      dsimp only at hA hk
      have hk : op = 1 ∨ op = 3 ∨ op = 4 ∨ op = 5 ∨ op = 8 ∨ op = 9 ∨ op = 10 ∨ op = 11 ∨ op = 12 ∨ op = 13 ∨ op = 14 ∨ op = 15 := by
        have := of_decide_eq_true hk; omega
      have fin : wd ⟨op, dev, ev, num, coll, tgt, bits, addr, val⟩ 8 = wS ⟨op, dev, ev, num, coll, tgt, bits, addr, val⟩ ∧ cd (wS ⟨op, dev, ev, num, coll, tgt, bits, addr, val⟩) 8 = ⟨op, dev, ev, num, coll, tgt, bits, addr, val⟩ := by
        rcases hk with rfl | rfl | rfl | rfl | rfl | rfl | rfl | rfl | rfl | rfl | rfl | rfl
        · exact rt_1 _ _ _ _ _ _ _ _ hA hf
        · exact rt_3 _ _ _ _ _ _ _ _ hA hf
        · exact rt_4 _ _ _ _ _ _ _ _ hA hf
        · exact rt_5 _ _ _ _ _ _ _ _ hA hf
        · exact rt_8 _ _ _ _ _ _ _ _ hA hf
        · exact rt_9 _ _ _ _ _ _ _ _ hA hf
        · exact rt_10 _ _ _ _ _ _ _ _ hA hf
        · exact rt_11 _ _ _ _ _ _ _ _ hA hf
        · exact rt_12 _ _ _ _ _ _ _ _ hA hf
        · exact rt_13 _ _ _ _ _ _ _ _ hA hf
        · exact rt_14 _ _ _ _ _ _ _ _ hA hf
        · exact rt_15 _ _ _ _ _ _ _ _ hA hf
      exact ⟨fin.1, by rw [fin.1]; exact fin.2⟩
theorem dec_enc {c : Cm} {ws : List Int} (h : encM c = some ws) : decM ws = some c := by
  obtain ⟨-, -, -, -, h5⟩ := encM_some h
  unfold decM
  rw [h5, h, if_pos rfl]
theorem enc_dec {c : Cm} {ws : List Int} (h : decM ws = some c) : encM c = some ws := by
  unfold decM at h
  split at h
  · cases h; assumption
  · cases h
theorem enc_range {c : Cm} {ws : List Int} (h : encM c = some ws) : ws.length = 4 ∧ ∀ x ∈ ws, 0 ≤ x ∧ x < 2 ^ 64 := by
  obtain ⟨h1, hf, h3, rfl, -⟩ := encM_some h
  have hk := of_decide_eq_true h1
  have f0 := hf 0 (by omega)
  have f1 := hf 1 (by omega)
  have f2 := hf 2 (by omega)
  have f3 := hf 3 (by omega)
  have f4 := hf 4 (by omega)
  have f5 := hf 5 (by omega)
  have f6 := hf 6 (by omega)
  have f7 := hf 7 (by omega)
  simp only [Cm.get, ps, ph] at f0 f1 f2 f3 f4 f5 f6 f7
  have h2 : (if c.op = 14 then 16 else 32 : Nat) ≤ 32 := by split <;> omega
  refine ⟨rfl, fun x hx => ?_⟩
  simp only [wS, List.mem_cons, List.not_mem_nil, or_false] at hx
  have hb : c.bits = 0 ∨ c.ev = 0 ∧ (if c.op = 14 then 0 else c.num) = 0 := by
    by_cases e : c.op = 8
    · right
      refine ⟨f1.2.2 (by simp [e]), ?_⟩
      rw [if_neg (by omega)]
      exact f2.2.2 (by simp [e])
    · exact .inl (f5.2.2 (by simp [e]))
  have hq : c.addr = 0 ∨ c.coll = 0 ∧ c.tgt = 0 := by
    by_cases e : c.op = 8
    · exact .inr ⟨f3.2.2 (by simp [e]), f4.2.2 (by simp [e])⟩
    · have := f6.2.2 (by simp [e]); omega
  rcases hx with rfl | rfl | rfl | rfl
  · omega
  · by_cases e : c.op = 14
    · simp only [if_pos e] at f2 hb ⊢; omega
    · simp only [if_neg e] at f2 hb ⊢; omega
  · split <;> omega
  · by_cases e : c.op = 14
    · simp only [if_pos e] at f2 hb ⊢; omega
    · simp only [if_neg e] at f2 hb ⊢; omega
end Go.Proofs.YtggmapokmlbgbaaDoor
