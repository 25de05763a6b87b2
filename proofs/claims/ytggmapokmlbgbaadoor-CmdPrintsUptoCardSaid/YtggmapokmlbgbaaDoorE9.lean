/-
  cmd: the document's command of four words.
-/
import Derived.Test.YtggmapokmlbgbaaDoorE8
namespace Go.Proofs.YtggmapokmlbgbaaDoor
open Go Go.RowKit X
set_option maxRecDepth 100000
set_option linter.unusedVariables false
set_option linter.unusedSimpArgs false
set_option maxHeartbeats 1000000
theorem part_t {n : Int} {f s : Nat} (hn : 0 ≤ n ∧ n < 2 ^ 64) (hf : f < 64) (hs : s ≤ 62) : Tri P F.crierref16_part [.int .u64 n, .int .i64 (f : Int), .int .i64 (s : Int)] [] fun v L' => v = .int .i64 (ext n f s) ∧ L' = [] := by
  intro w S hS
  refine crierref16_part_cv ?_
  unfold crierref16_part
  have H := Own.start hS
  refine drw_o H fun wx H => ?_
  have e1 : min (Int.toNat (f : Int)) IntKind.u64.bits = f := by simp [IntKind.bits]; omega
  have e2 : min (Int.toNat (s : Int)) IntKind.u64.bits = s := by simp [IntKind.bits]; omega
  have hle : (2 : Nat) ^ s ≤ 2 ^ 62 := Nat.pow_le_pow_right (by omega) hs
  have hps : 0 < (2 : Nat) ^ s := Nat.pow_pos (by omega)
  have e3 : IntKind.u64.wrap (1 * 2 ^ s) = 2 ^ s := by
    have : (1 * 2 ^ s : Int) = ((2 ^ s : Nat) : Int) := by push_cast; omega
    have h2 : (2 : Int) ^ s = ((2 ^ s : Nat) : Int) := by push_cast; rfl
    rw [this, h2]
    generalize (2 : Nat) ^ s = y at *
    simp [IntKind.wrap, IntKind.signed, IntKind.bits]
    omega
  rw [e1, e2, e3]
  have hp2 : (0 : Int) < 2 ^ s := Int.pow_pos (by omega)
  have hp : (0 : Int) < 2 ^ f := Int.pow_pos (by omega)
  refine ⟨by omega, by omega, by omega, _, ⟨?_, rfl⟩, H⟩
  rw [ext_eq hf hs hn, Int.fdiv_eq_ediv_of_nonneg _ (by omega), Int.tmod_eq_emod_of_nonneg (Int.ediv_nonneg hn.1 (by omega))]
  have hq : (2 : Int) ^ s = ((2 ^ s : Nat) : Int) := by push_cast; rfl
  rw [hq]
  generalize (2 : Nat) ^ s = y at *
  generalize n / 2 ^ f = z at *
  have h1 := Int.emod_nonneg z (b := (y : Int)) (by omega)
  have h2 := Int.emod_lt_of_pos z (b := (y : Int)) (by omega)
  rw [W_id (by omega) (by omega)]
def stP (o : Int) (ws : List Int) (c : Cm) (k : Nat) : Cm := c.put (ext (ws.getD (pw o k) 0) (pf o k) (ps o k)) k
theorem put_op (c : Cm) (n : Int) (k : Nat) : (c.put n k).op = c.op := by unfold Cm.put; split <;> rfl
theorem cd_op (ws : List Int) : ∀ k, (cd ws k).op = (cd ws 0).op
  | 0 => rfl
  | k + 1 => by
    have e : cd ws (k + 1) = if ph (cd ws k).op k then (cd ws k).put (ext (ws.getD (pw (cd ws k).op k) 0) (pf (cd ws k).op k) (ps (cd ws k).op k)) k else cd ws k := rfl
    rw [e]
    split
    · rw [put_op, cd_op ws k]
    · exact cd_op ws k
theorem cd_fold (ws : List Int) : ∀ k, cd ws k = ((List.range k).filter (ph (cd ws 0).op)).foldl (stP (cd ws 0).op ws) (cd ws 0)
  | 0 => rfl
  | k + 1 => by
    have e : cd ws (k + 1) = if ph (cd ws k).op k then (cd ws k).put (ext (ws.getD (pw (cd ws k).op k) 0) (pf (cd ws k).op k) (ps (cd ws k).op k)) k else cd ws k := rfl
    rw [e, List.range_succ, List.filter_append, List.foldl_append, cd_op ws k, ← cd_fold ws k]
    cases h : ph (cd ws 0).op k <;> simp [h, stP]
theorem pf_lt (op : Int) (k : Nat) : pf op k < 64 := by unfold pf; split <;> (try split) <;> omega
theorem asg {w0 wx : World} {S0 : Nat → Prop} {L L2 : List It} {b11 b81 : Nat} {c : Cm} {o : Int} {k : Nat} (hk : k < 8) (hh : ph o k = true) {n m : Int} {J97 : crierref16_Decode_J32403.S → World → Prop}
    (H : X.Own w0 S0 (row b81 [.int .i64 ((pw o k : Nat) : Int), .int .i64 ((pf o k : Nat) : Int), .int .i64 ((ps o k : Nat) : Int), .int .i64 m] tFd :: L) wx)
    (hr : Rep L (row b11 c.cells tCmd) (row b11 (c.put n k).cells tCmd) L2)
    (kk : ∀ w', X.Own w0 S0 (row b81 [.int .i64 ((pw o k : Nat) : Int), .int .i64 ((pf o k : Nat) : Int), .int .i64 ((ps o k : Nat) : Int), .int .i64 m] tFd :: L2) w' → J97 () w') :
  ldI .i64 ⟨b81, 0, none⟩ wx fun n98 =>
  cnd (n98 == 0)
  (st1 (.int .i64 n) ⟨b11, 1, none⟩ wx fun w99 =>
  J97 () w99)
  (JoinT (fun (J122 : crierref16_Decode_J259227.S → World → Prop) =>
   ldI .i64 ⟨b81, 0, none⟩ wx fun n123 =>
   cnd (n123 == 3)
   (J122 (((n123 == 3) : Bool)) wx)
   (ldI .i64 ⟨b81, 0, none⟩ wx fun n124 =>
   cnd (n124 == 1)
   (ldI .i64 ⟨b81, 1, none⟩ wx fun n125 =>
   J122 (((n125 == 32) : Bool)) wx)
   (J122 ((false : Bool)) wx)))
   fun (s126 : crierref16_Decode_J259227.S) w127 => crierref16_Decode_j2 b11 b81 n J97 s126 w127) := by
  have st : ∀ (i : Nat) (v : Value), (c.put n k).cells = c.cells.set i v → i < 9 → st1 v ⟨b11, i, none⟩ wx fun w' => J97 () w' := by
    intro i v e hi
    rw [e] at hr
    exact st1_o H (.there hr) hi kk
  have hk : k = 0 ∨ k = 1 ∨ k = 2 ∨ k = 3 ∨ k = 4 ∨ k = 5 ∨ k = 6 ∨ k = 7 := by omega
  have two : k = 2 → (o = 14 ∨ o = 10) := by rintro rfl; simpa [ph] using hh
  unfold crierref16_Decode_j2 crierref16_Decode_j1
  rcases hk with rfl | rfl | rfl | rfl | rfl | rfl | rfl | rfl
  · refine ldI_o H .here rfl (cnd_i (fun _ => ?_) (fun h => by cases h))
    exact st 1 _ rfl (by omega)
  · refine ldI_o H .here rfl (cnd_i (fun h => by cases h) fun _ => join_o (ldI_o H .here rfl (cnd_i (fun h => by cases h) fun _ => ldI_o H .here rfl (cnd_i (fun _ => ldI_o H .here rfl ?_) (fun h => by cases h)))))
    refine cnd_i (fun h => by cases h) fun _ => join_o (ldI_o H .here rfl (cnd_i (fun _ => ldI_o H .here rfl (cnd_i (fun _ => ?_) (fun h => by cases h))) (fun h => by cases h)))
    exact st 2 _ rfl (by omega)
  · have key : pw o 2 = 3 ∨ (pw o 2 = 1 ∧ pf o 2 = 32) := by
      rcases two rfl with h | h <;> simp [pw, pf, h]
    rcases key with h | ⟨h, h'⟩
    · rw [h] at H kk
      refine ldI_o H .here rfl (cnd_i (fun h => by cases h) fun _ => join_o (ldI_o H .here rfl (cnd_i (fun _ => ?_) (fun h => by cases h))))
      refine cnd_i (fun _ => ?_) (fun h => by cases h)
      exact st 3 _ rfl (by omega)
    · rw [h, h'] at H kk
      refine ldI_o H .here rfl (cnd_i (fun h => by cases h) fun _ => join_o (ldI_o H .here rfl (cnd_i (fun h => by cases h) fun _ => ldI_o H .here rfl (cnd_i (fun _ => ldI_o H .here rfl ?_) (fun h => by cases h)))))
      refine cnd_i (fun _ => ?_) (fun h => by cases h)
      exact st 3 _ rfl (by omega)
  · refine ldI_o H .here rfl (cnd_i (fun h => by cases h) fun _ => join_o (ldI_o H .here rfl (cnd_i (fun h => by cases h) fun _ => ldI_o H .here rfl (cnd_i (fun h => by cases h) fun _ => ?_))))
    refine cnd_i (fun h => by cases h) fun _ => join_o (ldI_o H .here rfl (cnd_i (fun h => by cases h) fun _ => cnd_i (fun h => by cases h) fun _ => ldI_o H .here rfl (cnd_i (fun h => by cases h) fun _ => ldI_o H .here rfl (cnd_i (fun _ => ?_) (fun h => by cases h)))))
    exact st 4 _ rfl (by omega)
  · refine ldI_o H .here rfl (cnd_i (fun h => by cases h) fun _ => join_o (ldI_o H .here rfl (cnd_i (fun h => by cases h) fun _ => ldI_o H .here rfl (cnd_i (fun h => by cases h) fun _ => ?_))))
    refine cnd_i (fun h => by cases h) fun _ => join_o (ldI_o H .here rfl (cnd_i (fun h => by cases h) fun _ => cnd_i (fun h => by cases h) fun _ => ldI_o H .here rfl (cnd_i (fun h => by cases h) fun _ => ldI_o H .here rfl (cnd_i (fun h => by cases h) fun _ => ldI_o H .here rfl (cnd_i (fun _ => ?_) (fun h => by cases h))))))
    exact st 5 _ rfl (by omega)
  · refine ldI_o H .here rfl (cnd_i (fun h => by cases h) fun _ => join_o (ldI_o H .here rfl (cnd_i (fun h => by cases h) fun _ => ldI_o H .here rfl (cnd_i (fun _ => ldI_o H .here rfl ?_) (fun h => by cases h)))))
    refine cnd_i (fun h => by cases h) fun _ => join_o (ldI_o H .here rfl (cnd_i (fun _ => ldI_o H .here rfl (cnd_i (fun h => by cases h) fun _ => ldI_o H .here rfl (cnd_i (fun _ => ?_) (fun h => by cases h)))) (fun h => by cases h)))
    exact st 6 _ rfl (by omega)
  · refine ldI_o H .here rfl (cnd_i (fun h => by cases h) fun _ => join_o (ldI_o H .here rfl (cnd_i (fun h => by cases h) fun _ => ldI_o H .here rfl (cnd_i (fun h => by cases h) fun _ => ?_))))
    refine cnd_i (fun h => by cases h) fun _ => join_o (ldI_o H .here rfl (cnd_i (fun h => by cases h) fun _ => cnd_i (fun h => by cases h) fun _ => ldI_o H .here rfl (cnd_i (fun h => by cases h) fun _ => ldI_o H .here rfl (cnd_i (fun h => by cases h) fun _ => ldI_o H .here rfl (cnd_i (fun h => by cases h) fun _ => ldI_o H .here rfl (cnd_i (fun _ => ?_) (fun h => by cases h)))))))
    exact st 7 _ (by rw [Int.mul_comm]; rfl) (by omega)
  · refine ldI_o H .here rfl (cnd_i (fun h => by cases h) fun _ => join_o (ldI_o H .here rfl (cnd_i (fun h => by cases h) fun _ => ldI_o H .here rfl (cnd_i (fun h => by cases h) fun _ => ?_))))
    refine cnd_i (fun h => by cases h) fun _ => join_o (ldI_o H .here rfl (cnd_i (fun h => by cases h) fun _ => cnd_i (fun h => by cases h) fun _ => ldI_o H .here rfl (cnd_i (fun h => by cases h) fun _ => ldI_o H .here rfl (cnd_i (fun h => by cases h) fun _ => ldI_o H .here rfl (cnd_i (fun h => by cases h) fun _ => ldI_o H .here rfl (cnd_i (fun h => by cases h) fun _ => ?_))))))
    exact st 8 _ rfl (by omega)
end Go.Proofs.YtggmapokmlbgbaaDoor
