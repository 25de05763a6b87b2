/-
  E: small laws: what a call may change; slices of bytes; a made slice.
-/
import Derived.Test.YtbnadobjnmboiaaDoorS2
import Derived.Laws.MakeOwn
namespace Go.Proofs.YtbnadobjnmboiaaDoor.X
open Go Go.RowKit
variable {P : Program} {w : World}

/-- Of what was there only the blocks in S may have changed. -/
structure Out (S : Nat → Prop) (w w' : World) : Prop where
  os : w'.os = w.os
  tape : w'.tape = w.tape
  output : w'.output = w.output
  size : w.heap.size ≤ w'.heap.size
  block : ∀ k, k < w.heap.size → ¬ S k → w'.heap[k]? = w.heap[k]?
theorem Out.refl (S : Nat → Prop) (w : World) : Out S w w := ⟨rfl, rfl, rfl, Nat.le_refl _, fun _ _ _ => rfl⟩
theorem Out.trans {S : Nat → Prop} {a b c : World} (h : Out S a b) (k : Out S b c) : Out S a c :=
  ⟨k.os.trans h.os, k.tape.trans h.tape, k.output.trans h.output, Nat.le_trans h.size k.size, fun i hi hn => (k.block i (Nat.lt_of_lt_of_le hi h.size) hn).trans (h.block i hi hn)⟩
theorem Out.of_below {S : Nat → Prop} {B : Nat} {a b : World} (h : Below B a b) (hS : ∀ k, k < a.heap.size → ¬ S k → k < B) : Out S a b :=
  ⟨h.os, h.tape, h.output, h.size, fun i hi hn => h.block i (hS i hi hn)⟩
theorem Out.below {S : Nat → Prop} {B : Nat} {a b : World} (h : Out S a b) (hB : B ≤ a.heap.size) (hS : ∀ k, S k → B ≤ k) : Below B a b :=
  ⟨h.os, h.tape, h.output, h.size, fun i hi => h.block i (by omega) fun hn => by have := hS i hn; omega⟩
theorem Out.mono {S S' : Nat → Prop} {a b : World} (h : Out S a b) (hS : ∀ k, k < a.heap.size → S k → S' k) : Out S' a b :=
  ⟨h.os, h.tape, h.output, h.size, fun i hi hn => h.block i hi fun hs => hn (hS i hi hs)⟩
theorem Out.pure {S : Nat → Prop} {a b : World} (h : Below a.heap.size a b) : Out S a b := Out.of_below h fun _ h _ => h
theorem Row.out {S : Nat → Prop} {w' : World} {b : Nat} {cs : List Value} {t : TypeId} (h : Row w b cs t) (hO : Out S w w') (hb : ¬ S b) : Row w' b cs t := by
  unfold Row; rw [hO.block b h.lt hb]; exact h
theorem add_lit (b i j : Nat) : (⟨b, i, none⟩ : Addr).add j = ⟨b, i + j, none⟩ := by unfold Addr.add; split <;> simp_all
def u8s (bs : List Int) : List Value := bs.map fun n => .int .u8 n
theorem u8s_append (a b : List Int) : u8s (a ++ b) = u8s a ++ u8s b := by simp [u8s]
theorem u8s_get {bs : List Int} {k : Nat} (h : k < bs.length) : (u8s bs)[k]? = some (.int .u8 bs[k]) := by simp [u8s, h]
theorem u8s_set {bs : List Int} {k : Nat} {n : Int} : (u8s bs).set k (.int .u8 n) = u8s (bs.set k n) := by simp [u8s]
theorem u8s_length {bs : List Int} : (u8s bs).length = bs.length := by simp [u8s]
theorem make_i {t e : TypeId} {bytes : Nat} {k : IntKind} (hT : appB P t e 1 bytes = true) {z : Value} (hz1 : zeroC P e = some [z]) {n : Int} (h0 : 0 ≤ n) (hb : (bytes : Int) * n ≤ 281474976710656) (h63 : n ≤ 9223372036854775807) {K : Option Addr → Nat → Nat → World → Prop}
    (hK : ∀ w1, (∀ B, B ≤ w.heap.size → Below B w w1) → Row w1 w.heap.size (List.replicate n.toNat z) e → w1.heap.size = w.heap.size + 1 → K (some ⟨w.heap.size, 0, none⟩) n.toNat n.toNat w1) :
    runS P (Instr.makeSlice t (.int k n) (.int k n)) w K := by
  obtain ⟨hu, i, z', hi, hz, h2, h3, h4⟩ := appB_out hT
  have hr := run_make (P := P) w t e i z' hu hi hz k k n n h0 (Int.le_refl _) (by rw [h3]; exact hb) h63
  have hzc : z'.cells = #[z] := by
    unfold zeroC at hz1
    rw [hi] at hz1
    simp only [hz, Option.map_some, Option.some.injEq] at hz1
    apply Array.toList_inj.1
    rw [← cellsL_eq]; exact hz1
  refine ⟨_, _, _, _, hr, hK _ (fun B hB => (Below.refl B w).alloc hB _) ?_ (by simp)⟩
  unfold Row
  rw [World.alloc_heap_new, hzc, h2, Nat.mul_one]
  congr 2
  apply Array.toList_inj.1
  simpa using toList_madeCells_one z n.toNat
end Go.Proofs.YtbnadobjnmboiaaDoor.X
