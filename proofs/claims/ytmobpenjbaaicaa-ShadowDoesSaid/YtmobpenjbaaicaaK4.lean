/-
  slices: Insert of one number.
-/
import Derived.Test.YtmobpenjbaaicaaK3
import Derived.Lib.AppendZerosOnto
import Derived.Lib.Overlaps
namespace Go.Proofs.Ytmobpenjbaaicaa
open Go Go.RowKit X
set_option maxRecDepth 100000
set_option linter.unusedVariables false
variable {w w0 : World} {S0 : Nat → Prop}
theorem copyS_o {L L2 : List It} {dT ty e e' : TypeId} {bytes : Nat} (hT : appB P dT e 1 bytes = true) {d o dLen dCap sLen c' : Nat} {cur cs : List Value} {a : Addr} (H : X.Own w0 S0 L w) (hr : Rep L (row d cur e') (row d (splice cur o cs) e') L2) (hq : Sl w (some a) cs) (hl : cs.length = Nat.min sLen dLen)
    (hfit : o + cs.length ≤ cur.length) (h1 : ∀ v ∈ cs, v.oneCell' = true) {K : Int → World → Prop} (k : ∀ w', X.Own w0 S0 L2 w' → K cs.length w') :
    runI P (Builtin.copy_ #[dT, dT] ty [.slice (some ⟨d, o, none⟩) dLen dCap, .slice (some a) sLen c'].toArray) w K := by
  obtain ⟨hu, i, z, hi, hz, h2, h3, h4⟩ := appB_out hT
  obtain ⟨F, f1, _⟩ := hr.out
  have hrow := H.row f1
  have := run_copy_row (P := P) w dT dT ty e d o dLen dCap a sLen c' cur.toArray e' cs hu (by rw [hi]; simp [h2]) hrow hl (by
    intro j v hj
    obtain ⟨a', ha, hc⟩ := hq j v hj
    cases ha; exact hc) (by simpa using hfit) h1
  refine ⟨cs.length, _, this, k _ (row_turn H hr ?_ (fun k hk => setRow_other w d k _ hk) (by simp [World.setRow]) rfl rfl rfl)⟩
  unfold Row
  rw [setRow_heap w d cur.toArray _ e' (0, 0) hrow]
  simp [splice]
/-- append(s, make([]T, k)...) where there is no room -/
theorem zeros_o {L F : List It} {ta tn ty e : TypeId} {bytes : Nat} {kn : IntKind} (hT : appB P ta e 1 bytes = true) {z : Value} (hz1 : zeroC P e = some [z]) (htn : P.underlying tn = some (.int kn)) {d n c k : Nat} {cur : List Value} {e' : TypeId} (H : X.Own w0 S0 L w) (hp : Pick L (row d cur e') F)
    (hn : n ≤ cur.length) (hk : 0 < k) (hg : c < n + k) (hs : n + k ≤ 1000000) (hb : bytes ≤ 1000) {K : Option Addr → Nat → Nat → World → Prop}
    (hK : ∀ b cap w', n + k ≤ cap → cap ≤ maxLen → X.Own w0 S0 (row b (cur.take n ++ List.replicate (cap - n) z) e :: L) w' → K (some ⟨b, 0, none⟩) (n + k) cap w') :
    runS P (Builtin.append_ #[ta, tn] ty [.slice (some ⟨d, 0, none⟩) n c, .int .i64 (k : Int)].toArray) w K := by
  obtain ⟨hu, i, z', hi, hz, h2, h3, h4⟩ := appB_out hT
  have hrow := H.row hp
  have hzc : z'.cells = #[z] := by
    unfold zeroC at hz1
    rw [hi] at hz1
    simp only [hz, Option.map_some, Option.some.injEq] at hz1
    apply Array.toList_inj.1
    rw [← cellsL_eq]; exact hz1
  have hzl : ∀ m, (Builtin.zeroCells z'.cells m).toList = List.replicate m z := by
    intro m
    rw [hzc]
    simp [Builtin.zeroCells]
    apply List.ext_getElem
    · simp
    · intro i h1 h2; simp [Nat.mod_one]
  have hold : (Builtin.firstCells i.size n (.slice (some ⟨d, 0, none⟩) n c)).run P w.drew = .ok (cur.take n).toArray w.drew := by
    refine run_firstCells_some (P := P) w.drew i.size n ⟨d, 0, none⟩ n c (cur.take n) (by rw [h2]; simp; omega) fun j v hj => ?_
    have hj2 : cur[j]? = some v := by
      rw [List.getElem?_take] at hj
      split at hj
      · exact hj
      · cases hj
    have : w.cell? ⟨d, j, none⟩ = some v := by rw [hrow.cell]; exact hj2
    rw [add_lit, Nat.zero_add]; exact this
  have hcap := grownCap_ge w (n + k) c e
  have hcm := grownCap_le_maxLen w (n + k) c e (by unfold maxLen; omega)
  have hr := Lib.run_append_grow_zeros (P := P) w ta tn ty e i z' .i64 kn hu htn hi hz (some ⟨d, 0, none⟩) n c (cur.take n) hold k hk (by omega) hg (by omega) (by rw [h3]; have := Nat.mul_le_mul (show k ≤ 1000000 by omega) hb; omega)
    (growslice_fits hg (by rw [h3]; have := Nat.mul_le_mul hs hb; omega))
  refine ⟨_, _, _, _, hr, hK _ _ _ hcap hcm ?_⟩
  refine H.add (i := row _ _ _) ((Below.refl _ _).drew.alloc (Nat.le_refl _) _) (S := fun k => k = w.heap.size) ⟨?_, fun _ => Iff.rfl⟩ (by rintro k rfl; exact Nat.le_refl _)
  unfold Row
  have := World.alloc_heap_new w.drew (.cells ((cur.take n).toArray ++ Builtin.zeroCells z'.cells k ++ Builtin.zeroCells z'.cells (grownCap w (n + k) c e - (n + k))) e)
  rw [show w.drew.heap.size = w.heap.size from rfl] at this
  rw [this]
  congr 2
  apply Array.toList_inj.1
  simp only [Array.toList_append, hzl, List.append_assoc, List.replicate_append_replicate]
  congr 2
  omega
end Go.Proofs.Ytmobpenjbaaicaa
