/-
  an owned row of numbers: a member is read, is put; one is appended.
-/
import Derived.Test.YtgjddhpblpfneaaDoorTy
import Derived.Test.YtgjddhpblpfneaaDoorA5
namespace Go.Proofs.YtgjddhpblpfneaaDoor
open Go Go.RowKit X
set_option maxRecDepth 100000
set_option linter.unusedVariables false
variable {w w0 : World} {S0 : Nat → Prop}
theorem rd_n {L F : List It} {p : Option Addr} {n c j : Nat} {xs : List Int} {x : Int} {K : Int → Prop} (H : X.Own w0 S0 L w) (hp : Pick L (own tInt 1 (.slice p n c) n (i64s xs)) F) (hj : xs[j]? = some x) (hK : K x) :
    ix (j : Int) n fun i => nn p fun a => ldI .i64 (a.add (i * 1)) w K := by
  obtain ⟨hl, rfl⟩ := List.getElem?_eq_some_iff.1 hj
  have hn := (H.sl hp).2
  rw [i64s_length] at hn
  refine ⟨⟨by omega, by omega⟩, ?_⟩
  rw [Int.toNat_natCast]
  exact old_o H hp (i64s_get hl) hK
theorem st_n {L L2 : List It} {p : Option Addr} {n c j : Nat} {xs : List Int} {x : Int} {K : World → Prop} (H : X.Own w0 S0 L w) (hr : Rep L (own tInt 1 (.slice p n c) n (i64s xs)) (own tInt 1 (.slice p n c) n (i64s (xs.set j x))) L2) (hj : j < xs.length) (k : ∀ w', X.Own w0 S0 L2 w' → K w') :
    ix (j : Int) n fun i => nn p fun a => st1 (.int .i64 x) (a.add (i * 1)) w K := by
  obtain ⟨F, f1, _⟩ := hr.out
  have hn := (H.sl f1).2
  rw [i64s_length] at hn
  refine ⟨⟨by omega, by omega⟩, ?_⟩
  rw [Int.toNat_natCast]
  rw [← i64s_set] at hr
  exact ost_o H hr (by omega) k
/-- numbers that lie in a block of their own are appended -/
theorem app_n {L F : List It} {p : Option Addr} {n c m b : Nat} {xs ys : List Int} {t : TypeId} {K : Option Addr → Nat → Nat → World → Prop} (H : X.Own w0 S0 L w) (hp : Pick L (own tInt 1 (.slice p n c) n (i64s xs)) F) {F2 : List It} (hq : Pick L (row b (i64s ys) t) F2)
    (hm : m = ys.length) (hn : n + m ≤ 1000000000) {cy : Nat}
    (k : ∀ p' c' w', X.Own w0 S0 (own tInt 1 (.slice p' (n + m) c') (n + m) (i64s (xs ++ ys)) :: F) w' → K p' (n + m) c' w') : runS P (Builtin.append_ #[tInts, tInts] tInts [.slice p n c, .slice (some ⟨b, 0, none⟩) m cy].toArray) w K := by
  have hrow := H.row hq
  refine app_o appInts (by omega) H hp (q := some ⟨b, 0, none⟩) (m := m) (news := i64s ys) (fun j u hj => ⟨_, rfl, ?_⟩) (by rw [i64s_length]; omega) (i64s_one ys) (by unfold maxLen; omega) (by omega) fun p' c' w' H' => ?_
  · have : (⟨b, 0, none⟩ : Addr).add j = ⟨b, j, none⟩ := by rw [add_lit]; simp
    rw [this, hrow.cell, hj]
  · rw [← i64s_append] at H'
    exact k p' c' w' H'
end Go.Proofs.YtgjddhpblpfneaaDoor
