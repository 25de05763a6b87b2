/-
  cmd: four words compared; two commands compared.
-/
import Derived.Test.YtggmapokmlbgbaaDoorE1
import Derived.Test.YtggmapokmlbgbaaDoorA4
import Derived.ChangeKeysEq
namespace Go.Proofs.YtggmapokmlbgbaaDoor
open Go Go.RowKit X
set_option maxRecDepth 100000
set_option linter.unusedVariables false
set_option linter.unusedSimpArgs false
theorem eqA_arr {t e : TypeId} {n : Nat} {xs ys : Array Value} {r : Bool} {w : World} {K : Bool → Prop} (hu : P.underlying t = some (.array n e)) (hi : (P.info? e).isSome = true) (hm : P.eqGuardType P.depth t = false)
    (hr : (Op.eqItems 9999 e (P.cellsOf e) xs ys (List.range n)).run P w = .ok r w) (hk : K (!r)) : eqA P .neq t (.agg xs) (.agg ys) w K := by
  obtain ⟨i, hi⟩ := Option.isSome_iff_exists.1 hi
  refine ⟨run_eqGuard_agg w _ _ _ _ _ _ hm, !r, ?_, hk⟩
  rw [run_neq_struct, show (10000 : Nat) = 9999 + 1 from rfl, run_equalIn_array w 9999 xs ys hu hi, hr]; rfl
theorem eqA_arrE {t e : TypeId} {n : Nat} {xs ys : Array Value} {r : Bool} {w : World} {K : Bool → Prop} (hu : P.underlying t = some (.array n e)) (hi : (P.info? e).isSome = true) (hm : P.eqGuardType P.depth t = false)
    (hr : (Op.eqItems 9999 e (P.cellsOf e) xs ys (List.range n)).run P w = .ok r w) (hk : K r) : eqA P .eql t (.agg xs) (.agg ys) w K := by
  obtain ⟨i, hi⟩ := Option.isSome_iff_exists.1 hi
  refine ⟨run_eqGuard_agg w _ _ _ _ _ _ hm, r, ?_, hk⟩
  rw [run_eql_struct, show (10000 : Nat) = 9999 + 1 from rfl, run_equalIn_array w 9999 xs ys hu hi, hr]; rfl
theorem w4_items (a0 a1 a2 a3 x0 x1 x2 x3 : Int) (w : World) : (Op.eqItems 9999 25 (P.cellsOf 25) [.int .u64 x0, .int .u64 x1, .int .u64 x2, .int .u64 x3].toArray [.int .u64 a0, .int .u64 a1, .int .u64 a2, .int .u64 a3].toArray (List.range 4)).run P w = .ok (decide ([x0, x1, x2, x3] = [a0, a1, a2, a3])) w := by
  rw [show P.cellsOf 25 = 1 by kernel_rfl, show List.range 4 = [0, 1, 2, 3] from rfl]
  have u := Tryd.underlying25
  have a := Tryd.isAgg25
  have z := Tryd.sizeOf25
  simp only [Op.eqItems]
  go_simp
  by_cases h0 : x0 = a0 <;> by_cases h1 : x1 = a1 <;> by_cases h2 : x2 = a2 <;> by_cases h3 : x3 = a3 <;> simp [h0, h1, h2, h3]
theorem eq4 {a0 a1 a2 a3 x0 x1 x2 x3 : Int} {w : World} {K : Bool → Prop} (hK : K (!decide ([x0, x1, x2, x3] = [a0, a1, a2, a3]))) :
    eqA P .neq tW4 (.agg [.int .u64 x0, .int .u64 x1, .int .u64 x2, .int .u64 x3].toArray) (.agg [.int .u64 a0, .int .u64 a1, .int .u64 a2, .int .u64 a3].toArray) w K :=
  eqA_arr Tryd.underlying26 (by kernel_rfl) (by kernel_rfl) (w4_items a0 a1 a2 a3 x0 x1 x2 x3 w) hK
theorem cm_fields (c d : Cm) (w : World) : (Op.eqFields 9999 c.cells.toArray d.cells.toArray (P.fieldsOf tCmd).toList).run P w = .ok (decide (c = d)) w := by
  obtain ⟨c0, c1, c2, c3, c4, c5, c6, c7, c8⟩ := c
  obtain ⟨d0, d1, d2, d3, d4, d5, d6, d7, d8⟩ := d
  simp only [Program.fieldsOf, Tryd.underlying24, Cm.cells, tCmd]
  have u3 := Tryd.underlying3
  have a3 := Tryd.isAgg3
  have z3 := Tryd.sizeOf3
  have u4 := Tryd.underlying4
  have a4 := Tryd.isAgg4
  have z4 := Tryd.sizeOf4
  have u38 := Tryd.underlying22
  have a38 := Tryd.isAgg22
  have z38 := Tryd.sizeOf22
  go_simp
  repeat' split
  all_goals simp_all
theorem cm_eq {c d : Cm} {w : World} {K : Bool → Prop} (h : K (decide (c = d))) : eqA P .eql tCmd (cmV c) (cmV d) w K :=
  eqA_eql (by kernel_rfl) (by kernel_rfl) (by kernel_rfl) (cm_fields c d w) h
theorem cm_ne {c d : Cm} {w : World} {K : Bool → Prop} (h : K (!decide (c = d))) : eqA P .neq tCmd (cmV c) (cmV d) w K :=
  eqA_neq (by kernel_rfl) (by kernel_rfl) (by kernel_rfl) (cm_fields c d w) h
end Go.Proofs.YtggmapokmlbgbaaDoor
