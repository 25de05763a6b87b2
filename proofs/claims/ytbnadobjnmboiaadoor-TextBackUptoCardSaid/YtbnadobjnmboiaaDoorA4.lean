/-
  Two structs compared.
-/
import Derived.Test.YtbnadobjnmboiaaDoorA3
import Derived.Test.YtbnadobjnmboiaaDoorFn
import Derived.Laws.StructEq
namespace Go.Proofs.YtbnadobjnmboiaaDoor
open Go Go.RowKit X
set_option maxRecDepth 100000
theorem eqA_eql {t : TypeId} {xs ys : Array Value} {r : Bool} {w : World} {K : Bool → Prop} (hS : P.underlying t = some (.struct (P.fieldsOf t))) (hp : P.stoodInHeld t = false) (hm : P.eqGuardType P.depth t = false)
    (hr : (Op.eqFields 9999 xs ys (P.fieldsOf t).toList).run P w = .ok r w) (hk : K r) : eqA P .eql t (.agg xs) (.agg ys) w K := by
  refine ⟨run_eqGuard_agg w _ _ _ _ _ _ hm, r, ?_, hk⟩
  rw [run_eql_struct, show (10000 : Nat) = 9999 + 1 from rfl, run_equalIn_agg w 9999 t _ _ hS hp, hr]; rfl
theorem eqA_neq {t : TypeId} {xs ys : Array Value} {r : Bool} {w : World} {K : Bool → Prop} (hS : P.underlying t = some (.struct (P.fieldsOf t))) (hp : P.stoodInHeld t = false) (hm : P.eqGuardType P.depth t = false)
    (hr : (Op.eqFields 9999 xs ys (P.fieldsOf t).toList).run P w = .ok r w) (hk : K (!r)) : eqA P .neq t (.agg xs) (.agg ys) w K := by
  refine ⟨run_eqGuard_agg w _ _ _ _ _ _ hm, !r, ?_, hk⟩
  rw [run_neq_struct, show (10000 : Nat) = 9999 + 1 from rfl, run_equalIn_agg w 9999 t _ _ hS hp, hr]; rfl
end Go.Proofs.YtbnadobjnmboiaaDoor
