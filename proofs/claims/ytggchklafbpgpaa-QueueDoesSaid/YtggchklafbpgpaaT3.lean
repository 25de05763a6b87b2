/-
  queue: two queues compared.
-/
import Derived.Test.YtggchklafbpgpaaQA
import Derived.Test.YtggchklafbpgpaaA4
namespace Go.Proofs.Ytggchklafbpgpaa
open Go Go.RowKit X
set_option maxRecDepth 100000
set_option linter.unusedVariables false
set_option linter.unusedSimpArgs false
theorem w23_fields (d : Nat) (a b a' b' : Int) (w : World) : (Op.equalIn (d + 2) 23 (.agg [.int .i64 a, .int .i64 b].toArray) (.agg [.int .i64 a', .int .i64 b'].toArray)).run P w = .ok (a == a' && b == b') w := by
  rw [show d + 2 = (d + 1) + 1 from rfl, run_equalIn_agg w (d + 1) 23 _ _ (by kernel_rfl) (by kernel_rfl)]
  simp only [Program.fieldsOf, Try.underlying23]
  have u3 := Try.underlying3
  have a3 := Try.isAgg3
  have z3 := Try.sizeOf3
  go_simp
  repeat' split
  all_goals simp_all
theorem q_fields (p q : Qu) (w : World) : (Op.eqFields 9999 p.cells.toArray q.cells.toArray (P.fieldsOf tQ).toList).run P w = .ok (decide (p = q)) w := by
  obtain ⟨p0, p1, p2, p3⟩ := p
  obtain ⟨q0, q1, q2, q3⟩ := q
  simp only [Program.fieldsOf, Try.underlying26, Qu.cells, tQ]
  have u3 := Try.underlying3
  have a3 := Try.isAgg3
  have z3 := Try.sizeOf3
  have a23 := Try.isAgg23
  have z23 := Try.sizeOf23
  have e := w23_fields 9997 p0 p1 q0 q1 w
  go_simp
  repeat' split
  all_goals simp_all
theorem q_eq {p q : Qu} {w : World} {K : Bool → Prop} (h : K (decide (p = q))) : eqA P .eql tQ (quV p) (quV q) w K :=
  eqA_eql (by kernel_rfl) (by kernel_rfl) (by kernel_rfl) (q_fields p q w) h
theorem q_ne {p q : Qu} {w : World} {K : Bool → Prop} (h : K (!decide (p = q))) : eqA P .neq tQ (quV p) (quV q) w K :=
  eqA_neq (by kernel_rfl) (by kernel_rfl) (by kernel_rfl) (q_fields p q w) h
end Go.Proofs.Ytggchklafbpgpaa
