/-
  sets: the library's table, out of the row's condition on it.
-/
import Derived.Test.YtgjddhpblpfneaaDoorBA
import Derived.Test.YtgjddhpblpfneaaDoorRows
import Derived.ProofKit
import Derived.LaidMore
import Derived.OpenShut
import Derived.Stop.Joined
namespace Go.Proofs.YtgjddhpblpfneaaDoor
open Go Go.ChangeShapes Go.WideShapes Go.ChangeAt Go.WideElems Go.RowKit
set_option linter.unusedVariables false
abbrev laidT {H : Type} : List (String × DataW H) := [("math/bits.deBruijn64tab", Rows.laid_math_bits_deBruijn64tab)]
theorem gTab : Tryd.prog.globalNamed "math/bits.deBruijn64tab" = some 0 := by kernel_rfl
theorem tTab : (Tryd.prog.globals[0]?).map (·.type) = some 127 := by kernel_rfl
theorem door_met (os : Os) (args : Array Value) : laidMetH Tryd.prog laidT ((World.doorLaid Tryd.prog 14 os).forCall (fun _ _ => 0) ⟨#[], args, []⟩).memory := by
  rw [MakeChecks.laidMetH_plain _ _ _ (by kernel_rfl)]
  exact laidMet_of_run' 8 (by kernel_rfl) (by kernel_rfl)
theorem tab_of_laid {W : World} (h : laidMetH Tryd.prog laidT W) : TabAt W := by
  rw [MakeChecks.laidMetH_plain _ _ _ (by kernel_rfl)] at h
  obtain ⟨ps, ⟨g0, t0, cs0, f0, p0, q0, hg0, ht0, hv0, hd0, _, _⟩, _⟩ := h
  obtain rfl := Option.some.inj (gTab.symm.trans hg0)
  obtain rfl := Option.some.inj (tTab.symm.trans ht0)
  obtain ⟨xs, m1, rfl, hx1, hlen, hn, hel⟩ := DataW.trod_array Tryd.underlying127 hd0
  have c3 : Tryd.prog.cellsOf 5 = 1 := by kernel_rfl
  have cT : Tryd.prog.cellsOf 127 = 64 := by kernel_rfl
  simp only [Prod.mk.injEq] at hx1
  have hdat : (Rows.laid_math_bits_deBruijn64tab : DataW Unit) = .agg (Lib.deBruijn64tab.map fun (n : Nat) => .lit (.int .u8 (n : Int))) := by rfl
  rw [hdat] at hx1
  simp only [DataW.agg.injEq] at hx1
  intro j hj
  have h1 := hel j hj
  rw [c3, Nat.mul_one] at h1
  have hj' : j < xs.length := by omega
  rw [List.getElem?_eq_getElem hj'] at h1
  obtain ⟨k, e1, e2, _⟩ := DataW.trod_int Tryd.underlying5 h1
  have hcell := World.var?_cell hg0 hv0 j
  have e3 : cs0[j]? = some (.int .u8 k) := by
    have hh := congrArg (fun l => l[0]?) e1
    simp only [List.getElem?_take, List.getElem?_drop, Nat.add_zero] at hh
    simpa using hh
  have e4 : k = (Lib.deBruijn64tab.getD j 0 : Nat) := by
    have hh := congrArg (fun l => l[j]?) hx1.1
    simp only [List.getElem?_map] at hh
    rw [List.getElem?_eq_getElem hj', Option.map_some, e2] at hh
    have hjl : j < Lib.deBruijn64tab.length := by show j < 64; exact hj
    rw [List.getElem?_eq_getElem hjl] at hh
    simp only [Option.map_some, Option.some.injEq, DataW.lit.injEq, Lit.int.injEq, true_and] at hh
    rw [List.getD_eq_getElem?_getD, List.getElem?_eq_getElem hjl, Option.getD_some]
    exact hh.symm
  rw [← e4, ← e3]
  exact hcell
end Go.Proofs.YtgjddhpblpfneaaDoor
