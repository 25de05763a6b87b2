/-
  E: small laws: a string of bytes.
-/
import Derived.Test.YtbnadobjnmboiaaDoorA1
import Derived.Laws.BytesString
namespace Go.Proofs.YtbnadobjnmboiaaDoor.X
open Go Go.RowKit
set_option linter.unusedVariables false
variable {P : Program} {w w0 : World} {S0 : Nat → Prop}
/-- the string of a row of bytes -/
def strOf (xs : List Int) : ByteArray := xs.foldl (fun r n => r.push (UInt8.ofNat n.toNat)) ByteArray.empty
theorem bts_i {p : Option Addr} {n c : Nat} {xs : List Int} (h : Sl w p (u8s xs)) (hl : xs.length = n) {K : ByteArray → Prop} (hK : K (strOf xs)) : runT P (Conv.bytesToString (.slice p n c)) w K := by
  subst hl
  refine ⟨_, ?_, hK⟩
  cases p with
  | none =>
    have := sl_nil h
    have : xs = [] := by cases xs <;> simp_all [u8s]
    subst this
    rfl
  | some a =>
    refine run_bytesToString w a xs.length c xs ?_
    have := run_loadCells_list (P := P) (w := w) a (u8s xs) fun j v hj => by obtain ⟨a', ha, hc⟩ := h j v hj; cases ha; exact hc
    rw [u8s_length] at this
    exact this
theorem tri_plain {f : FuncId} {args : List Value} {V : Value} (h : ∀ w, CV P f args w fun v w' => v = V ∧ Below w.heap.size w w') : Tri P f args [] fun v L' => v = V ∧ L' = [] := Tri.of_pure fun w _ _ => h w
end Go.Proofs.YtbnadobjnmboiaaDoor.X
