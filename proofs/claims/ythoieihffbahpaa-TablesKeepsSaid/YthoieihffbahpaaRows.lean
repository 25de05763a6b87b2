/-
  No cell of these rows narrows 'for every input' (looked for: loops, veiled, ifaces, maps, wideKeys, modest, calm, conditions, laid).
  DERIVED. THE GIVEN ROWS OF THIS SEAT. 4 by the template 'for every input the law returns true; each argument reads behind the call as it read before'; 0 by the template 'total and deterministic' (their statements: YthoieihffbahpaaTotals.lean).
  GIVEN WITH THE SEED: the statements are not yours to turn. If you find one false, say at which input.
  Laid BY PROGRAM, IN A SANDBOX (cutbox-rows.mjs): the forced cells as the released guide's own fill.sh prints them over the translation 3655e2a0425fa74e… (all of the seat's roots in one cut). By AI agents, Wed Nov 11 2026. No macro, syntax, notation, axiom, sorry.
-/
import Derived.Test.YthoieihffbahpaaChecked
import GoSem.Claim
import GoSem.ClaimJoined
import GoSem.ClaimMapViews
import Derived.JoinedTies
import Derived.KernelRfl
namespace Go.Proofs.Ythoieihffbahpaa
/- THE CELL 'sum', in the pinned program and in every row, IS THE sha256 OF THE DUMP (.gsa) THAT YthoieihffbahpaaProg.lean LOADS. Nothing in Lean hashes anything: it is a label: what it is worth is what the hold of that sum in a sandbox is worth. -/
noncomputable def Try.pinned : Pinned := { name := "ythoieihffbahpaa", sum := "3655e2a0425fa74e11b4abc0ed1584f9e83c56ce206d0a3a08f56752d9550c23", checked := Try.checked }
namespace Rows
def none {H : Type} : Left H := { results := [], args := [] }

/-- 'crierlaw18.TablesFlat': WHATEVER THE INPUT: true; the input reads as it did. -/
def tablesFlatSpec : ChangeSpec := { name := "tablesFlat", fn := fun _ => fun
  | [d1, d2, d3] => { results := [.lit (.bool true)], args := [d1, d2, d3] }
  | _ => none }
def tablesFlatRow : OpenClaim := { program := "ythoieihffbahpaa", sum := "3655e2a0425fa74e11b4abc0ed1584f9e83c56ce206d0a3a08f56752d9550c23", func := "crier/crierlaw18.TablesFlat", spec := "tablesFlat", apart := false }
def TablesFlatSaid : Prop := tablesFlatRow.holds Try.pinned (OpenSpec.ofChange tablesFlatSpec)

/-- ITS FALSE NEIGHBOUR: 'it returns false'. Refute it at one input. -/
def tablesFlatWrong : ChangeSpec := { name := "tablesFlat", fn := fun _ => fun
  | [d1, d2, d3] => { results := [.lit (.bool false)], args := [d1, d2, d3] }
  | _ => none }
def TablesFlatWrongFalsely : Prop := tablesFlatRow.holds Try.pinned (OpenSpec.ofChange tablesFlatWrong)

/-- 'crierlaw18.TablesRoutes': WHATEVER THE INPUT: true; the input reads as it did. -/
def tablesRoutesSpec : ChangeSpec := { name := "tablesRoutes", fn := fun _ => fun
  | [d1, d2, d3, d4] => { results := [.lit (.bool true)], args := [d1, d2, d3, d4] }
  | _ => none }
def tablesRoutesRow : OpenClaim := { program := "ythoieihffbahpaa", sum := "3655e2a0425fa74e11b4abc0ed1584f9e83c56ce206d0a3a08f56752d9550c23", func := "crier/crierlaw18.TablesRoutes", spec := "tablesRoutes", unfollowed := true, recurses := true, apart := false }
def TablesRoutesSaid : Prop := tablesRoutesRow.holds Try.pinned (OpenSpec.ofChange tablesRoutesSpec)

/-- ITS FALSE NEIGHBOUR: 'it returns false'. Refute it at one input. -/
def tablesRoutesWrong : ChangeSpec := { name := "tablesRoutes", fn := fun _ => fun
  | [d1, d2, d3, d4] => { results := [.lit (.bool false)], args := [d1, d2, d3, d4] }
  | _ => none }
def TablesRoutesWrongFalsely : Prop := tablesRoutesRow.holds Try.pinned (OpenSpec.ofChange tablesRoutesWrong)

/-- 'crierlaw18.TablesTargets': WHATEVER THE INPUT: true; the input reads as it did. -/
def tablesTargetsSpec : ChangeSpec := { name := "tablesTargets", fn := fun _ => fun
  | [d1, d2, d3, d4] => { results := [.lit (.bool true)], args := [d1, d2, d3, d4] }
  | _ => none }
def tablesTargetsRow : OpenClaim := { program := "ythoieihffbahpaa", sum := "3655e2a0425fa74e11b4abc0ed1584f9e83c56ce206d0a3a08f56752d9550c23", func := "crier/crierlaw18.TablesTargets", spec := "tablesTargets", apart := false }
def TablesTargetsSaid : Prop := tablesTargetsRow.holds Try.pinned (OpenSpec.ofChange tablesTargetsSpec)

/-- ITS FALSE NEIGHBOUR: 'it returns false'. Refute it at one input. -/
def tablesTargetsWrong : ChangeSpec := { name := "tablesTargets", fn := fun _ => fun
  | [d1, d2, d3, d4] => { results := [.lit (.bool false)], args := [d1, d2, d3, d4] }
  | _ => none }
def TablesTargetsWrongFalsely : Prop := tablesTargetsRow.holds Try.pinned (OpenSpec.ofChange tablesTargetsWrong)

/-- 'crierlaw18.TablesKeeps': WHATEVER THE INPUT: true; the input reads as it did. -/
def tablesKeepsSpec : ChangeSpec := { name := "tablesKeeps", fn := fun _ => fun
  | [d1, d2, d3, d4] => { results := [.lit (.bool true)], args := [d1, d2, d3, d4] }
  | _ => none }
def tablesKeepsRow : OpenClaim := { program := "ythoieihffbahpaa", sum := "3655e2a0425fa74e11b4abc0ed1584f9e83c56ce206d0a3a08f56752d9550c23", func := "crier/crierlaw18.TablesKeeps", spec := "tablesKeeps", apart := false }
def TablesKeepsSaid : Prop := tablesKeepsRow.holds Try.pinned (OpenSpec.ofChange tablesKeepsSpec)

/-- ITS FALSE NEIGHBOUR: 'it returns false'. Refute it at one input. -/
def tablesKeepsWrong : ChangeSpec := { name := "tablesKeeps", fn := fun _ => fun
  | [d1, d2, d3, d4] => { results := [.lit (.bool false)], args := [d1, d2, d3, d4] }
  | _ => none }
def TablesKeepsWrongFalsely : Prop := tablesKeepsRow.holds Try.pinned (OpenSpec.ofChange tablesKeepsWrong)

/- THE SECOND FORM. 'bulk': how many values and letters a reading holds, each counted each time it is reached (what is shared counts as often as it is met; a slice's spare places count too). A statement '..UptoSaid' is the law's where the arguments, and the package variables that the reading takes, are together of bulk at most 1048576: NARROWER than '..Said'. Prove '..Said' where nothing that the law and all that it calls make is longer than what came in: it says more and counts as full. Else prove '..UptoSaid'. A law counts once. -/
mutual
def uptoBulk {H : Type} : DataW H → Nat
  | .lit (.string bytes) => bytes.length + 1
  | .lit _ => 1
  | .nil => 1
  | .ptr d => uptoBulk d + 1
  | .slice elems spare => uptoBulkAll elems + uptoBulkAll spare + 1
  | .agg parts => uptoBulkAll parts + 1
  | .iface _ d => uptoBulk d + 1
  | .map entries => uptoBulkEntries entries + 1
  | .held _ => 1
def uptoBulkAll {H : Type} : List (DataW H) → Nat
  | [] => 0
  | d :: r => uptoBulk d + uptoBulkAll r
def uptoBulkEntries {H : Type} : List (Lit × DataW H) → Nat
  | [] => 0
  | x :: r => uptoBulkEntry x + uptoBulkEntries r
def uptoBulkEntry {H : Type} : Lit × DataW H → Nat
  | (.string bytes, d) => bytes.length + uptoBulk d + 1
  | (_, d) => uptoBulk d + 1
 end
def uptoSmall : (H : Type) → List (DataW H) → Bool := fun _ ds => decide (uptoBulkAll ds ≤ 1048576)
def OpenSpec.upto (s : _root_.Go.ChangeSpec) : _root_.Go.OpenSpec := { _root_.Go.OpenSpec.ofChange s with cond := some uptoSmall }

/-- 'crierlaw18.TablesFlat', WHERE WHAT IT READS IS OF BULK AT MOST 1048576: true; the input reads as it did. -/
def tablesFlatUptoRow : OpenClaim := { program := "ythoieihffbahpaa", sum := "3655e2a0425fa74e11b4abc0ed1584f9e83c56ce206d0a3a08f56752d9550c23", func := "crier/crierlaw18.TablesFlat", spec := "tablesFlat", apart := false, narrowed := true }
def TablesFlatUptoSaid : Prop := tablesFlatUptoRow.holds Try.pinned (OpenSpec.upto tablesFlatSpec)

/-- 'crierlaw18.TablesRoutes', WHERE WHAT IT READS IS OF BULK AT MOST 1048576: true; the input reads as it did. -/
def tablesRoutesUptoRow : OpenClaim := { program := "ythoieihffbahpaa", sum := "3655e2a0425fa74e11b4abc0ed1584f9e83c56ce206d0a3a08f56752d9550c23", func := "crier/crierlaw18.TablesRoutes", spec := "tablesRoutes", unfollowed := true, recurses := true, apart := false, narrowed := true }
def TablesRoutesUptoSaid : Prop := tablesRoutesUptoRow.holds Try.pinned (OpenSpec.upto tablesRoutesSpec)

/-- 'crierlaw18.TablesTargets', WHERE WHAT IT READS IS OF BULK AT MOST 1048576: true; the input reads as it did. -/
def tablesTargetsUptoRow : OpenClaim := { program := "ythoieihffbahpaa", sum := "3655e2a0425fa74e11b4abc0ed1584f9e83c56ce206d0a3a08f56752d9550c23", func := "crier/crierlaw18.TablesTargets", spec := "tablesTargets", apart := false, narrowed := true }
def TablesTargetsUptoSaid : Prop := tablesTargetsUptoRow.holds Try.pinned (OpenSpec.upto tablesTargetsSpec)

/-- 'crierlaw18.TablesKeeps', WHERE WHAT IT READS IS OF BULK AT MOST 1048576: true; the input reads as it did. -/
def tablesKeepsUptoRow : OpenClaim := { program := "ythoieihffbahpaa", sum := "3655e2a0425fa74e11b4abc0ed1584f9e83c56ce206d0a3a08f56752d9550c23", func := "crier/crierlaw18.TablesKeeps", spec := "tablesKeeps", apart := false, narrowed := true }
def TablesKeepsUptoSaid : Prop := tablesKeepsUptoRow.holds Try.pinned (OpenSpec.upto tablesKeepsSpec)

end Rows
end Go.Proofs.Ythoieihffbahpaa
