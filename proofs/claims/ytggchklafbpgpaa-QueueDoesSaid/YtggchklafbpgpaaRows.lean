/-
  No cell of these rows narrows 'for every input' (looked for: loops, veiled, ifaces, maps, wideKeys, modest, calm, conditions, laid).
  DERIVED. THE GIVEN ROWS OF THIS SEAT. 6 by the template 'for every input the law returns true; each argument reads behind the call as it read before'; 0 by the template 'total and deterministic' (their statements: YtggchklafbpgpaaTotals.lean).
  GIVEN WITH THE SEED: the statements are not yours to turn. If you find one false, say at which input.
  Laid BY PROGRAM, IN A SANDBOX (cutbox-rows.mjs): the forced cells as the released guide's own fill.sh prints them over the translation 0ff981427b9b9c03… (all of the seat's roots in one cut). By AI agents, Wed Nov 11 2026. No macro, syntax, notation, axiom, sorry.
-/
import Derived.Test.YtggchklafbpgpaaChecked
import GoSem.Claim
import GoSem.ClaimJoined
import GoSem.ClaimMapViews
import Derived.JoinedTies
import Derived.KernelRfl
namespace Go.Proofs.Ytggchklafbpgpaa
/- THE CELL 'sum', in the pinned program and in every row, IS THE sha256 OF THE DUMP (.gsa) THAT YtggchklafbpgpaaProg.lean LOADS. Nothing in Lean hashes anything: it is a label: what it is worth is what the hold of that sum in a sandbox is worth. -/
noncomputable def Try.pinned : Pinned := { name := "ytggchklafbpgpaa", sum := "0ff981427b9b9c03a0bf6890b3d0eb1d48dc65fc07c40014638976379750562b", checked := Try.checked }
namespace Rows
def none {H : Type} : Left H := { results := [], args := [] }

/-- 'crierlaw17.QueueNews': WHATEVER THE INPUT: true; the input reads as it did. -/
def queueNewsSpec : ChangeSpec := { name := "queueNews", fn := fun _ => fun
  | [d] => { results := [.lit (.bool true)], args := [d] }
  | _ => none }
def queueNewsRow : OpenClaim := { program := "ytggchklafbpgpaa", sum := "0ff981427b9b9c03a0bf6890b3d0eb1d48dc65fc07c40014638976379750562b", func := "crier/crierlaw17.QueueNews", spec := "queueNews", unfollowed := true, recurses := true, apart := false }
def QueueNewsSaid : Prop := queueNewsRow.holds Try.pinned (OpenSpec.ofChange queueNewsSpec)

/-- ITS FALSE NEIGHBOUR: 'it returns false'. Refute it at one input. -/
def queueNewsWrong : ChangeSpec := { name := "queueNews", fn := fun _ => fun
  | [d] => { results := [.lit (.bool false)], args := [d] }
  | _ => none }
def QueueNewsWrongFalsely : Prop := queueNewsRow.holds Try.pinned (OpenSpec.ofChange queueNewsWrong)

/-- 'crierlaw17.QueueOrder': WHATEVER THE INPUT: true; the input reads as it did. -/
def queueOrderSpec : ChangeSpec := { name := "queueOrder", fn := fun _ => fun
  | [d1, d2, d3] => { results := [.lit (.bool true)], args := [d1, d2, d3] }
  | _ => none }
def queueOrderRow : OpenClaim := { program := "ytggchklafbpgpaa", sum := "0ff981427b9b9c03a0bf6890b3d0eb1d48dc65fc07c40014638976379750562b", func := "crier/crierlaw17.QueueOrder", spec := "queueOrder", unfollowed := true, recurses := true, apart := false }
def QueueOrderSaid : Prop := queueOrderRow.holds Try.pinned (OpenSpec.ofChange queueOrderSpec)

/-- ITS FALSE NEIGHBOUR: 'it returns false'. Refute it at one input. -/
def queueOrderWrong : ChangeSpec := { name := "queueOrder", fn := fun _ => fun
  | [d1, d2, d3] => { results := [.lit (.bool false)], args := [d1, d2, d3] }
  | _ => none }
def QueueOrderWrongFalsely : Prop := queueOrderRow.holds Try.pinned (OpenSpec.ofChange queueOrderWrong)

/-- 'crierlaw17.QueueFills': WHATEVER THE INPUT: true; the input reads as it did. -/
def queueFillsSpec : ChangeSpec := { name := "queueFills", fn := fun _ => fun
  | [d1, d2] => { results := [.lit (.bool true)], args := [d1, d2] }
  | _ => none }
def queueFillsRow : OpenClaim := { program := "ytggchklafbpgpaa", sum := "0ff981427b9b9c03a0bf6890b3d0eb1d48dc65fc07c40014638976379750562b", func := "crier/crierlaw17.QueueFills", spec := "queueFills", unfollowed := true, recurses := true, apart := false }
def QueueFillsSaid : Prop := queueFillsRow.holds Try.pinned (OpenSpec.ofChange queueFillsSpec)

/-- ITS FALSE NEIGHBOUR: 'it returns false'. Refute it at one input. -/
def queueFillsWrong : ChangeSpec := { name := "queueFills", fn := fun _ => fun
  | [d1, d2] => { results := [.lit (.bool false)], args := [d1, d2] }
  | _ => none }
def QueueFillsWrongFalsely : Prop := queueFillsRow.holds Try.pinned (OpenSpec.ofChange queueFillsWrong)

/-- 'crierlaw17.QueueLoop': WHATEVER THE INPUT: true; the input reads as it did. -/
def queueLoopSpec : ChangeSpec := { name := "queueLoop", fn := fun _ => fun
  | [d1, d2, d3] => { results := [.lit (.bool true)], args := [d1, d2, d3] }
  | _ => none }
def queueLoopRow : OpenClaim := { program := "ytggchklafbpgpaa", sum := "0ff981427b9b9c03a0bf6890b3d0eb1d48dc65fc07c40014638976379750562b", func := "crier/crierlaw17.QueueLoop", spec := "queueLoop", unfollowed := true, recurses := true, apart := false }
def QueueLoopSaid : Prop := queueLoopRow.holds Try.pinned (OpenSpec.ofChange queueLoopSpec)

/-- ITS FALSE NEIGHBOUR: 'it returns false'. Refute it at one input. -/
def queueLoopWrong : ChangeSpec := { name := "queueLoop", fn := fun _ => fun
  | [d1, d2, d3] => { results := [.lit (.bool false)], args := [d1, d2, d3] }
  | _ => none }
def QueueLoopWrongFalsely : Prop := queueLoopRow.holds Try.pinned (OpenSpec.ofChange queueLoopWrong)

/-- 'crierlaw17.QueueDoes': WHATEVER THE INPUT: true; the input reads as it did. -/
def queueDoesSpec : ChangeSpec := { name := "queueDoes", fn := fun _ => fun
  | [d1, d2, d3] => { results := [.lit (.bool true)], args := [d1, d2, d3] }
  | _ => none }
def queueDoesRow : OpenClaim := { program := "ytggchklafbpgpaa", sum := "0ff981427b9b9c03a0bf6890b3d0eb1d48dc65fc07c40014638976379750562b", func := "crier/crierlaw17.QueueDoes", spec := "queueDoes", unfollowed := true, recurses := true, apart := false }
def QueueDoesSaid : Prop := queueDoesRow.holds Try.pinned (OpenSpec.ofChange queueDoesSpec)

/-- ITS FALSE NEIGHBOUR: 'it returns false'. Refute it at one input. -/
def queueDoesWrong : ChangeSpec := { name := "queueDoes", fn := fun _ => fun
  | [d1, d2, d3] => { results := [.lit (.bool false)], args := [d1, d2, d3] }
  | _ => none }
def QueueDoesWrongFalsely : Prop := queueDoesRow.holds Try.pinned (OpenSpec.ofChange queueDoesWrong)

/-- 'crierlaw17.QueueEmpty': WHATEVER THE INPUT: true; the input reads as it did. -/
def queueEmptySpec : ChangeSpec := { name := "queueEmpty", fn := fun _ => fun
  | [d1, d2, d3] => { results := [.lit (.bool true)], args := [d1, d2, d3] }
  | _ => none }
def queueEmptyRow : OpenClaim := { program := "ytggchklafbpgpaa", sum := "0ff981427b9b9c03a0bf6890b3d0eb1d48dc65fc07c40014638976379750562b", func := "crier/crierlaw17.QueueEmpty", spec := "queueEmpty", unfollowed := true, recurses := true, apart := false }
def QueueEmptySaid : Prop := queueEmptyRow.holds Try.pinned (OpenSpec.ofChange queueEmptySpec)

/-- ITS FALSE NEIGHBOUR: 'it returns false'. Refute it at one input. -/
def queueEmptyWrong : ChangeSpec := { name := "queueEmpty", fn := fun _ => fun
  | [d1, d2, d3] => { results := [.lit (.bool false)], args := [d1, d2, d3] }
  | _ => none }
def QueueEmptyWrongFalsely : Prop := queueEmptyRow.holds Try.pinned (OpenSpec.ofChange queueEmptyWrong)

/- THE SECOND FORM. 'bulk': how many values and letters a reading holds, each counted each time it is reached (what is shared counts as often as it is met; a slice's spare places count too). A statement '..UptoSaid' is the law's where the arguments, and the package variables that the reading takes, are together of bulk at most 1048576: NARROWER than '..Said'. Prove '..Said' where nothing that the law and all that it calls make is longer than what came in: it says more and counts as full. Else prove '..UptoSaid'. A law counts once. -/
mutual
def uptoBulk {H : Type} : DataW H → Nat
  | .lit (.string bytes) => bytes.length + 1
  | .lit _ => 1
  | .nil => 1
  | .ptr d => uptoBulk d + 1
  | .slice elems spare => uptoBulkAll elems + uptoBulkAll spare + 1
  | .agg parts => uptoBulkAll parts + 1
  | .iface _ d => uptoBulk d + 1
  | .map entries => uptoBulkEntries entries + 1
  | .held _ => 1
def uptoBulkAll {H : Type} : List (DataW H) → Nat
  | [] => 0
  | d :: r => uptoBulk d + uptoBulkAll r
def uptoBulkEntries {H : Type} : List (Lit × DataW H) → Nat
  | [] => 0
  | x :: r => uptoBulkEntry x + uptoBulkEntries r
def uptoBulkEntry {H : Type} : Lit × DataW H → Nat
  | (.string bytes, d) => bytes.length + uptoBulk d + 1
  | (_, d) => uptoBulk d + 1
 end
def uptoSmall : (H : Type) → List (DataW H) → Bool := fun _ ds => decide (uptoBulkAll ds ≤ 1048576)
def OpenSpec.upto (s : _root_.Go.ChangeSpec) : _root_.Go.OpenSpec := { _root_.Go.OpenSpec.ofChange s with cond := some uptoSmall }

/-- 'crierlaw17.QueueNews', WHERE WHAT IT READS IS OF BULK AT MOST 1048576: true; the input reads as it did. -/
def queueNewsUptoRow : OpenClaim := { program := "ytggchklafbpgpaa", sum := "0ff981427b9b9c03a0bf6890b3d0eb1d48dc65fc07c40014638976379750562b", func := "crier/crierlaw17.QueueNews", spec := "queueNews", unfollowed := true, recurses := true, apart := false, narrowed := true }
def QueueNewsUptoSaid : Prop := queueNewsUptoRow.holds Try.pinned (OpenSpec.upto queueNewsSpec)

/-- 'crierlaw17.QueueOrder', WHERE WHAT IT READS IS OF BULK AT MOST 1048576: true; the input reads as it did. -/
def queueOrderUptoRow : OpenClaim := { program := "ytggchklafbpgpaa", sum := "0ff981427b9b9c03a0bf6890b3d0eb1d48dc65fc07c40014638976379750562b", func := "crier/crierlaw17.QueueOrder", spec := "queueOrder", unfollowed := true, recurses := true, apart := false, narrowed := true }
def QueueOrderUptoSaid : Prop := queueOrderUptoRow.holds Try.pinned (OpenSpec.upto queueOrderSpec)

/-- 'crierlaw17.QueueFills', WHERE WHAT IT READS IS OF BULK AT MOST 1048576: true; the input reads as it did. -/
def queueFillsUptoRow : OpenClaim := { program := "ytggchklafbpgpaa", sum := "0ff981427b9b9c03a0bf6890b3d0eb1d48dc65fc07c40014638976379750562b", func := "crier/crierlaw17.QueueFills", spec := "queueFills", unfollowed := true, recurses := true, apart := false, narrowed := true }
def QueueFillsUptoSaid : Prop := queueFillsUptoRow.holds Try.pinned (OpenSpec.upto queueFillsSpec)

/-- 'crierlaw17.QueueLoop', WHERE WHAT IT READS IS OF BULK AT MOST 1048576: true; the input reads as it did. -/
def queueLoopUptoRow : OpenClaim := { program := "ytggchklafbpgpaa", sum := "0ff981427b9b9c03a0bf6890b3d0eb1d48dc65fc07c40014638976379750562b", func := "crier/crierlaw17.QueueLoop", spec := "queueLoop", unfollowed := true, recurses := true, apart := false, narrowed := true }
def QueueLoopUptoSaid : Prop := queueLoopUptoRow.holds Try.pinned (OpenSpec.upto queueLoopSpec)

/-- 'crierlaw17.QueueDoes', WHERE WHAT IT READS IS OF BULK AT MOST 1048576: true; the input reads as it did. -/
def queueDoesUptoRow : OpenClaim := { program := "ytggchklafbpgpaa", sum := "0ff981427b9b9c03a0bf6890b3d0eb1d48dc65fc07c40014638976379750562b", func := "crier/crierlaw17.QueueDoes", spec := "queueDoes", unfollowed := true, recurses := true, apart := false, narrowed := true }
def QueueDoesUptoSaid : Prop := queueDoesUptoRow.holds Try.pinned (OpenSpec.upto queueDoesSpec)

/-- 'crierlaw17.QueueEmpty', WHERE WHAT IT READS IS OF BULK AT MOST 1048576: true; the input reads as it did. -/
def queueEmptyUptoRow : OpenClaim := { program := "ytggchklafbpgpaa", sum := "0ff981427b9b9c03a0bf6890b3d0eb1d48dc65fc07c40014638976379750562b", func := "crier/crierlaw17.QueueEmpty", spec := "queueEmpty", unfollowed := true, recurses := true, apart := false, narrowed := true }
def QueueEmptyUptoSaid : Prop := queueEmptyUptoRow.holds Try.pinned (OpenSpec.upto queueEmptySpec)

end Rows
end Go.Proofs.Ytggchklafbpgpaa
