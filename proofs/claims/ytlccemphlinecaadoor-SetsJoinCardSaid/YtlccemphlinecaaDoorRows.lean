/-
  NARROWER THAN 'FOR EVERY INPUT', by the rows' own cells (each row's printed sentence says how): SetsLeft: laid · SetsAny: laid · SetsCounts: laid · SetsRuns: laid · SetsDoes: laid · SetsJoin: laid.
  DERIVED. THE GIVEN ROWS OF THIS SEAT. 6 by the template 'for every input the law returns true; each argument reads behind the call as it read before'; 0 by the template 'total and deterministic' (their statements: YtlccemphlinecaaDoorTotals.lean).
  GIVEN WITH THE SEED: the statements are not yours to turn. If you find one false, say at which input.
  Laid BY PROGRAM, IN A SANDBOX (cutbox-rows.mjs): the forced cells as the released guide's own fill.sh prints them over the translation 0b65532fe7a0b037… (all of the seat's roots in one cut). By AI agents, Wed Nov 11 2026. No macro, syntax, notation, axiom, sorry.
-/
import Derived.Test.YtlccemphlinecaaDoorChecked
import GoSem.Claim
import GoSem.ClaimJoined
import GoSem.ClaimMapViews
import Derived.JoinedTies
import Derived.KernelRfl
namespace Go.Proofs.YtlccemphlinecaaDoor
/- THE CELL 'sum', in the pinned program and in every row, IS THE sha256 OF THE DUMP (.gsa) THAT YtlccemphlinecaaDoorProg.lean LOADS. Nothing in Lean hashes anything: it is a label: what it is worth is what the hold of that sum in a sandbox is worth. -/
noncomputable def Tryd.pinned : Pinned := { name := "ytlccemphlinecaadoor", sum := "0b65532fe7a0b0376c3cbe52cf3247b4be009b629c1eb0a30ca5ba4f448a49d7", checked := Tryd.checked }
namespace Rows
def none {H : Type} : Left H := { results := [], args := [] }

/- WHAT THE LISTED PACKAGE-LEVEL VARIABLES READ AS WHEN THE CALL BEGINS. Each datum BY PROGRAM (the guide's laid-datum.mjs) off the statement by which the dump's own 'gosem.cut.vars' lays the variable. In a bare row this is a premise. The card (YtlccemphlinecaaDoorCards.lean) ties it to the program's text. -/
def laid_math_bits_deBruijn64tab {H : Type} : DataW H := .agg [.lit (.int .u8 0), .lit (.int .u8 1), .lit (.int .u8 56), .lit (.int .u8 2), .lit (.int .u8 57), .lit (.int .u8 49), .lit (.int .u8 28), .lit (.int .u8 3), .lit (.int .u8 61), .lit (.int .u8 58), .lit (.int .u8 42), .lit (.int .u8 50), .lit (.int .u8 38), .lit (.int .u8 29), .lit (.int .u8 17), .lit (.int .u8 4), .lit (.int .u8 62), .lit (.int .u8 47), .lit (.int .u8 59), .lit (.int .u8 36), .lit (.int .u8 45), .lit (.int .u8 43), .lit (.int .u8 51), .lit (.int .u8 22), .lit (.int .u8 53), .lit (.int .u8 39), .lit (.int .u8 33), .lit (.int .u8 30), .lit (.int .u8 24), .lit (.int .u8 18), .lit (.int .u8 12), .lit (.int .u8 5), .lit (.int .u8 63), .lit (.int .u8 55), .lit (.int .u8 48), .lit (.int .u8 27), .lit (.int .u8 60), .lit (.int .u8 41), .lit (.int .u8 37), .lit (.int .u8 16), .lit (.int .u8 46), .lit (.int .u8 35), .lit (.int .u8 44), .lit (.int .u8 21), .lit (.int .u8 52), .lit (.int .u8 32), .lit (.int .u8 23), .lit (.int .u8 11), .lit (.int .u8 54), .lit (.int .u8 26), .lit (.int .u8 40), .lit (.int .u8 15), .lit (.int .u8 34), .lit (.int .u8 20), .lit (.int .u8 31), .lit (.int .u8 10), .lit (.int .u8 25), .lit (.int .u8 14), .lit (.int .u8 19), .lit (.int .u8 9), .lit (.int .u8 13), .lit (.int .u8 8), .lit (.int .u8 7), .lit (.int .u8 6)]

/-- 'crierlaw01.SetsLeft': WHATEVER THE INPUT: true; the input reads as it did. -/
def setsLeftSpec : ChangeSpec := { name := "setsLeft", fn := fun _ => fun
  | [d1, d2, d3, d4] => { results := [.lit (.bool true)], args := [d1, d2, d3, d4] }
  | _ => none }
def setsLeftRow : OpenClaim := { program := "ytlccemphlinecaadoor", sum := "0b65532fe7a0b0376c3cbe52cf3247b4be009b629c1eb0a30ca5ba4f448a49d7", func := "crier/crierlaw01.SetsLeft", spec := "setsLeft", unfollowed := true, recurses := true, named := ["math/bits.deBruijn64tab"], apart := false, laid := [("math/bits.deBruijn64tab", laid_math_bits_deBruijn64tab)] }
def SetsLeftSaid : Prop := setsLeftRow.holds Tryd.pinned (OpenSpec.ofChange setsLeftSpec)

/-- ITS FALSE NEIGHBOUR: 'it returns false'. Refute it at one input. -/
def setsLeftWrong : ChangeSpec := { name := "setsLeft", fn := fun _ => fun
  | [d1, d2, d3, d4] => { results := [.lit (.bool false)], args := [d1, d2, d3, d4] }
  | _ => none }
def SetsLeftWrongFalsely : Prop := setsLeftRow.holds Tryd.pinned (OpenSpec.ofChange setsLeftWrong)

/-- 'crierlaw01.SetsAny': WHATEVER THE INPUT: true; the input reads as it did. -/
def setsAnySpec : ChangeSpec := { name := "setsAny", fn := fun _ => fun
  | [d1, d2] => { results := [.lit (.bool true)], args := [d1, d2] }
  | _ => none }
def setsAnyRow : OpenClaim := { program := "ytlccemphlinecaadoor", sum := "0b65532fe7a0b0376c3cbe52cf3247b4be009b629c1eb0a30ca5ba4f448a49d7", func := "crier/crierlaw01.SetsAny", spec := "setsAny", unfollowed := true, recurses := true, named := ["math/bits.deBruijn64tab"], apart := false, laid := [("math/bits.deBruijn64tab", laid_math_bits_deBruijn64tab)] }
def SetsAnySaid : Prop := setsAnyRow.holds Tryd.pinned (OpenSpec.ofChange setsAnySpec)

/-- ITS FALSE NEIGHBOUR: 'it returns false'. Refute it at one input. -/
def setsAnyWrong : ChangeSpec := { name := "setsAny", fn := fun _ => fun
  | [d1, d2] => { results := [.lit (.bool false)], args := [d1, d2] }
  | _ => none }
def SetsAnyWrongFalsely : Prop := setsAnyRow.holds Tryd.pinned (OpenSpec.ofChange setsAnyWrong)

/-- 'crierlaw01.SetsCounts': WHATEVER THE INPUT: true; the input reads as it did. -/
def setsCountsSpec : ChangeSpec := { name := "setsCounts", fn := fun _ => fun
  | [d1, d2] => { results := [.lit (.bool true)], args := [d1, d2] }
  | _ => none }
def setsCountsRow : OpenClaim := { program := "ytlccemphlinecaadoor", sum := "0b65532fe7a0b0376c3cbe52cf3247b4be009b629c1eb0a30ca5ba4f448a49d7", func := "crier/crierlaw01.SetsCounts", spec := "setsCounts", unfollowed := true, recurses := true, named := ["math/bits.deBruijn64tab"], apart := false, laid := [("math/bits.deBruijn64tab", laid_math_bits_deBruijn64tab)] }
def SetsCountsSaid : Prop := setsCountsRow.holds Tryd.pinned (OpenSpec.ofChange setsCountsSpec)

/-- ITS FALSE NEIGHBOUR: 'it returns false'. Refute it at one input. -/
def setsCountsWrong : ChangeSpec := { name := "setsCounts", fn := fun _ => fun
  | [d1, d2] => { results := [.lit (.bool false)], args := [d1, d2] }
  | _ => none }
def SetsCountsWrongFalsely : Prop := setsCountsRow.holds Tryd.pinned (OpenSpec.ofChange setsCountsWrong)

/-- 'crierlaw01.SetsRuns': WHATEVER THE INPUT: true; the input reads as it did. -/
def setsRunsSpec : ChangeSpec := { name := "setsRuns", fn := fun _ => fun
  | [d] => { results := [.lit (.bool true)], args := [d] }
  | _ => none }
def setsRunsRow : OpenClaim := { program := "ytlccemphlinecaadoor", sum := "0b65532fe7a0b0376c3cbe52cf3247b4be009b629c1eb0a30ca5ba4f448a49d7", func := "crier/crierlaw01.SetsRuns", spec := "setsRuns", unfollowed := true, recurses := true, named := ["math/bits.deBruijn64tab"], apart := false, laid := [("math/bits.deBruijn64tab", laid_math_bits_deBruijn64tab)] }
def SetsRunsSaid : Prop := setsRunsRow.holds Tryd.pinned (OpenSpec.ofChange setsRunsSpec)

/-- ITS FALSE NEIGHBOUR: 'it returns false'. Refute it at one input. -/
def setsRunsWrong : ChangeSpec := { name := "setsRuns", fn := fun _ => fun
  | [d] => { results := [.lit (.bool false)], args := [d] }
  | _ => none }
def SetsRunsWrongFalsely : Prop := setsRunsRow.holds Tryd.pinned (OpenSpec.ofChange setsRunsWrong)

/-- 'crierlaw01.SetsDoes': WHATEVER THE INPUT: true; the input reads as it did. -/
def setsDoesSpec : ChangeSpec := { name := "setsDoes", fn := fun _ => fun
  | [d1, d2] => { results := [.lit (.bool true)], args := [d1, d2] }
  | _ => none }
def setsDoesRow : OpenClaim := { program := "ytlccemphlinecaadoor", sum := "0b65532fe7a0b0376c3cbe52cf3247b4be009b629c1eb0a30ca5ba4f448a49d7", func := "crier/crierlaw01.SetsDoes", spec := "setsDoes", unfollowed := true, recurses := true, named := ["math/bits.deBruijn64tab"], apart := false, laid := [("math/bits.deBruijn64tab", laid_math_bits_deBruijn64tab)] }
def SetsDoesSaid : Prop := setsDoesRow.holds Tryd.pinned (OpenSpec.ofChange setsDoesSpec)

/-- ITS FALSE NEIGHBOUR: 'it returns false'. Refute it at one input. -/
def setsDoesWrong : ChangeSpec := { name := "setsDoes", fn := fun _ => fun
  | [d1, d2] => { results := [.lit (.bool false)], args := [d1, d2] }
  | _ => none }
def SetsDoesWrongFalsely : Prop := setsDoesRow.holds Tryd.pinned (OpenSpec.ofChange setsDoesWrong)

/-- 'crierlaw01.SetsJoin': WHATEVER THE INPUT: true; the input reads as it did. -/
def setsJoinSpec : ChangeSpec := { name := "setsJoin", fn := fun _ => fun
  | [d1, d2] => { results := [.lit (.bool true)], args := [d1, d2] }
  | _ => none }
def setsJoinRow : OpenClaim := { program := "ytlccemphlinecaadoor", sum := "0b65532fe7a0b0376c3cbe52cf3247b4be009b629c1eb0a30ca5ba4f448a49d7", func := "crier/crierlaw01.SetsJoin", spec := "setsJoin", unfollowed := true, recurses := true, named := ["math/bits.deBruijn64tab"], apart := false, laid := [("math/bits.deBruijn64tab", laid_math_bits_deBruijn64tab)] }
def SetsJoinSaid : Prop := setsJoinRow.holds Tryd.pinned (OpenSpec.ofChange setsJoinSpec)

/-- ITS FALSE NEIGHBOUR: 'it returns false'. Refute it at one input. -/
def setsJoinWrong : ChangeSpec := { name := "setsJoin", fn := fun _ => fun
  | [d1, d2] => { results := [.lit (.bool false)], args := [d1, d2] }
  | _ => none }
def SetsJoinWrongFalsely : Prop := setsJoinRow.holds Tryd.pinned (OpenSpec.ofChange setsJoinWrong)

/- THE SECOND FORM. 'bulk': how many values and letters a reading holds, each counted each time it is reached (what is shared counts as often as it is met; a slice's spare places count too). A statement '..UptoSaid' is the law's where the arguments, and the package variables that the reading takes, are together of bulk at most 1048576: NARROWER than '..Said'. Prove '..Said' where nothing that the law and all that it calls make is longer than what came in: it says more and counts as full. Else prove '..UptoSaid'. A law counts once. -/
mutual
def uptoBulk {H : Type} : DataW H → Nat
  | .lit (.string bytes) => bytes.length + 1
  | .lit _ => 1
  | .nil => 1
  | .ptr d => uptoBulk d + 1
  | .slice elems spare => uptoBulkAll elems + uptoBulkAll spare + 1
  | .agg parts => uptoBulkAll parts + 1
  | .iface _ d => uptoBulk d + 1
  | .map entries => uptoBulkEntries entries + 1
  | .held _ => 1
def uptoBulkAll {H : Type} : List (DataW H) → Nat
  | [] => 0
  | d :: r => uptoBulk d + uptoBulkAll r
def uptoBulkEntries {H : Type} : List (Lit × DataW H) → Nat
  | [] => 0
  | x :: r => uptoBulkEntry x + uptoBulkEntries r
def uptoBulkEntry {H : Type} : Lit × DataW H → Nat
  | (.string bytes, d) => bytes.length + uptoBulk d + 1
  | (_, d) => uptoBulk d + 1
 end
def uptoSmall : (H : Type) → List (DataW H) → Bool := fun _ ds => decide (uptoBulkAll ds ≤ 1048576)
def OpenSpec.upto (s : _root_.Go.ChangeSpec) : _root_.Go.OpenSpec := { _root_.Go.OpenSpec.ofChange s with cond := some uptoSmall }

/-- 'crierlaw01.SetsLeft', WHERE WHAT IT READS IS OF BULK AT MOST 1048576: true; the input reads as it did. -/
def setsLeftUptoRow : OpenClaim := { program := "ytlccemphlinecaadoor", sum := "0b65532fe7a0b0376c3cbe52cf3247b4be009b629c1eb0a30ca5ba4f448a49d7", func := "crier/crierlaw01.SetsLeft", spec := "setsLeft", unfollowed := true, recurses := true, named := ["math/bits.deBruijn64tab"], apart := false, laid := [("math/bits.deBruijn64tab", laid_math_bits_deBruijn64tab)], narrowed := true }
def SetsLeftUptoSaid : Prop := setsLeftUptoRow.holds Tryd.pinned (OpenSpec.upto setsLeftSpec)

/-- 'crierlaw01.SetsAny', WHERE WHAT IT READS IS OF BULK AT MOST 1048576: true; the input reads as it did. -/
def setsAnyUptoRow : OpenClaim := { program := "ytlccemphlinecaadoor", sum := "0b65532fe7a0b0376c3cbe52cf3247b4be009b629c1eb0a30ca5ba4f448a49d7", func := "crier/crierlaw01.SetsAny", spec := "setsAny", unfollowed := true, recurses := true, named := ["math/bits.deBruijn64tab"], apart := false, laid := [("math/bits.deBruijn64tab", laid_math_bits_deBruijn64tab)], narrowed := true }
def SetsAnyUptoSaid : Prop := setsAnyUptoRow.holds Tryd.pinned (OpenSpec.upto setsAnySpec)

/-- 'crierlaw01.SetsCounts', WHERE WHAT IT READS IS OF BULK AT MOST 1048576: true; the input reads as it did. -/
def setsCountsUptoRow : OpenClaim := { program := "ytlccemphlinecaadoor", sum := "0b65532fe7a0b0376c3cbe52cf3247b4be009b629c1eb0a30ca5ba4f448a49d7", func := "crier/crierlaw01.SetsCounts", spec := "setsCounts", unfollowed := true, recurses := true, named := ["math/bits.deBruijn64tab"], apart := false, laid := [("math/bits.deBruijn64tab", laid_math_bits_deBruijn64tab)], narrowed := true }
def SetsCountsUptoSaid : Prop := setsCountsUptoRow.holds Tryd.pinned (OpenSpec.upto setsCountsSpec)

/-- 'crierlaw01.SetsRuns', WHERE WHAT IT READS IS OF BULK AT MOST 1048576: true; the input reads as it did. -/
def setsRunsUptoRow : OpenClaim := { program := "ytlccemphlinecaadoor", sum := "0b65532fe7a0b0376c3cbe52cf3247b4be009b629c1eb0a30ca5ba4f448a49d7", func := "crier/crierlaw01.SetsRuns", spec := "setsRuns", unfollowed := true, recurses := true, named := ["math/bits.deBruijn64tab"], apart := false, laid := [("math/bits.deBruijn64tab", laid_math_bits_deBruijn64tab)], narrowed := true }
def SetsRunsUptoSaid : Prop := setsRunsUptoRow.holds Tryd.pinned (OpenSpec.upto setsRunsSpec)

/-- 'crierlaw01.SetsDoes', WHERE WHAT IT READS IS OF BULK AT MOST 1048576: true; the input reads as it did. -/
def setsDoesUptoRow : OpenClaim := { program := "ytlccemphlinecaadoor", sum := "0b65532fe7a0b0376c3cbe52cf3247b4be009b629c1eb0a30ca5ba4f448a49d7", func := "crier/crierlaw01.SetsDoes", spec := "setsDoes", unfollowed := true, recurses := true, named := ["math/bits.deBruijn64tab"], apart := false, laid := [("math/bits.deBruijn64tab", laid_math_bits_deBruijn64tab)], narrowed := true }
def SetsDoesUptoSaid : Prop := setsDoesUptoRow.holds Tryd.pinned (OpenSpec.upto setsDoesSpec)

/-- 'crierlaw01.SetsJoin', WHERE WHAT IT READS IS OF BULK AT MOST 1048576: true; the input reads as it did. -/
def setsJoinUptoRow : OpenClaim := { program := "ytlccemphlinecaadoor", sum := "0b65532fe7a0b0376c3cbe52cf3247b4be009b629c1eb0a30ca5ba4f448a49d7", func := "crier/crierlaw01.SetsJoin", spec := "setsJoin", unfollowed := true, recurses := true, named := ["math/bits.deBruijn64tab"], apart := false, laid := [("math/bits.deBruijn64tab", laid_math_bits_deBruijn64tab)], narrowed := true }
def SetsJoinUptoSaid : Prop := setsJoinUptoRow.holds Tryd.pinned (OpenSpec.upto setsJoinSpec)

end Rows
end Go.Proofs.YtlccemphlinecaaDoor
