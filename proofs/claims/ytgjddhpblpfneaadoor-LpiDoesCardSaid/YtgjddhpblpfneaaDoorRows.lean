/-
  NARROWER THAN 'FOR EVERY INPUT', by the rows' own cells (each row's printed sentence says how): LpiNews: laid · LpiMoves: laid · LpiBest: laid · LpiKnown: laid · LpiDoes: laid.
  DERIVED. THE GIVEN ROWS OF THIS SEAT. 5 by the template 'for every input the law returns true; each argument reads behind the call as it read before'; 0 by the template 'total and deterministic' (their statements: YtgjddhpblpfneaaDoorTotals.lean).
  GIVEN WITH THE SEED: the statements are not yours to turn. If you find one false, say at which input.
  Laid BY PROGRAM, IN A SANDBOX (cutbox-rows.mjs): the forced cells as the released guide's own fill.sh prints them over the translation 8f62b83daa82e0f1… (all of the seat's roots in one cut). By AI agents, Wed Nov 11 2026. No macro, syntax, notation, axiom, sorry.
-/
import Derived.Test.YtgjddhpblpfneaaDoorChecked
import GoSem.Claim
import GoSem.ClaimJoined
import GoSem.ClaimMapViews
import Derived.JoinedTies
import Derived.KernelRfl
namespace Go.Proofs.YtgjddhpblpfneaaDoor
/- THE CELL 'sum', in the pinned program and in every row, IS THE sha256 OF THE DUMP (.gsa) THAT YtgjddhpblpfneaaDoorProg.lean LOADS. Nothing in Lean hashes anything: it is a label: what it is worth is what the hold of that sum in a sandbox is worth. -/
noncomputable def Tryd.pinned : Pinned := { name := "ytgjddhpblpfneaadoor", sum := "8f62b83daa82e0f18fc5d179a32e75a023bfa5b555a3b948f10653c13722660b", checked := Tryd.checked }
namespace Rows
def none {H : Type} : Left H := { results := [], args := [] }

/- WHAT THE LISTED PACKAGE-LEVEL VARIABLES READ AS WHEN THE CALL BEGINS. Each datum BY PROGRAM (the guide's laid-datum.mjs) off the statement by which the dump's own 'gosem.cut.vars' lays the variable. In a bare row this is a premise. The card (YtgjddhpblpfneaaDoorCards.lean) ties it to the program's text. -/
def laid_math_bits_deBruijn64tab {H : Type} : DataW H := .agg [.lit (.int .u8 0), .lit (.int .u8 1), .lit (.int .u8 56), .lit (.int .u8 2), .lit (.int .u8 57), .lit (.int .u8 49), .lit (.int .u8 28), .lit (.int .u8 3), .lit (.int .u8 61), .lit (.int .u8 58), .lit (.int .u8 42), .lit (.int .u8 50), .lit (.int .u8 38), .lit (.int .u8 29), .lit (.int .u8 17), .lit (.int .u8 4), .lit (.int .u8 62), .lit (.int .u8 47), .lit (.int .u8 59), .lit (.int .u8 36), .lit (.int .u8 45), .lit (.int .u8 43), .lit (.int .u8 51), .lit (.int .u8 22), .lit (.int .u8 53), .lit (.int .u8 39), .lit (.int .u8 33), .lit (.int .u8 30), .lit (.int .u8 24), .lit (.int .u8 18), .lit (.int .u8 12), .lit (.int .u8 5), .lit (.int .u8 63), .lit (.int .u8 55), .lit (.int .u8 48), .lit (.int .u8 27), .lit (.int .u8 60), .lit (.int .u8 41), .lit (.int .u8 37), .lit (.int .u8 16), .lit (.int .u8 46), .lit (.int .u8 35), .lit (.int .u8 44), .lit (.int .u8 21), .lit (.int .u8 52), .lit (.int .u8 32), .lit (.int .u8 23), .lit (.int .u8 11), .lit (.int .u8 54), .lit (.int .u8 26), .lit (.int .u8 40), .lit (.int .u8 15), .lit (.int .u8 34), .lit (.int .u8 20), .lit (.int .u8 31), .lit (.int .u8 10), .lit (.int .u8 25), .lit (.int .u8 14), .lit (.int .u8 19), .lit (.int .u8 9), .lit (.int .u8 13), .lit (.int .u8 8), .lit (.int .u8 7), .lit (.int .u8 6)]

/-- 'crierlaw15.LpiNews': WHATEVER THE INPUT: true; the input reads as it did. -/
def lpiNewsSpec : ChangeSpec := { name := "lpiNews", fn := fun _ => fun
  | [d1, d2, d3, d4] => { results := [.lit (.bool true)], args := [d1, d2, d3, d4] }
  | _ => none }
def lpiNewsRow : OpenClaim := { program := "ytgjddhpblpfneaadoor", sum := "8f62b83daa82e0f18fc5d179a32e75a023bfa5b555a3b948f10653c13722660b", func := "crier/crierlaw15.LpiNews", spec := "lpiNews", unfollowed := true, recurses := true, named := ["math/bits.deBruijn64tab"], apart := false, laid := [("math/bits.deBruijn64tab", laid_math_bits_deBruijn64tab)] }
def LpiNewsSaid : Prop := lpiNewsRow.holds Tryd.pinned (OpenSpec.ofChange lpiNewsSpec)

/-- ITS FALSE NEIGHBOUR: 'it returns false'. Refute it at one input. -/
def lpiNewsWrong : ChangeSpec := { name := "lpiNews", fn := fun _ => fun
  | [d1, d2, d3, d4] => { results := [.lit (.bool false)], args := [d1, d2, d3, d4] }
  | _ => none }
def LpiNewsWrongFalsely : Prop := lpiNewsRow.holds Tryd.pinned (OpenSpec.ofChange lpiNewsWrong)

/-- 'crierlaw15.LpiMoves': WHATEVER THE INPUT: true; the input reads as it did. -/
def lpiMovesSpec : ChangeSpec := { name := "lpiMoves", fn := fun _ => fun
  | [d1, d2, d3, d4, d5, d6] => { results := [.lit (.bool true)], args := [d1, d2, d3, d4, d5, d6] }
  | _ => none }
def lpiMovesRow : OpenClaim := { program := "ytgjddhpblpfneaadoor", sum := "8f62b83daa82e0f18fc5d179a32e75a023bfa5b555a3b948f10653c13722660b", func := "crier/crierlaw15.LpiMoves", spec := "lpiMoves", unfollowed := true, recurses := true, named := ["math/bits.deBruijn64tab"], apart := false, laid := [("math/bits.deBruijn64tab", laid_math_bits_deBruijn64tab)] }
def LpiMovesSaid : Prop := lpiMovesRow.holds Tryd.pinned (OpenSpec.ofChange lpiMovesSpec)

/-- ITS FALSE NEIGHBOUR: 'it returns false'. Refute it at one input. -/
def lpiMovesWrong : ChangeSpec := { name := "lpiMoves", fn := fun _ => fun
  | [d1, d2, d3, d4, d5, d6] => { results := [.lit (.bool false)], args := [d1, d2, d3, d4, d5, d6] }
  | _ => none }
def LpiMovesWrongFalsely : Prop := lpiMovesRow.holds Tryd.pinned (OpenSpec.ofChange lpiMovesWrong)

/-- 'crierlaw15.LpiBest': WHATEVER THE INPUT: true; the input reads as it did. -/
def lpiBestSpec : ChangeSpec := { name := "lpiBest", fn := fun _ => fun
  | [d1, d2, d3, d4] => { results := [.lit (.bool true)], args := [d1, d2, d3, d4] }
  | _ => none }
def lpiBestRow : OpenClaim := { program := "ytgjddhpblpfneaadoor", sum := "8f62b83daa82e0f18fc5d179a32e75a023bfa5b555a3b948f10653c13722660b", func := "crier/crierlaw15.LpiBest", spec := "lpiBest", unfollowed := true, recurses := true, named := ["math/bits.deBruijn64tab"], apart := false, laid := [("math/bits.deBruijn64tab", laid_math_bits_deBruijn64tab)] }
def LpiBestSaid : Prop := lpiBestRow.holds Tryd.pinned (OpenSpec.ofChange lpiBestSpec)

/-- ITS FALSE NEIGHBOUR: 'it returns false'. Refute it at one input. -/
def lpiBestWrong : ChangeSpec := { name := "lpiBest", fn := fun _ => fun
  | [d1, d2, d3, d4] => { results := [.lit (.bool false)], args := [d1, d2, d3, d4] }
  | _ => none }
def LpiBestWrongFalsely : Prop := lpiBestRow.holds Tryd.pinned (OpenSpec.ofChange lpiBestWrong)

/-- 'crierlaw15.LpiKnown': WHATEVER THE INPUT: true; the input reads as it did. -/
def lpiKnownSpec : ChangeSpec := { name := "lpiKnown", fn := fun _ => fun
  | [d1, d2, d3, d4, d5, d6] => { results := [.lit (.bool true)], args := [d1, d2, d3, d4, d5, d6] }
  | _ => none }
def lpiKnownRow : OpenClaim := { program := "ytgjddhpblpfneaadoor", sum := "8f62b83daa82e0f18fc5d179a32e75a023bfa5b555a3b948f10653c13722660b", func := "crier/crierlaw15.LpiKnown", spec := "lpiKnown", unfollowed := true, recurses := true, named := ["math/bits.deBruijn64tab"], apart := false, laid := [("math/bits.deBruijn64tab", laid_math_bits_deBruijn64tab)] }
def LpiKnownSaid : Prop := lpiKnownRow.holds Tryd.pinned (OpenSpec.ofChange lpiKnownSpec)

/-- ITS FALSE NEIGHBOUR: 'it returns false'. Refute it at one input. -/
def lpiKnownWrong : ChangeSpec := { name := "lpiKnown", fn := fun _ => fun
  | [d1, d2, d3, d4, d5, d6] => { results := [.lit (.bool false)], args := [d1, d2, d3, d4, d5, d6] }
  | _ => none }
def LpiKnownWrongFalsely : Prop := lpiKnownRow.holds Tryd.pinned (OpenSpec.ofChange lpiKnownWrong)

/-- 'crierlaw15.LpiDoes': WHATEVER THE INPUT: true; the input reads as it did. -/
def lpiDoesSpec : ChangeSpec := { name := "lpiDoes", fn := fun _ => fun
  | [d1, d2, d3, d4] => { results := [.lit (.bool true)], args := [d1, d2, d3, d4] }
  | _ => none }
def lpiDoesRow : OpenClaim := { program := "ytgjddhpblpfneaadoor", sum := "8f62b83daa82e0f18fc5d179a32e75a023bfa5b555a3b948f10653c13722660b", func := "crier/crierlaw15.LpiDoes", spec := "lpiDoes", unfollowed := true, recurses := true, named := ["math/bits.deBruijn64tab"], apart := false, laid := [("math/bits.deBruijn64tab", laid_math_bits_deBruijn64tab)] }
def LpiDoesSaid : Prop := lpiDoesRow.holds Tryd.pinned (OpenSpec.ofChange lpiDoesSpec)

/-- ITS FALSE NEIGHBOUR: 'it returns false'. Refute it at one input. -/
def lpiDoesWrong : ChangeSpec := { name := "lpiDoes", fn := fun _ => fun
  | [d1, d2, d3, d4] => { results := [.lit (.bool false)], args := [d1, d2, d3, d4] }
  | _ => none }
def LpiDoesWrongFalsely : Prop := lpiDoesRow.holds Tryd.pinned (OpenSpec.ofChange lpiDoesWrong)

/- THE SECOND FORM. 'bulk': how many values and letters a reading holds, each counted each time it is reached (what is shared counts as often as it is met; a slice's spare places count too). A statement '..UptoSaid' is the law's where the arguments, and the package variables that the reading takes, are together of bulk at most 1048576: NARROWER than '..Said'. Prove '..Said' where nothing that the law and all that it calls make is longer than what came in: it says more and counts as full. Else prove '..UptoSaid'. A law counts once. -/
mutual
def uptoBulk {H : Type} : DataW H → Nat
  | .lit (.string bytes) => bytes.length + 1
  | .lit _ => 1
  | .nil => 1
  | .ptr d => uptoBulk d + 1
  | .slice elems spare => uptoBulkAll elems + uptoBulkAll spare + 1
  | .agg parts => uptoBulkAll parts + 1
  | .iface _ d => uptoBulk d + 1
  | .map entries => uptoBulkEntries entries + 1
  | .held _ => 1
def uptoBulkAll {H : Type} : List (DataW H) → Nat
  | [] => 0
  | d :: r => uptoBulk d + uptoBulkAll r
def uptoBulkEntries {H : Type} : List (Lit × DataW H) → Nat
  | [] => 0
  | x :: r => uptoBulkEntry x + uptoBulkEntries r
def uptoBulkEntry {H : Type} : Lit × DataW H → Nat
  | (.string bytes, d) => bytes.length + uptoBulk d + 1
  | (_, d) => uptoBulk d + 1
 end
def uptoSmall : (H : Type) → List (DataW H) → Bool := fun _ ds => decide (uptoBulkAll ds ≤ 1048576)
def OpenSpec.upto (s : _root_.Go.ChangeSpec) : _root_.Go.OpenSpec := { _root_.Go.OpenSpec.ofChange s with cond := some uptoSmall }

/-- 'crierlaw15.LpiNews', WHERE WHAT IT READS IS OF BULK AT MOST 1048576: true; the input reads as it did. -/
def lpiNewsUptoRow : OpenClaim := { program := "ytgjddhpblpfneaadoor", sum := "8f62b83daa82e0f18fc5d179a32e75a023bfa5b555a3b948f10653c13722660b", func := "crier/crierlaw15.LpiNews", spec := "lpiNews", unfollowed := true, recurses := true, named := ["math/bits.deBruijn64tab"], apart := false, laid := [("math/bits.deBruijn64tab", laid_math_bits_deBruijn64tab)], narrowed := true }
def LpiNewsUptoSaid : Prop := lpiNewsUptoRow.holds Tryd.pinned (OpenSpec.upto lpiNewsSpec)

/-- 'crierlaw15.LpiMoves', WHERE WHAT IT READS IS OF BULK AT MOST 1048576: true; the input reads as it did. -/
def lpiMovesUptoRow : OpenClaim := { program := "ytgjddhpblpfneaadoor", sum := "8f62b83daa82e0f18fc5d179a32e75a023bfa5b555a3b948f10653c13722660b", func := "crier/crierlaw15.LpiMoves", spec := "lpiMoves", unfollowed := true, recurses := true, named := ["math/bits.deBruijn64tab"], apart := false, laid := [("math/bits.deBruijn64tab", laid_math_bits_deBruijn64tab)], narrowed := true }
def LpiMovesUptoSaid : Prop := lpiMovesUptoRow.holds Tryd.pinned (OpenSpec.upto lpiMovesSpec)

/-- 'crierlaw15.LpiBest', WHERE WHAT IT READS IS OF BULK AT MOST 1048576: true; the input reads as it did. -/
def lpiBestUptoRow : OpenClaim := { program := "ytgjddhpblpfneaadoor", sum := "8f62b83daa82e0f18fc5d179a32e75a023bfa5b555a3b948f10653c13722660b", func := "crier/crierlaw15.LpiBest", spec := "lpiBest", unfollowed := true, recurses := true, named := ["math/bits.deBruijn64tab"], apart := false, laid := [("math/bits.deBruijn64tab", laid_math_bits_deBruijn64tab)], narrowed := true }
def LpiBestUptoSaid : Prop := lpiBestUptoRow.holds Tryd.pinned (OpenSpec.upto lpiBestSpec)

/-- 'crierlaw15.LpiKnown', WHERE WHAT IT READS IS OF BULK AT MOST 1048576: true; the input reads as it did. -/
def lpiKnownUptoRow : OpenClaim := { program := "ytgjddhpblpfneaadoor", sum := "8f62b83daa82e0f18fc5d179a32e75a023bfa5b555a3b948f10653c13722660b", func := "crier/crierlaw15.LpiKnown", spec := "lpiKnown", unfollowed := true, recurses := true, named := ["math/bits.deBruijn64tab"], apart := false, laid := [("math/bits.deBruijn64tab", laid_math_bits_deBruijn64tab)], narrowed := true }
def LpiKnownUptoSaid : Prop := lpiKnownUptoRow.holds Tryd.pinned (OpenSpec.upto lpiKnownSpec)

/-- 'crierlaw15.LpiDoes', WHERE WHAT IT READS IS OF BULK AT MOST 1048576: true; the input reads as it did. -/
def lpiDoesUptoRow : OpenClaim := { program := "ytgjddhpblpfneaadoor", sum := "8f62b83daa82e0f18fc5d179a32e75a023bfa5b555a3b948f10653c13722660b", func := "crier/crierlaw15.LpiDoes", spec := "lpiDoes", unfollowed := true, recurses := true, named := ["math/bits.deBruijn64tab"], apart := false, laid := [("math/bits.deBruijn64tab", laid_math_bits_deBruijn64tab)], narrowed := true }
def LpiDoesUptoSaid : Prop := lpiDoesUptoRow.holds Tryd.pinned (OpenSpec.upto lpiDoesSpec)

end Rows
end Go.Proofs.YtgjddhpblpfneaaDoor
