/-
  No cell of these rows narrows 'for every input' (looked for: loops, veiled, ifaces, maps, wideKeys, modest, calm, conditions, laid).
  DERIVED. THE GIVEN ROWS OF THIS SEAT. 6 by the template 'for every input the law returns true; each argument reads behind the call as it read before'; 0 by the template 'total and deterministic' (their statements: YtmobpenjbaaicaaTotals.lean).
  GIVEN WITH THE SEED: the statements are not yours to turn. If you find one false, say at which input.
  Laid BY PROGRAM, IN A SANDBOX (cutbox-rows.mjs): the forced cells as the released guide's own fill.sh prints them over the translation 6b8b32982aae2153… (all of the seat's roots in one cut). By AI agents, Wed Nov 11 2026. No macro, syntax, notation, axiom, sorry.
-/
import Derived.Test.YtmobpenjbaaicaaChecked
import GoSem.Claim
import GoSem.ClaimJoined
import GoSem.ClaimMapViews
import Derived.JoinedTies
import Derived.KernelRfl
namespace Go.Proofs.Ytmobpenjbaaicaa
/- THE CELL 'sum', in the pinned program and in every row, IS THE sha256 OF THE DUMP (.gsa) THAT YtmobpenjbaaicaaProg.lean LOADS. Nothing in Lean hashes anything: it is a label: what it is worth is what the hold of that sum in a sandbox is worth. -/
noncomputable def Try.pinned : Pinned := { name := "ytmobpenjbaaicaa", sum := "6b8b32982aae2153517dafdbe72b6010451f7b5c506400250db1159fc746a58a", checked := Try.checked }
namespace Rows
def none {H : Type} : Left H := { results := [], args := [] }

/-- 'crierlaw25.ShadowKeeps': WHATEVER THE INPUT: true; the input reads as it did. -/
def shadowKeepsSpec : ChangeSpec := { name := "shadowKeeps", fn := fun _ => fun
  | [d1, d2, d3, d4] => { results := [.lit (.bool true)], args := [d1, d2, d3, d4] }
  | _ => none }
def shadowKeepsRow : OpenClaim := { program := "ytmobpenjbaaicaa", sum := "6b8b32982aae2153517dafdbe72b6010451f7b5c506400250db1159fc746a58a", func := "crier/crierlaw25.ShadowKeeps", spec := "shadowKeeps", inPlace := ["slices.overlaps[int]"], apart := false }
def ShadowKeepsSaid : Prop := shadowKeepsRow.holds Try.pinned (OpenSpec.ofChange shadowKeepsSpec)

/-- ITS FALSE NEIGHBOUR: 'it returns false'. Refute it at one input. -/
def shadowKeepsWrong : ChangeSpec := { name := "shadowKeeps", fn := fun _ => fun
  | [d1, d2, d3, d4] => { results := [.lit (.bool false)], args := [d1, d2, d3, d4] }
  | _ => none }
def ShadowKeepsWrongFalsely : Prop := shadowKeepsRow.holds Try.pinned (OpenSpec.ofChange shadowKeepsWrong)

/-- 'crierlaw25.ShadowFull': WHATEVER THE INPUT: true; the input reads as it did. -/
def shadowFullSpec : ChangeSpec := { name := "shadowFull", fn := fun _ => fun
  | [d1, d2, d3, d4] => { results := [.lit (.bool true)], args := [d1, d2, d3, d4] }
  | _ => none }
def shadowFullRow : OpenClaim := { program := "ytmobpenjbaaicaa", sum := "6b8b32982aae2153517dafdbe72b6010451f7b5c506400250db1159fc746a58a", func := "crier/crierlaw25.ShadowFull", spec := "shadowFull", inPlace := ["slices.overlaps[int]"], apart := false }
def ShadowFullSaid : Prop := shadowFullRow.holds Try.pinned (OpenSpec.ofChange shadowFullSpec)

/-- ITS FALSE NEIGHBOUR: 'it returns false'. Refute it at one input. -/
def shadowFullWrong : ChangeSpec := { name := "shadowFull", fn := fun _ => fun
  | [d1, d2, d3, d4] => { results := [.lit (.bool false)], args := [d1, d2, d3, d4] }
  | _ => none }
def ShadowFullWrongFalsely : Prop := shadowFullRow.holds Try.pinned (OpenSpec.ofChange shadowFullWrong)

/-- 'crierlaw25.ShadowBound': WHATEVER THE INPUT: true; the input reads as it did. -/
def shadowBoundSpec : ChangeSpec := { name := "shadowBound", fn := fun _ => fun
  | [d1, d2, d3] => { results := [.lit (.bool true)], args := [d1, d2, d3] }
  | _ => none }
def shadowBoundRow : OpenClaim := { program := "ytmobpenjbaaicaa", sum := "6b8b32982aae2153517dafdbe72b6010451f7b5c506400250db1159fc746a58a", func := "crier/crierlaw25.ShadowBound", spec := "shadowBound", inPlace := ["slices.overlaps[int]"], unfollowed := true, recurses := true, apart := false }
def ShadowBoundSaid : Prop := shadowBoundRow.holds Try.pinned (OpenSpec.ofChange shadowBoundSpec)

/-- ITS FALSE NEIGHBOUR: 'it returns false'. Refute it at one input. -/
def shadowBoundWrong : ChangeSpec := { name := "shadowBound", fn := fun _ => fun
  | [d1, d2, d3] => { results := [.lit (.bool false)], args := [d1, d2, d3] }
  | _ => none }
def ShadowBoundWrongFalsely : Prop := shadowBoundRow.holds Try.pinned (OpenSpec.ofChange shadowBoundWrong)

/-- 'crierlaw25.ShadowOne': WHATEVER THE INPUT: true; the input reads as it did. -/
def shadowOneSpec : ChangeSpec := { name := "shadowOne", fn := fun _ => fun
  | [d1, d2] => { results := [.lit (.bool true)], args := [d1, d2] }
  | _ => none }
def shadowOneRow : OpenClaim := { program := "ytmobpenjbaaicaa", sum := "6b8b32982aae2153517dafdbe72b6010451f7b5c506400250db1159fc746a58a", func := "crier/crierlaw25.ShadowOne", spec := "shadowOne", inPlace := ["slices.overlaps[int]"], unfollowed := true, recurses := true, apart := false }
def ShadowOneSaid : Prop := shadowOneRow.holds Try.pinned (OpenSpec.ofChange shadowOneSpec)

/-- ITS FALSE NEIGHBOUR: 'it returns false'. Refute it at one input. -/
def shadowOneWrong : ChangeSpec := { name := "shadowOne", fn := fun _ => fun
  | [d1, d2] => { results := [.lit (.bool false)], args := [d1, d2] }
  | _ => none }
def ShadowOneWrongFalsely : Prop := shadowOneRow.holds Try.pinned (OpenSpec.ofChange shadowOneWrong)

/-- 'crierlaw25.ShadowOf': WHATEVER THE INPUT: true; the input reads as it did. -/
def shadowOfSpec : ChangeSpec := { name := "shadowOf", fn := fun _ => fun
  | [d1, d2, d3] => { results := [.lit (.bool true)], args := [d1, d2, d3] }
  | _ => none }
def shadowOfRow : OpenClaim := { program := "ytmobpenjbaaicaa", sum := "6b8b32982aae2153517dafdbe72b6010451f7b5c506400250db1159fc746a58a", func := "crier/crierlaw25.ShadowOf", spec := "shadowOf", inPlace := ["slices.overlaps[int]"], unfollowed := true, recurses := true, apart := false }
def ShadowOfSaid : Prop := shadowOfRow.holds Try.pinned (OpenSpec.ofChange shadowOfSpec)

/-- ITS FALSE NEIGHBOUR: 'it returns false'. Refute it at one input. -/
def shadowOfWrong : ChangeSpec := { name := "shadowOf", fn := fun _ => fun
  | [d1, d2, d3] => { results := [.lit (.bool false)], args := [d1, d2, d3] }
  | _ => none }
def ShadowOfWrongFalsely : Prop := shadowOfRow.holds Try.pinned (OpenSpec.ofChange shadowOfWrong)

/-- 'crierlaw25.ShadowDoes': WHATEVER THE INPUT: true; the input reads as it did. -/
def shadowDoesSpec : ChangeSpec := { name := "shadowDoes", fn := fun _ => fun
  | [d1, d2, d3] => { results := [.lit (.bool true)], args := [d1, d2, d3] }
  | _ => none }
def shadowDoesRow : OpenClaim := { program := "ytmobpenjbaaicaa", sum := "6b8b32982aae2153517dafdbe72b6010451f7b5c506400250db1159fc746a58a", func := "crier/crierlaw25.ShadowDoes", spec := "shadowDoes", inPlace := ["slices.overlaps[int]"], unfollowed := true, recurses := true, apart := false }
def ShadowDoesSaid : Prop := shadowDoesRow.holds Try.pinned (OpenSpec.ofChange shadowDoesSpec)

/-- ITS FALSE NEIGHBOUR: 'it returns false'. Refute it at one input. -/
def shadowDoesWrong : ChangeSpec := { name := "shadowDoes", fn := fun _ => fun
  | [d1, d2, d3] => { results := [.lit (.bool false)], args := [d1, d2, d3] }
  | _ => none }
def ShadowDoesWrongFalsely : Prop := shadowDoesRow.holds Try.pinned (OpenSpec.ofChange shadowDoesWrong)

/- THE SECOND FORM. 'bulk': how many values and letters a reading holds, each counted each time it is reached (what is shared counts as often as it is met; a slice's spare places count too). A statement '..UptoSaid' is the law's where the arguments, and the package variables that the reading takes, are together of bulk at most 1048576: NARROWER than '..Said'. Prove '..Said' where nothing that the law and all that it calls make is longer than what came in: it says more and counts as full. Else prove '..UptoSaid'. A law counts once. -/
mutual
def uptoBulk {H : Type} : DataW H → Nat
  | .lit (.string bytes) => bytes.length + 1
  | .lit _ => 1
  | .nil => 1
  | .ptr d => uptoBulk d + 1
  | .slice elems spare => uptoBulkAll elems + uptoBulkAll spare + 1
  | .agg parts => uptoBulkAll parts + 1
  | .iface _ d => uptoBulk d + 1
  | .map entries => uptoBulkEntries entries + 1
  | .held _ => 1
def uptoBulkAll {H : Type} : List (DataW H) → Nat
  | [] => 0
  | d :: r => uptoBulk d + uptoBulkAll r
def uptoBulkEntries {H : Type} : List (Lit × DataW H) → Nat
  | [] => 0
  | x :: r => uptoBulkEntry x + uptoBulkEntries r
def uptoBulkEntry {H : Type} : Lit × DataW H → Nat
  | (.string bytes, d) => bytes.length + uptoBulk d + 1
  | (_, d) => uptoBulk d + 1
 end
def uptoSmall : (H : Type) → List (DataW H) → Bool := fun _ ds => decide (uptoBulkAll ds ≤ 1048576)
def OpenSpec.upto (s : _root_.Go.ChangeSpec) : _root_.Go.OpenSpec := { _root_.Go.OpenSpec.ofChange s with cond := some uptoSmall }

/-- 'crierlaw25.ShadowKeeps', WHERE WHAT IT READS IS OF BULK AT MOST 1048576: true; the input reads as it did. -/
def shadowKeepsUptoRow : OpenClaim := { program := "ytmobpenjbaaicaa", sum := "6b8b32982aae2153517dafdbe72b6010451f7b5c506400250db1159fc746a58a", func := "crier/crierlaw25.ShadowKeeps", spec := "shadowKeeps", inPlace := ["slices.overlaps[int]"], apart := false, narrowed := true }
def ShadowKeepsUptoSaid : Prop := shadowKeepsUptoRow.holds Try.pinned (OpenSpec.upto shadowKeepsSpec)

/-- 'crierlaw25.ShadowFull', WHERE WHAT IT READS IS OF BULK AT MOST 1048576: true; the input reads as it did. -/
def shadowFullUptoRow : OpenClaim := { program := "ytmobpenjbaaicaa", sum := "6b8b32982aae2153517dafdbe72b6010451f7b5c506400250db1159fc746a58a", func := "crier/crierlaw25.ShadowFull", spec := "shadowFull", inPlace := ["slices.overlaps[int]"], apart := false, narrowed := true }
def ShadowFullUptoSaid : Prop := shadowFullUptoRow.holds Try.pinned (OpenSpec.upto shadowFullSpec)

/-- 'crierlaw25.ShadowBound', WHERE WHAT IT READS IS OF BULK AT MOST 1048576: true; the input reads as it did. -/
def shadowBoundUptoRow : OpenClaim := { program := "ytmobpenjbaaicaa", sum := "6b8b32982aae2153517dafdbe72b6010451f7b5c506400250db1159fc746a58a", func := "crier/crierlaw25.ShadowBound", spec := "shadowBound", inPlace := ["slices.overlaps[int]"], unfollowed := true, recurses := true, apart := false, narrowed := true }
def ShadowBoundUptoSaid : Prop := shadowBoundUptoRow.holds Try.pinned (OpenSpec.upto shadowBoundSpec)

/-- 'crierlaw25.ShadowOne', WHERE WHAT IT READS IS OF BULK AT MOST 1048576: true; the input reads as it did. -/
def shadowOneUptoRow : OpenClaim := { program := "ytmobpenjbaaicaa", sum := "6b8b32982aae2153517dafdbe72b6010451f7b5c506400250db1159fc746a58a", func := "crier/crierlaw25.ShadowOne", spec := "shadowOne", inPlace := ["slices.overlaps[int]"], unfollowed := true, recurses := true, apart := false, narrowed := true }
def ShadowOneUptoSaid : Prop := shadowOneUptoRow.holds Try.pinned (OpenSpec.upto shadowOneSpec)

/-- 'crierlaw25.ShadowOf', WHERE WHAT IT READS IS OF BULK AT MOST 1048576: true; the input reads as it did. -/
def shadowOfUptoRow : OpenClaim := { program := "ytmobpenjbaaicaa", sum := "6b8b32982aae2153517dafdbe72b6010451f7b5c506400250db1159fc746a58a", func := "crier/crierlaw25.ShadowOf", spec := "shadowOf", inPlace := ["slices.overlaps[int]"], unfollowed := true, recurses := true, apart := false, narrowed := true }
def ShadowOfUptoSaid : Prop := shadowOfUptoRow.holds Try.pinned (OpenSpec.upto shadowOfSpec)

/-- 'crierlaw25.ShadowDoes', WHERE WHAT IT READS IS OF BULK AT MOST 1048576: true; the input reads as it did. -/
def shadowDoesUptoRow : OpenClaim := { program := "ytmobpenjbaaicaa", sum := "6b8b32982aae2153517dafdbe72b6010451f7b5c506400250db1159fc746a58a", func := "crier/crierlaw25.ShadowDoes", spec := "shadowDoes", inPlace := ["slices.overlaps[int]"], unfollowed := true, recurses := true, apart := false, narrowed := true }
def ShadowDoesUptoSaid : Prop := shadowDoesUptoRow.holds Try.pinned (OpenSpec.upto shadowDoesSpec)

end Rows
end Go.Proofs.Ytmobpenjbaaicaa
