/-
  No cell of these rows narrows 'for every input' (looked for: loops, veiled, ifaces, maps, wideKeys, modest, calm, conditions, laid).
  DERIVED. THE GIVEN ROWS OF THIS SEAT. 6 by the template 'for every input the law returns true; each argument reads behind the call as it read before'; 0 by the template 'total and deterministic' (their statements: YtidcijbnbdemeaaGreatTotals.lean).
  GIVEN WITH THE SEED: the statements are not yours to turn. If you find one false, say at which input.
  Laid BY PROGRAM, IN A SANDBOX (cutbox-rows.mjs): the forced cells as the released guide's own fill.sh prints them over the translation b6c30dd847aef856… (all of the seat's roots in one cut). By AI agents, Wed Nov 11 2026. No macro, syntax, notation, axiom, sorry.
-/
import Derived.Test.YtidcijbnbdemeaaGreatChecked
import GoSem.Claim
import GoSem.ClaimJoined
import GoSem.ClaimMapViews
import Derived.JoinedTies
import Derived.KernelRfl
namespace Go.Proofs.YtidcijbnbdemeaaGreat
/- THE CELL 'sum', in the pinned program and in every row, IS THE sha256 OF THE DUMP (.gsa) THAT YtidcijbnbdemeaaGreatProg.lean LOADS. Nothing in Lean hashes anything: it is a label: what it is worth is what the hold of that sum in a sandbox is worth. -/
noncomputable def Tryz.pinned : Pinned := { name := "ytidcijbnbdemeaagreat", sum := "b6c30dd847aef85666c9fc2666bfe69007c01bfb84456d8effe3123f58f11a39", checked := Tryz.checked }
namespace Rows
def none {H : Type} : Left H := { results := [], args := [] }

/-- 'crierlaw24.VitsOwns': WHATEVER THE INPUT: true; the input reads as it did. -/
def vitsOwnsSpec : ChangeSpec := { name := "vitsOwns", fn := fun _ => fun
  | [d1, d2, d3, d4, d5, d6] => { results := [.lit (.bool true)], args := [d1, d2, d3, d4, d5, d6] }
  | _ => none }
def vitsOwnsRow : OpenClaim := { program := "ytidcijbnbdemeaagreat", sum := "b6c30dd847aef85666c9fc2666bfe69007c01bfb84456d8effe3123f58f11a39", func := "crier/crierlaw24.VitsOwns", spec := "vitsOwns", inPlace := ["slices.overlaps[int]", "slices.overlaps[crier/vits.device]", "slices.overlaps[crier/api.Route]"], unfollowed := true, recurses := true, apart := false }
def VitsOwnsSaid : Prop := vitsOwnsRow.holds Tryz.pinned (OpenSpec.ofChange vitsOwnsSpec)

/-- ITS FALSE NEIGHBOUR: 'it returns false'. Refute it at one input. -/
def vitsOwnsWrong : ChangeSpec := { name := "vitsOwns", fn := fun _ => fun
  | [d1, d2, d3, d4, d5, d6] => { results := [.lit (.bool false)], args := [d1, d2, d3, d4, d5, d6] }
  | _ => none }
def VitsOwnsWrongFalsely : Prop := vitsOwnsRow.holds Tryz.pinned (OpenSpec.ofChange vitsOwnsWrong)

/-- 'crierlaw24.VitsBinds': WHATEVER THE INPUT: true; the input reads as it did. -/
def vitsBindsSpec : ChangeSpec := { name := "vitsBinds", fn := fun _ => fun
  | [d1, d2, d3, d4, d5, d6] => { results := [.lit (.bool true)], args := [d1, d2, d3, d4, d5, d6] }
  | _ => none }
def vitsBindsRow : OpenClaim := { program := "ytidcijbnbdemeaagreat", sum := "b6c30dd847aef85666c9fc2666bfe69007c01bfb84456d8effe3123f58f11a39", func := "crier/crierlaw24.VitsBinds", spec := "vitsBinds", inPlace := ["slices.overlaps[int]", "slices.overlaps[crier/vits.device]", "slices.overlaps[crier/api.Route]"], unfollowed := true, recurses := true, apart := false }
def VitsBindsSaid : Prop := vitsBindsRow.holds Tryz.pinned (OpenSpec.ofChange vitsBindsSpec)

/-- ITS FALSE NEIGHBOUR: 'it returns false'. Refute it at one input. -/
def vitsBindsWrong : ChangeSpec := { name := "vitsBinds", fn := fun _ => fun
  | [d1, d2, d3, d4, d5, d6] => { results := [.lit (.bool false)], args := [d1, d2, d3, d4, d5, d6] }
  | _ => none }
def VitsBindsWrongFalsely : Prop := vitsBindsRow.holds Tryz.pinned (OpenSpec.ofChange vitsBindsWrong)

/-- 'crierlaw24.VitsNumbers': WHATEVER THE INPUT: true; the input reads as it did. -/
def vitsNumbersSpec : ChangeSpec := { name := "vitsNumbers", fn := fun _ => fun
  | [d1, d2, d3, d4, d5] => { results := [.lit (.bool true)], args := [d1, d2, d3, d4, d5] }
  | _ => none }
def vitsNumbersRow : OpenClaim := { program := "ytidcijbnbdemeaagreat", sum := "b6c30dd847aef85666c9fc2666bfe69007c01bfb84456d8effe3123f58f11a39", func := "crier/crierlaw24.VitsNumbers", spec := "vitsNumbers", inPlace := ["slices.overlaps[int]", "slices.overlaps[crier/vits.device]", "slices.overlaps[crier/api.Route]"], unfollowed := true, recurses := true, apart := false }
def VitsNumbersSaid : Prop := vitsNumbersRow.holds Tryz.pinned (OpenSpec.ofChange vitsNumbersSpec)

/-- ITS FALSE NEIGHBOUR: 'it returns false'. Refute it at one input. -/
def vitsNumbersWrong : ChangeSpec := { name := "vitsNumbers", fn := fun _ => fun
  | [d1, d2, d3, d4, d5] => { results := [.lit (.bool false)], args := [d1, d2, d3, d4, d5] }
  | _ => none }
def VitsNumbersWrongFalsely : Prop := vitsNumbersRow.holds Tryz.pinned (OpenSpec.ofChange vitsNumbersWrong)

/-- 'crierlaw24.VitsForgets': WHATEVER THE INPUT: true; the input reads as it did. -/
def vitsForgetsSpec : ChangeSpec := { name := "vitsForgets", fn := fun _ => fun
  | [d1, d2, d3, d4, d5, d6] => { results := [.lit (.bool true)], args := [d1, d2, d3, d4, d5, d6] }
  | _ => none }
def vitsForgetsRow : OpenClaim := { program := "ytidcijbnbdemeaagreat", sum := "b6c30dd847aef85666c9fc2666bfe69007c01bfb84456d8effe3123f58f11a39", func := "crier/crierlaw24.VitsForgets", spec := "vitsForgets", inPlace := ["slices.overlaps[int]", "slices.overlaps[crier/vits.device]", "slices.overlaps[crier/api.Route]"], unfollowed := true, recurses := true, apart := false }
def VitsForgetsSaid : Prop := vitsForgetsRow.holds Tryz.pinned (OpenSpec.ofChange vitsForgetsSpec)

/-- ITS FALSE NEIGHBOUR: 'it returns false'. Refute it at one input. -/
def vitsForgetsWrong : ChangeSpec := { name := "vitsForgets", fn := fun _ => fun
  | [d1, d2, d3, d4, d5, d6] => { results := [.lit (.bool false)], args := [d1, d2, d3, d4, d5, d6] }
  | _ => none }
def VitsForgetsWrongFalsely : Prop := vitsForgetsRow.holds Tryz.pinned (OpenSpec.ofChange vitsForgetsWrong)

/-- 'crierlaw24.VitsStalls': WHATEVER THE INPUT: true; the input reads as it did. -/
def vitsStallsSpec : ChangeSpec := { name := "vitsStalls", fn := fun _ => fun
  | [d1, d2, d3, d4] => { results := [.lit (.bool true)], args := [d1, d2, d3, d4] }
  | _ => none }
def vitsStallsRow : OpenClaim := { program := "ytidcijbnbdemeaagreat", sum := "b6c30dd847aef85666c9fc2666bfe69007c01bfb84456d8effe3123f58f11a39", func := "crier/crierlaw24.VitsStalls", spec := "vitsStalls", inPlace := ["slices.overlaps[int]", "slices.overlaps[crier/vits.device]", "slices.overlaps[crier/api.Route]"], unfollowed := true, recurses := true, apart := false }
def VitsStallsSaid : Prop := vitsStallsRow.holds Tryz.pinned (OpenSpec.ofChange vitsStallsSpec)

/-- ITS FALSE NEIGHBOUR: 'it returns false'. Refute it at one input. -/
def vitsStallsWrong : ChangeSpec := { name := "vitsStalls", fn := fun _ => fun
  | [d1, d2, d3, d4] => { results := [.lit (.bool false)], args := [d1, d2, d3, d4] }
  | _ => none }
def VitsStallsWrongFalsely : Prop := vitsStallsRow.holds Tryz.pinned (OpenSpec.ofChange vitsStallsWrong)

/-- 'crierlaw24.VitsDoes': WHATEVER THE INPUT: true; the input reads as it did. -/
def vitsDoesSpec : ChangeSpec := { name := "vitsDoes", fn := fun _ => fun
  | [d1, d2, d3, d4] => { results := [.lit (.bool true)], args := [d1, d2, d3, d4] }
  | _ => none }
def vitsDoesRow : OpenClaim := { program := "ytidcijbnbdemeaagreat", sum := "b6c30dd847aef85666c9fc2666bfe69007c01bfb84456d8effe3123f58f11a39", func := "crier/crierlaw24.VitsDoes", spec := "vitsDoes", inPlace := ["slices.overlaps[int]", "slices.overlaps[crier/vits.device]", "slices.overlaps[crier/api.Route]"], unfollowed := true, recurses := true, apart := false }
def VitsDoesSaid : Prop := vitsDoesRow.holds Tryz.pinned (OpenSpec.ofChange vitsDoesSpec)

/-- ITS FALSE NEIGHBOUR: 'it returns false'. Refute it at one input. -/
def vitsDoesWrong : ChangeSpec := { name := "vitsDoes", fn := fun _ => fun
  | [d1, d2, d3, d4] => { results := [.lit (.bool false)], args := [d1, d2, d3, d4] }
  | _ => none }
def VitsDoesWrongFalsely : Prop := vitsDoesRow.holds Tryz.pinned (OpenSpec.ofChange vitsDoesWrong)

/- THE SECOND FORM. 'bulk': how many values and letters a reading holds, each counted each time it is reached (what is shared counts as often as it is met; a slice's spare places count too). A statement '..UptoSaid' is the law's where the arguments, and the package variables that the reading takes, are together of bulk at most 1048576: NARROWER than '..Said'. Prove '..Said' where nothing that the law and all that it calls make is longer than what came in: it says more and counts as full. Else prove '..UptoSaid'. A law counts once. -/
mutual
def uptoBulk {H : Type} : DataW H → Nat
  | .lit (.string bytes) => bytes.length + 1
  | .lit _ => 1
  | .nil => 1
  | .ptr d => uptoBulk d + 1
  | .slice elems spare => uptoBulkAll elems + uptoBulkAll spare + 1
  | .agg parts => uptoBulkAll parts + 1
  | .iface _ d => uptoBulk d + 1
  | .map entries => uptoBulkEntries entries + 1
  | .held _ => 1
def uptoBulkAll {H : Type} : List (DataW H) → Nat
  | [] => 0
  | d :: r => uptoBulk d + uptoBulkAll r
def uptoBulkEntries {H : Type} : List (Lit × DataW H) → Nat
  | [] => 0
  | x :: r => uptoBulkEntry x + uptoBulkEntries r
def uptoBulkEntry {H : Type} : Lit × DataW H → Nat
  | (.string bytes, d) => bytes.length + uptoBulk d + 1
  | (_, d) => uptoBulk d + 1
 end
def uptoSmall : (H : Type) → List (DataW H) → Bool := fun _ ds => decide (uptoBulkAll ds ≤ 1048576)
def OpenSpec.upto (s : _root_.Go.ChangeSpec) : _root_.Go.OpenSpec := { _root_.Go.OpenSpec.ofChange s with cond := some uptoSmall }

/-- 'crierlaw24.VitsOwns', WHERE WHAT IT READS IS OF BULK AT MOST 1048576: true; the input reads as it did. -/
def vitsOwnsUptoRow : OpenClaim := { program := "ytidcijbnbdemeaagreat", sum := "b6c30dd847aef85666c9fc2666bfe69007c01bfb84456d8effe3123f58f11a39", func := "crier/crierlaw24.VitsOwns", spec := "vitsOwns", inPlace := ["slices.overlaps[int]", "slices.overlaps[crier/vits.device]", "slices.overlaps[crier/api.Route]"], unfollowed := true, recurses := true, apart := false, narrowed := true }
def VitsOwnsUptoSaid : Prop := vitsOwnsUptoRow.holds Tryz.pinned (OpenSpec.upto vitsOwnsSpec)

/-- 'crierlaw24.VitsBinds', WHERE WHAT IT READS IS OF BULK AT MOST 1048576: true; the input reads as it did. -/
def vitsBindsUptoRow : OpenClaim := { program := "ytidcijbnbdemeaagreat", sum := "b6c30dd847aef85666c9fc2666bfe69007c01bfb84456d8effe3123f58f11a39", func := "crier/crierlaw24.VitsBinds", spec := "vitsBinds", inPlace := ["slices.overlaps[int]", "slices.overlaps[crier/vits.device]", "slices.overlaps[crier/api.Route]"], unfollowed := true, recurses := true, apart := false, narrowed := true }
def VitsBindsUptoSaid : Prop := vitsBindsUptoRow.holds Tryz.pinned (OpenSpec.upto vitsBindsSpec)

/-- 'crierlaw24.VitsNumbers', WHERE WHAT IT READS IS OF BULK AT MOST 1048576: true; the input reads as it did. -/
def vitsNumbersUptoRow : OpenClaim := { program := "ytidcijbnbdemeaagreat", sum := "b6c30dd847aef85666c9fc2666bfe69007c01bfb84456d8effe3123f58f11a39", func := "crier/crierlaw24.VitsNumbers", spec := "vitsNumbers", inPlace := ["slices.overlaps[int]", "slices.overlaps[crier/vits.device]", "slices.overlaps[crier/api.Route]"], unfollowed := true, recurses := true, apart := false, narrowed := true }
def VitsNumbersUptoSaid : Prop := vitsNumbersUptoRow.holds Tryz.pinned (OpenSpec.upto vitsNumbersSpec)

/-- 'crierlaw24.VitsForgets', WHERE WHAT IT READS IS OF BULK AT MOST 1048576: true; the input reads as it did. -/
def vitsForgetsUptoRow : OpenClaim := { program := "ytidcijbnbdemeaagreat", sum := "b6c30dd847aef85666c9fc2666bfe69007c01bfb84456d8effe3123f58f11a39", func := "crier/crierlaw24.VitsForgets", spec := "vitsForgets", inPlace := ["slices.overlaps[int]", "slices.overlaps[crier/vits.device]", "slices.overlaps[crier/api.Route]"], unfollowed := true, recurses := true, apart := false, narrowed := true }
def VitsForgetsUptoSaid : Prop := vitsForgetsUptoRow.holds Tryz.pinned (OpenSpec.upto vitsForgetsSpec)

/-- 'crierlaw24.VitsStalls', WHERE WHAT IT READS IS OF BULK AT MOST 1048576: true; the input reads as it did. -/
def vitsStallsUptoRow : OpenClaim := { program := "ytidcijbnbdemeaagreat", sum := "b6c30dd847aef85666c9fc2666bfe69007c01bfb84456d8effe3123f58f11a39", func := "crier/crierlaw24.VitsStalls", spec := "vitsStalls", inPlace := ["slices.overlaps[int]", "slices.overlaps[crier/vits.device]", "slices.overlaps[crier/api.Route]"], unfollowed := true, recurses := true, apart := false, narrowed := true }
def VitsStallsUptoSaid : Prop := vitsStallsUptoRow.holds Tryz.pinned (OpenSpec.upto vitsStallsSpec)

/-- 'crierlaw24.VitsDoes', WHERE WHAT IT READS IS OF BULK AT MOST 1048576: true; the input reads as it did. -/
def vitsDoesUptoRow : OpenClaim := { program := "ytidcijbnbdemeaagreat", sum := "b6c30dd847aef85666c9fc2666bfe69007c01bfb84456d8effe3123f58f11a39", func := "crier/crierlaw24.VitsDoes", spec := "vitsDoes", inPlace := ["slices.overlaps[int]", "slices.overlaps[crier/vits.device]", "slices.overlaps[crier/api.Route]"], unfollowed := true, recurses := true, apart := false, narrowed := true }
def VitsDoesUptoSaid : Prop := vitsDoesUptoRow.holds Tryz.pinned (OpenSpec.upto vitsDoesSpec)

end Rows
end Go.Proofs.YtidcijbnbdemeaaGreat
