/-
  No cell of these rows narrows 'for every input' (looked for: loops, veiled, ifaces, maps, wideKeys, modest, calm, conditions, laid).
  DERIVED. THE GIVEN ROWS OF THIS SEAT. 6 by the template 'for every input the law returns true; each argument reads behind the call as it read before'; 0 by the template 'total and deterministic' (their statements: YtacklapiboeagaaTotals.lean).
  GIVEN WITH THE SEED: the statements are not yours to turn. If you find one false, say at which input.
  Laid BY PROGRAM, IN A SANDBOX (cutbox-rows.mjs): the forced cells as the released guide's own fill.sh prints them over the translation fb5bb55533f6b97a… (all of the seat's roots in one cut). By AI agents, Wed Nov 11 2026. No macro, syntax, notation, axiom, sorry.
-/
import Derived.Test.YtacklapiboeagaaChecked
import GoSem.Claim
import GoSem.ClaimJoined
import GoSem.ClaimMapViews
import Derived.JoinedTies
import Derived.KernelRfl
namespace Go.Proofs.Ytacklapiboeagaa
/- THE CELL 'sum', in the pinned program and in every row, IS THE sha256 OF THE DUMP (.gsa) THAT YtacklapiboeagaaProg.lean LOADS. Nothing in Lean hashes anything: it is a label: what it is worth is what the hold of that sum in a sandbox is worth. -/
noncomputable def Try.pinned : Pinned := { name := "ytacklapiboeagaa", sum := "fb5bb55533f6b97aac6da958ddb2c7652f80445985b8a3712d6bcee841c38a49", checked := Try.checked }
namespace Rows
def none {H : Type} : Left H := { results := [], args := [] }

/-- 'crierlaw02.RingBack': WHATEVER THE INPUT: true; the input reads as it did. -/
def ringBackSpec : ChangeSpec := { name := "ringBack", fn := fun _ => fun
  | [d1, d2] => { results := [.lit (.bool true)], args := [d1, d2] }
  | _ => none }
def ringBackRow : OpenClaim := { program := "ytacklapiboeagaa", sum := "fb5bb55533f6b97aac6da958ddb2c7652f80445985b8a3712d6bcee841c38a49", func := "crier/crierlaw02.RingBack", spec := "ringBack", unfollowed := true, recurses := true, apart := false }
def RingBackSaid : Prop := ringBackRow.holds Try.pinned (OpenSpec.ofChange ringBackSpec)

/-- ITS FALSE NEIGHBOUR: 'it returns false'. Refute it at one input. -/
def ringBackWrong : ChangeSpec := { name := "ringBack", fn := fun _ => fun
  | [d1, d2] => { results := [.lit (.bool false)], args := [d1, d2] }
  | _ => none }
def RingBackWrongFalsely : Prop := ringBackRow.holds Try.pinned (OpenSpec.ofChange ringBackWrong)

/-- 'crierlaw02.RingMore': WHATEVER THE INPUT: true; the input reads as it did. -/
def ringMoreSpec : ChangeSpec := { name := "ringMore", fn := fun _ => fun
  | [d1, d2, d3] => { results := [.lit (.bool true)], args := [d1, d2, d3] }
  | _ => none }
def ringMoreRow : OpenClaim := { program := "ytacklapiboeagaa", sum := "fb5bb55533f6b97aac6da958ddb2c7652f80445985b8a3712d6bcee841c38a49", func := "crier/crierlaw02.RingMore", spec := "ringMore", unfollowed := true, recurses := true, apart := false }
def RingMoreSaid : Prop := ringMoreRow.holds Try.pinned (OpenSpec.ofChange ringMoreSpec)

/-- ITS FALSE NEIGHBOUR: 'it returns false'. Refute it at one input. -/
def ringMoreWrong : ChangeSpec := { name := "ringMore", fn := fun _ => fun
  | [d1, d2, d3] => { results := [.lit (.bool false)], args := [d1, d2, d3] }
  | _ => none }
def RingMoreWrongFalsely : Prop := ringMoreRow.holds Try.pinned (OpenSpec.ofChange ringMoreWrong)

/-- 'crierlaw02.RingOnce': WHATEVER THE INPUT: true; the input reads as it did. -/
def ringOnceSpec : ChangeSpec := { name := "ringOnce", fn := fun _ => fun
  | [d1, d2, d3] => { results := [.lit (.bool true)], args := [d1, d2, d3] }
  | _ => none }
def ringOnceRow : OpenClaim := { program := "ytacklapiboeagaa", sum := "fb5bb55533f6b97aac6da958ddb2c7652f80445985b8a3712d6bcee841c38a49", func := "crier/crierlaw02.RingOnce", spec := "ringOnce", unfollowed := true, recurses := true, apart := false }
def RingOnceSaid : Prop := ringOnceRow.holds Try.pinned (OpenSpec.ofChange ringOnceSpec)

/-- ITS FALSE NEIGHBOUR: 'it returns false'. Refute it at one input. -/
def ringOnceWrong : ChangeSpec := { name := "ringOnce", fn := fun _ => fun
  | [d1, d2, d3] => { results := [.lit (.bool false)], args := [d1, d2, d3] }
  | _ => none }
def RingOnceWrongFalsely : Prop := ringOnceRow.holds Try.pinned (OpenSpec.ofChange ringOnceWrong)

/-- 'crierlaw02.RingIndex': WHATEVER THE INPUT: true; the input reads as it did. -/
def ringIndexSpec : ChangeSpec := { name := "ringIndex", fn := fun _ => fun
  | [d1, d2, d3] => { results := [.lit (.bool true)], args := [d1, d2, d3] }
  | _ => none }
def ringIndexRow : OpenClaim := { program := "ytacklapiboeagaa", sum := "fb5bb55533f6b97aac6da958ddb2c7652f80445985b8a3712d6bcee841c38a49", func := "crier/crierlaw02.RingIndex", spec := "ringIndex", unfollowed := true, recurses := true, apart := false }
def RingIndexSaid : Prop := ringIndexRow.holds Try.pinned (OpenSpec.ofChange ringIndexSpec)

/-- ITS FALSE NEIGHBOUR: 'it returns false'. Refute it at one input. -/
def ringIndexWrong : ChangeSpec := { name := "ringIndex", fn := fun _ => fun
  | [d1, d2, d3] => { results := [.lit (.bool false)], args := [d1, d2, d3] }
  | _ => none }
def RingIndexWrongFalsely : Prop := ringIndexRow.holds Try.pinned (OpenSpec.ofChange ringIndexWrong)

/-- 'crierlaw02.RingPlaces': WHATEVER THE INPUT: true; the input reads as it did. -/
def ringPlacesSpec : ChangeSpec := { name := "ringPlaces", fn := fun _ => fun
  | [d1, d2, d3] => { results := [.lit (.bool true)], args := [d1, d2, d3] }
  | _ => none }
def ringPlacesRow : OpenClaim := { program := "ytacklapiboeagaa", sum := "fb5bb55533f6b97aac6da958ddb2c7652f80445985b8a3712d6bcee841c38a49", func := "crier/crierlaw02.RingPlaces", spec := "ringPlaces", unfollowed := true, recurses := true, apart := false }
def RingPlacesSaid : Prop := ringPlacesRow.holds Try.pinned (OpenSpec.ofChange ringPlacesSpec)

/-- ITS FALSE NEIGHBOUR: 'it returns false'. Refute it at one input. -/
def ringPlacesWrong : ChangeSpec := { name := "ringPlaces", fn := fun _ => fun
  | [d1, d2, d3] => { results := [.lit (.bool false)], args := [d1, d2, d3] }
  | _ => none }
def RingPlacesWrongFalsely : Prop := ringPlacesRow.holds Try.pinned (OpenSpec.ofChange ringPlacesWrong)

/-- 'crierlaw02.RingWaits': WHATEVER THE INPUT: true; the input reads as it did. -/
def ringWaitsSpec : ChangeSpec := { name := "ringWaits", fn := fun _ => fun
  | [d1, d2, d3, d4] => { results := [.lit (.bool true)], args := [d1, d2, d3, d4] }
  | _ => none }
def ringWaitsRow : OpenClaim := { program := "ytacklapiboeagaa", sum := "fb5bb55533f6b97aac6da958ddb2c7652f80445985b8a3712d6bcee841c38a49", func := "crier/crierlaw02.RingWaits", spec := "ringWaits", unfollowed := true, recurses := true, apart := false }
def RingWaitsSaid : Prop := ringWaitsRow.holds Try.pinned (OpenSpec.ofChange ringWaitsSpec)

/-- ITS FALSE NEIGHBOUR: 'it returns false'. Refute it at one input. -/
def ringWaitsWrong : ChangeSpec := { name := "ringWaits", fn := fun _ => fun
  | [d1, d2, d3, d4] => { results := [.lit (.bool false)], args := [d1, d2, d3, d4] }
  | _ => none }
def RingWaitsWrongFalsely : Prop := ringWaitsRow.holds Try.pinned (OpenSpec.ofChange ringWaitsWrong)

/- THE SECOND FORM. 'bulk': how many values and letters a reading holds, each counted each time it is reached (what is shared counts as often as it is met; a slice's spare places count too). A statement '..UptoSaid' is the law's where the arguments, and the package variables that the reading takes, are together of bulk at most 1048576: NARROWER than '..Said'. Prove '..Said' where nothing that the law and all that it calls make is longer than what came in: it says more and counts as full. Else prove '..UptoSaid'. A law counts once. -/
mutual
def uptoBulk {H : Type} : DataW H → Nat
  | .lit (.string bytes) => bytes.length + 1
  | .lit _ => 1
  | .nil => 1
  | .ptr d => uptoBulk d + 1
  | .slice elems spare => uptoBulkAll elems + uptoBulkAll spare + 1
  | .agg parts => uptoBulkAll parts + 1
  | .iface _ d => uptoBulk d + 1
  | .map entries => uptoBulkEntries entries + 1
  | .held _ => 1
def uptoBulkAll {H : Type} : List (DataW H) → Nat
  | [] => 0
  | d :: r => uptoBulk d + uptoBulkAll r
def uptoBulkEntries {H : Type} : List (Lit × DataW H) → Nat
  | [] => 0
  | x :: r => uptoBulkEntry x + uptoBulkEntries r
def uptoBulkEntry {H : Type} : Lit × DataW H → Nat
  | (.string bytes, d) => bytes.length + uptoBulk d + 1
  | (_, d) => uptoBulk d + 1
 end
def uptoSmall : (H : Type) → List (DataW H) → Bool := fun _ ds => decide (uptoBulkAll ds ≤ 1048576)
def OpenSpec.upto (s : _root_.Go.ChangeSpec) : _root_.Go.OpenSpec := { _root_.Go.OpenSpec.ofChange s with cond := some uptoSmall }

/-- 'crierlaw02.RingBack', WHERE WHAT IT READS IS OF BULK AT MOST 1048576: true; the input reads as it did. -/
def ringBackUptoRow : OpenClaim := { program := "ytacklapiboeagaa", sum := "fb5bb55533f6b97aac6da958ddb2c7652f80445985b8a3712d6bcee841c38a49", func := "crier/crierlaw02.RingBack", spec := "ringBack", unfollowed := true, recurses := true, apart := false, narrowed := true }
def RingBackUptoSaid : Prop := ringBackUptoRow.holds Try.pinned (OpenSpec.upto ringBackSpec)

/-- 'crierlaw02.RingMore', WHERE WHAT IT READS IS OF BULK AT MOST 1048576: true; the input reads as it did. -/
def ringMoreUptoRow : OpenClaim := { program := "ytacklapiboeagaa", sum := "fb5bb55533f6b97aac6da958ddb2c7652f80445985b8a3712d6bcee841c38a49", func := "crier/crierlaw02.RingMore", spec := "ringMore", unfollowed := true, recurses := true, apart := false, narrowed := true }
def RingMoreUptoSaid : Prop := ringMoreUptoRow.holds Try.pinned (OpenSpec.upto ringMoreSpec)

/-- 'crierlaw02.RingOnce', WHERE WHAT IT READS IS OF BULK AT MOST 1048576: true; the input reads as it did. -/
def ringOnceUptoRow : OpenClaim := { program := "ytacklapiboeagaa", sum := "fb5bb55533f6b97aac6da958ddb2c7652f80445985b8a3712d6bcee841c38a49", func := "crier/crierlaw02.RingOnce", spec := "ringOnce", unfollowed := true, recurses := true, apart := false, narrowed := true }
def RingOnceUptoSaid : Prop := ringOnceUptoRow.holds Try.pinned (OpenSpec.upto ringOnceSpec)

/-- 'crierlaw02.RingIndex', WHERE WHAT IT READS IS OF BULK AT MOST 1048576: true; the input reads as it did. -/
def ringIndexUptoRow : OpenClaim := { program := "ytacklapiboeagaa", sum := "fb5bb55533f6b97aac6da958ddb2c7652f80445985b8a3712d6bcee841c38a49", func := "crier/crierlaw02.RingIndex", spec := "ringIndex", unfollowed := true, recurses := true, apart := false, narrowed := true }
def RingIndexUptoSaid : Prop := ringIndexUptoRow.holds Try.pinned (OpenSpec.upto ringIndexSpec)

/-- 'crierlaw02.RingPlaces', WHERE WHAT IT READS IS OF BULK AT MOST 1048576: true; the input reads as it did. -/
def ringPlacesUptoRow : OpenClaim := { program := "ytacklapiboeagaa", sum := "fb5bb55533f6b97aac6da958ddb2c7652f80445985b8a3712d6bcee841c38a49", func := "crier/crierlaw02.RingPlaces", spec := "ringPlaces", unfollowed := true, recurses := true, apart := false, narrowed := true }
def RingPlacesUptoSaid : Prop := ringPlacesUptoRow.holds Try.pinned (OpenSpec.upto ringPlacesSpec)

/-- 'crierlaw02.RingWaits', WHERE WHAT IT READS IS OF BULK AT MOST 1048576: true; the input reads as it did. -/
def ringWaitsUptoRow : OpenClaim := { program := "ytacklapiboeagaa", sum := "fb5bb55533f6b97aac6da958ddb2c7652f80445985b8a3712d6bcee841c38a49", func := "crier/crierlaw02.RingWaits", spec := "ringWaits", unfollowed := true, recurses := true, apart := false, narrowed := true }
def RingWaitsUptoSaid : Prop := ringWaitsUptoRow.holds Try.pinned (OpenSpec.upto ringWaitsSpec)

end Rows
end Go.Proofs.Ytacklapiboeagaa
