/-
  DERIVED. GIVEN WITH THE SEED: THE CARDS: each row of YtlccemphlinecaaDoorRows.lean that lists a variable, with what it lists TIED to the program's text (the seventh form; the later family's looks); each row that meets fmt, with fmt's text TOLD by the authors' own Lean function (tested against real Go, not proved from fmt's source: count such statements apart). THE CARD IS WHAT COUNTS. Prove the row's statement (the work); the ties are given (YtlccemphlinecaaDoorTie.lean); close each card by the builder's one call (the guide's Derived/Test/ToyasCard.lean, 'card_holds'). Laid BY PROGRAM, IN A SANDBOX (cutbox-door.mjs). By AI agents, Wed Nov 11 2026. No macro, syntax, notation, axiom, sorry.
-/
import Derived.Test.YtlccemphlinecaaDoorRows
import GoSem.ClaimSeven
namespace Go.Proofs.YtlccemphlinecaaDoor
namespace Rows

/-- THE TIED CARD OF 'crierlaw01.SetsLeft'. -/
def setsLeftCard : Claim7 := { stood := { row := setsLeftRow, standIns := [], harness := (true, "966a5a92db9a60e899375fee9163999a25908047ad98ca96646a18d3db49e8be"), looks := false }, kinds := [], alts := [], laidByText := true, laidKinds := [.data], laidTests := true, laidLooks := .later }
def SetsLeftCardSaid : Prop := Claim7.holds Tryd.pinned (.plain (OpenSpec.ofChange setsLeftSpec)) setsLeftCard

/-- THE TIED CARD OF 'crierlaw01.SetsAny'. -/
def setsAnyCard : Claim7 := { stood := { row := setsAnyRow, standIns := [], harness := (true, "966a5a92db9a60e899375fee9163999a25908047ad98ca96646a18d3db49e8be"), looks := false }, kinds := [], alts := [], laidByText := true, laidKinds := [.data], laidTests := true, laidLooks := .later }
def SetsAnyCardSaid : Prop := Claim7.holds Tryd.pinned (.plain (OpenSpec.ofChange setsAnySpec)) setsAnyCard

/-- THE TIED CARD OF 'crierlaw01.SetsCounts'. -/
def setsCountsCard : Claim7 := { stood := { row := setsCountsRow, standIns := [], harness := (true, "966a5a92db9a60e899375fee9163999a25908047ad98ca96646a18d3db49e8be"), looks := false }, kinds := [], alts := [], laidByText := true, laidKinds := [.data], laidTests := true, laidLooks := .later }
def SetsCountsCardSaid : Prop := Claim7.holds Tryd.pinned (.plain (OpenSpec.ofChange setsCountsSpec)) setsCountsCard

/-- THE TIED CARD OF 'crierlaw01.SetsRuns'. -/
def setsRunsCard : Claim7 := { stood := { row := setsRunsRow, standIns := [], harness := (true, "966a5a92db9a60e899375fee9163999a25908047ad98ca96646a18d3db49e8be"), looks := false }, kinds := [], alts := [], laidByText := true, laidKinds := [.data], laidTests := true, laidLooks := .later }
def SetsRunsCardSaid : Prop := Claim7.holds Tryd.pinned (.plain (OpenSpec.ofChange setsRunsSpec)) setsRunsCard

/-- THE TIED CARD OF 'crierlaw01.SetsDoes'. -/
def setsDoesCard : Claim7 := { stood := { row := setsDoesRow, standIns := [], harness := (true, "966a5a92db9a60e899375fee9163999a25908047ad98ca96646a18d3db49e8be"), looks := false }, kinds := [], alts := [], laidByText := true, laidKinds := [.data], laidTests := true, laidLooks := .later }
def SetsDoesCardSaid : Prop := Claim7.holds Tryd.pinned (.plain (OpenSpec.ofChange setsDoesSpec)) setsDoesCard

/-- THE TIED CARD OF 'crierlaw01.SetsJoin'. -/
def setsJoinCard : Claim7 := { stood := { row := setsJoinRow, standIns := [], harness := (true, "966a5a92db9a60e899375fee9163999a25908047ad98ca96646a18d3db49e8be"), looks := false }, kinds := [], alts := [], laidByText := true, laidKinds := [.data], laidTests := true, laidLooks := .later }
def SetsJoinCardSaid : Prop := Claim7.holds Tryd.pinned (.plain (OpenSpec.ofChange setsJoinSpec)) setsJoinCard

/-- THE SECOND FORM's CARD OF 'crierlaw01.SetsLeft'. -/
def setsLeftUptoCard : Claim7 := { stood := { row := setsLeftUptoRow, standIns := [], harness := (true, "966a5a92db9a60e899375fee9163999a25908047ad98ca96646a18d3db49e8be"), looks := false }, kinds := [], alts := [], laidByText := true, laidKinds := [.data], laidTests := true, laidLooks := .later }
def SetsLeftUptoCardSaid : Prop := Claim7.holds Tryd.pinned (.plain (OpenSpec.upto setsLeftSpec)) setsLeftUptoCard

/-- THE SECOND FORM's CARD OF 'crierlaw01.SetsAny'. -/
def setsAnyUptoCard : Claim7 := { stood := { row := setsAnyUptoRow, standIns := [], harness := (true, "966a5a92db9a60e899375fee9163999a25908047ad98ca96646a18d3db49e8be"), looks := false }, kinds := [], alts := [], laidByText := true, laidKinds := [.data], laidTests := true, laidLooks := .later }
def SetsAnyUptoCardSaid : Prop := Claim7.holds Tryd.pinned (.plain (OpenSpec.upto setsAnySpec)) setsAnyUptoCard

/-- THE SECOND FORM's CARD OF 'crierlaw01.SetsCounts'. -/
def setsCountsUptoCard : Claim7 := { stood := { row := setsCountsUptoRow, standIns := [], harness := (true, "966a5a92db9a60e899375fee9163999a25908047ad98ca96646a18d3db49e8be"), looks := false }, kinds := [], alts := [], laidByText := true, laidKinds := [.data], laidTests := true, laidLooks := .later }
def SetsCountsUptoCardSaid : Prop := Claim7.holds Tryd.pinned (.plain (OpenSpec.upto setsCountsSpec)) setsCountsUptoCard

/-- THE SECOND FORM's CARD OF 'crierlaw01.SetsRuns'. -/
def setsRunsUptoCard : Claim7 := { stood := { row := setsRunsUptoRow, standIns := [], harness := (true, "966a5a92db9a60e899375fee9163999a25908047ad98ca96646a18d3db49e8be"), looks := false }, kinds := [], alts := [], laidByText := true, laidKinds := [.data], laidTests := true, laidLooks := .later }
def SetsRunsUptoCardSaid : Prop := Claim7.holds Tryd.pinned (.plain (OpenSpec.upto setsRunsSpec)) setsRunsUptoCard

/-- THE SECOND FORM's CARD OF 'crierlaw01.SetsDoes'. -/
def setsDoesUptoCard : Claim7 := { stood := { row := setsDoesUptoRow, standIns := [], harness := (true, "966a5a92db9a60e899375fee9163999a25908047ad98ca96646a18d3db49e8be"), looks := false }, kinds := [], alts := [], laidByText := true, laidKinds := [.data], laidTests := true, laidLooks := .later }
def SetsDoesUptoCardSaid : Prop := Claim7.holds Tryd.pinned (.plain (OpenSpec.upto setsDoesSpec)) setsDoesUptoCard

/-- THE SECOND FORM's CARD OF 'crierlaw01.SetsJoin'. -/
def setsJoinUptoCard : Claim7 := { stood := { row := setsJoinUptoRow, standIns := [], harness := (true, "966a5a92db9a60e899375fee9163999a25908047ad98ca96646a18d3db49e8be"), looks := false }, kinds := [], alts := [], laidByText := true, laidKinds := [.data], laidTests := true, laidLooks := .later }
def SetsJoinUptoCardSaid : Prop := Claim7.holds Tryd.pinned (.plain (OpenSpec.upto setsJoinSpec)) setsJoinUptoCard
end Rows
end Go.Proofs.YtlccemphlinecaaDoor
