/-
  DERIVED. GIVEN WITH THE SEED: THE CARDS: each row of YtggmapokmlbgbaaDoorRows.lean that lists a variable, with what it lists TIED to the program's text (the seventh form; the later family's looks); each row that meets fmt, with fmt's text TOLD by the authors' own Lean function (tested against real Go, not proved from fmt's source: count such statements apart). THE CARD IS WHAT COUNTS. Prove the row's statement (the work); the ties are given (YtggmapokmlbgbaaDoorTie.lean); close each card by the builder's one call (the guide's Derived/Test/ToyasCard.lean, 'card_holds'). Laid BY PROGRAM, IN A SANDBOX (cutbox-door.mjs). By AI agents, Wed Nov 11 2026. No macro, syntax, notation, axiom, sorry.
-/
import Derived.Test.YtggmapokmlbgbaaDoorRows
import GoSem.ClaimSeven
namespace Go.Proofs.YtggmapokmlbgbaaDoor
namespace Rows

/-- THE TIED CARD OF 'crierlaw16.CmdWords'. -/
def cmdWordsCard : Claim7 := { stood := { row := cmdWordsRow, standIns := [], harness := (true, "fab439cd0670180d21f35d3166a3ba72f9ce1ac3a97b5a657bd5f2d6262d5481"), looks := true }, kinds := [], alts := [], laidByText := true, laidKinds := [.data, .data, .data], laidTests := true, laidLooks := .later }
def CmdWordsCardSaid : Prop := Claim7.holds Tryd.pinned (.plain (OpenSpec.ofChange cmdWordsSpec)) cmdWordsCard

/-- THE TIED CARD OF 'crierlaw16.CmdOne'. -/
def cmdOneCard : Claim7 := { stood := { row := cmdOneRow, standIns := [], harness := (true, "fab439cd0670180d21f35d3166a3ba72f9ce1ac3a97b5a657bd5f2d6262d5481"), looks := true }, kinds := [], alts := [], laidByText := true, laidKinds := [.data, .data, .data], laidTests := true, laidLooks := .later }
def CmdOneCardSaid : Prop := Claim7.holds Tryd.pinned (.plain (OpenSpec.ofChange cmdOneSpec)) cmdOneCard

/-- THE TIED CARD OF 'crierlaw16.CmdTurned'. -/
def cmdTurnedCard : Claim7 := { stood := { row := cmdTurnedRow, standIns := [], harness := (true, "fab439cd0670180d21f35d3166a3ba72f9ce1ac3a97b5a657bd5f2d6262d5481"), looks := true }, kinds := [], alts := [], laidByText := true, laidKinds := [.data, .data, .data], laidTests := true, laidLooks := .later }
def CmdTurnedCardSaid : Prop := Claim7.holds Tryd.pinned (.plain (OpenSpec.ofChange cmdTurnedSpec)) cmdTurnedCard

/-- THE TIED CARD OF 'crierlaw16.CmdKeeps'. -/
def cmdKeepsCard : Claim7 := { stood := { row := cmdKeepsRow, standIns := [], harness := (true, "fab439cd0670180d21f35d3166a3ba72f9ce1ac3a97b5a657bd5f2d6262d5481"), looks := true }, kinds := [], alts := [], laidByText := true, laidKinds := [.data, .data, .data], laidTests := true, laidLooks := .later }
def CmdKeepsCardSaid : Prop := Claim7.holds Tryd.pinned (.plain (OpenSpec.ofChange cmdKeepsSpec)) cmdKeepsCard

/-- THE TIED CARD OF 'crierlaw16.CmdStores'. -/
def cmdStoresCard : Claim7 := { stood := { row := cmdStoresRow, standIns := [], harness := (true, "fab439cd0670180d21f35d3166a3ba72f9ce1ac3a97b5a657bd5f2d6262d5481"), looks := true }, kinds := [], alts := [], laidByText := true, laidKinds := [.data, .data, .data], laidTests := true, laidLooks := .later }
def CmdStoresCardSaid : Prop := Claim7.holds Tryd.pinned (.plain (OpenSpec.ofChange cmdStoresSpec)) cmdStoresCard

/-- THE TIED CARD OF 'crierlaw16.CmdPrints'. -/
def cmdPrintsCard : Claim7 := { stood := { row := cmdPrintsRow, standIns := [], harness := (true, "fab439cd0670180d21f35d3166a3ba72f9ce1ac3a97b5a657bd5f2d6262d5481"), looks := true }, kinds := [], alts := [], laidByText := true, laidKinds := [.data, .data, .data, .data, .sentinel, .sentinel, .pinned], laidTests := true, laidLooks := .later }
def CmdPrintsCardSaid : Prop := Claim7.holds Tryd.pinned (.plain (OpenSpec.ofChange cmdPrintsSpec)) cmdPrintsCard

/-- THE TIED CARD OF 'crierlaw16.CmdBack'. -/
def cmdBackCard : Claim7 := { stood := { row := cmdBackRow, standIns := [], harness := (true, "fab439cd0670180d21f35d3166a3ba72f9ce1ac3a97b5a657bd5f2d6262d5481"), looks := true }, kinds := [], alts := [], laidByText := true, laidKinds := [.data, .data, .data, .data, .sentinel, .sentinel, .pinned], laidTests := true, laidLooks := .later }
def CmdBackCardSaid : Prop := Claim7.holds Tryd.pinned (.plain (OpenSpec.ofChange cmdBackSpec)) cmdBackCard

/-- THE SECOND FORM's CARD OF 'crierlaw16.CmdWords'. -/
def cmdWordsUptoCard : Claim7 := { stood := { row := cmdWordsUptoRow, standIns := [], harness := (true, "fab439cd0670180d21f35d3166a3ba72f9ce1ac3a97b5a657bd5f2d6262d5481"), looks := true }, kinds := [], alts := [], laidByText := true, laidKinds := [.data, .data, .data], laidTests := true, laidLooks := .later }
def CmdWordsUptoCardSaid : Prop := Claim7.holds Tryd.pinned (.plain (OpenSpec.upto cmdWordsSpec)) cmdWordsUptoCard

/-- THE SECOND FORM's CARD OF 'crierlaw16.CmdOne'. -/
def cmdOneUptoCard : Claim7 := { stood := { row := cmdOneUptoRow, standIns := [], harness := (true, "fab439cd0670180d21f35d3166a3ba72f9ce1ac3a97b5a657bd5f2d6262d5481"), looks := true }, kinds := [], alts := [], laidByText := true, laidKinds := [.data, .data, .data], laidTests := true, laidLooks := .later }
def CmdOneUptoCardSaid : Prop := Claim7.holds Tryd.pinned (.plain (OpenSpec.upto cmdOneSpec)) cmdOneUptoCard

/-- THE SECOND FORM's CARD OF 'crierlaw16.CmdTurned'. -/
def cmdTurnedUptoCard : Claim7 := { stood := { row := cmdTurnedUptoRow, standIns := [], harness := (true, "fab439cd0670180d21f35d3166a3ba72f9ce1ac3a97b5a657bd5f2d6262d5481"), looks := true }, kinds := [], alts := [], laidByText := true, laidKinds := [.data, .data, .data], laidTests := true, laidLooks := .later }
def CmdTurnedUptoCardSaid : Prop := Claim7.holds Tryd.pinned (.plain (OpenSpec.upto cmdTurnedSpec)) cmdTurnedUptoCard

/-- THE SECOND FORM's CARD OF 'crierlaw16.CmdKeeps'. -/
def cmdKeepsUptoCard : Claim7 := { stood := { row := cmdKeepsUptoRow, standIns := [], harness := (true, "fab439cd0670180d21f35d3166a3ba72f9ce1ac3a97b5a657bd5f2d6262d5481"), looks := true }, kinds := [], alts := [], laidByText := true, laidKinds := [.data, .data, .data], laidTests := true, laidLooks := .later }
def CmdKeepsUptoCardSaid : Prop := Claim7.holds Tryd.pinned (.plain (OpenSpec.upto cmdKeepsSpec)) cmdKeepsUptoCard

/-- THE SECOND FORM's CARD OF 'crierlaw16.CmdStores'. -/
def cmdStoresUptoCard : Claim7 := { stood := { row := cmdStoresUptoRow, standIns := [], harness := (true, "fab439cd0670180d21f35d3166a3ba72f9ce1ac3a97b5a657bd5f2d6262d5481"), looks := true }, kinds := [], alts := [], laidByText := true, laidKinds := [.data, .data, .data], laidTests := true, laidLooks := .later }
def CmdStoresUptoCardSaid : Prop := Claim7.holds Tryd.pinned (.plain (OpenSpec.upto cmdStoresSpec)) cmdStoresUptoCard

/-- THE SECOND FORM's CARD OF 'crierlaw16.CmdPrints'. -/
def cmdPrintsUptoCard : Claim7 := { stood := { row := cmdPrintsUptoRow, standIns := [], harness := (true, "fab439cd0670180d21f35d3166a3ba72f9ce1ac3a97b5a657bd5f2d6262d5481"), looks := true }, kinds := [], alts := [], laidByText := true, laidKinds := [.data, .data, .data, .data, .sentinel, .sentinel, .pinned], laidTests := true, laidLooks := .later }
def CmdPrintsUptoCardSaid : Prop := Claim7.holds Tryd.pinned (.plain (OpenSpec.upto cmdPrintsSpec)) cmdPrintsUptoCard

/-- THE SECOND FORM's CARD OF 'crierlaw16.CmdBack'. -/
def cmdBackUptoCard : Claim7 := { stood := { row := cmdBackUptoRow, standIns := [], harness := (true, "fab439cd0670180d21f35d3166a3ba72f9ce1ac3a97b5a657bd5f2d6262d5481"), looks := true }, kinds := [], alts := [], laidByText := true, laidKinds := [.data, .data, .data, .data, .sentinel, .sentinel, .pinned], laidTests := true, laidLooks := .later }
def CmdBackUptoCardSaid : Prop := Claim7.holds Tryd.pinned (.plain (OpenSpec.upto cmdBackSpec)) cmdBackUptoCard
end Rows
end Go.Proofs.YtggmapokmlbgbaaDoor
