/-
  DERIVED. GIVEN WITH THE SEED: THE CARDS: each row of YtbnadobjnmboiaaDoorRows.lean that lists a variable, with what it lists TIED to the program's text (the seventh form; the later family's looks); each row that meets fmt, with fmt's text TOLD by the authors' own Lean function (tested against real Go, not proved from fmt's source: count such statements apart). THE CARD IS WHAT COUNTS. Prove the row's statement (the work); the ties are given (YtbnadobjnmboiaaDoorTie.lean); close each card by the builder's one call (the guide's Derived/Test/ToyasCard.lean, 'card_holds'). Laid BY PROGRAM, IN A SANDBOX (cutbox-door.mjs). By AI agents, Wed Nov 11 2026. No macro, syntax, notation, axiom, sorry.
-/
import Derived.Test.YtbnadobjnmboiaaDoorRows
import GoSem.ClaimSeven
namespace Go.Proofs.YtbnadobjnmboiaaDoor
namespace Rows

/-- THE TIED CARD OF 'crierlaw29.TextLines'. -/
def textLinesCard : Claim7 := { stood := { row := textLinesRow, standIns := [], harness := (true, "59382a64b18731dfb846df21d6b5e8e0eb267e85073323bd22762ac3e43a5283"), looks := true }, kinds := [], alts := [], laidByText := true, laidKinds := [.data, .data, .data, .data, .sentinel, .sentinel, .pinned], laidTests := true, laidLooks := .later }
def TextLinesCardSaid : Prop := Claim7.holds Tryd.pinned (.plain (OpenSpec.ofChange textLinesSpec)) textLinesCard

/-- THE TIED CARD OF 'crierlaw29.TextFirst'. -/
def textFirstCard : Claim7 := { stood := { row := textFirstRow, standIns := [], harness := (true, "59382a64b18731dfb846df21d6b5e8e0eb267e85073323bd22762ac3e43a5283"), looks := true }, kinds := [], alts := [], laidByText := true, laidKinds := [.data, .data, .data, .data, .sentinel, .sentinel, .pinned], laidTests := true, laidLooks := .later }
def TextFirstCardSaid : Prop := Claim7.holds Tryd.pinned (.plain (OpenSpec.ofChange textFirstSpec)) textFirstCard

/-- THE TIED CARD OF 'crierlaw29.TextPrints'. -/
def textPrintsCard : Claim7 := { stood := { row := textPrintsRow, standIns := [], harness := (true, "59382a64b18731dfb846df21d6b5e8e0eb267e85073323bd22762ac3e43a5283"), looks := true }, kinds := [], alts := [], laidByText := true, laidKinds := [.data, .data, .data, .data, .sentinel, .sentinel, .pinned], laidTests := true, laidLooks := .later }
def TextPrintsCardSaid : Prop := Claim7.holds Tryd.pinned (.plain (OpenSpec.ofChange textPrintsSpec)) textPrintsCard

/-- THE TIED CARD OF 'crierlaw29.TextBack'. -/
def textBackCard : Claim7 := { stood := { row := textBackRow, standIns := [], harness := (true, "59382a64b18731dfb846df21d6b5e8e0eb267e85073323bd22762ac3e43a5283"), looks := true }, kinds := [], alts := [], laidByText := true, laidKinds := [.data, .data, .data, .data, .sentinel, .sentinel, .pinned], laidTests := true, laidLooks := .later }
def TextBackCardSaid : Prop := Claim7.holds Tryd.pinned (.plain (OpenSpec.ofChange textBackSpec)) textBackCard

/-- THE TIED CARD OF 'crierlaw29.TextApart'. -/
def textApartCard : Claim7 := { stood := { row := textApartRow, standIns := [], harness := (true, "59382a64b18731dfb846df21d6b5e8e0eb267e85073323bd22762ac3e43a5283"), looks := true }, kinds := [], alts := [], laidByText := true, laidKinds := [.data, .data, .data, .data, .sentinel, .sentinel, .pinned], laidTests := true, laidLooks := .later }
def TextApartCardSaid : Prop := Claim7.holds Tryd.pinned (.plain (OpenSpec.ofChange textApartSpec)) textApartCard

/-- THE TIED CARD OF 'crierlaw29.TextTells'. -/
def textTellsCard : Claim7 := { stood := { row := textTellsRow, standIns := [], harness := (true, "59382a64b18731dfb846df21d6b5e8e0eb267e85073323bd22762ac3e43a5283"), looks := true }, kinds := [], alts := [], laidByText := true, laidKinds := [.data, .data, .data, .data, .sentinel, .sentinel, .pinned], laidTests := true, laidLooks := .later }
def TextTellsCardSaid : Prop := Claim7.holds Tryd.pinned (.plain (OpenSpec.ofChange textTellsSpec)) textTellsCard

/-- THE TIED CARD OF 'crierlaw29.TextScripts'. -/
def textScriptsCard : Claim7 := { stood := { row := textScriptsRow, standIns := [], harness := (true, "59382a64b18731dfb846df21d6b5e8e0eb267e85073323bd22762ac3e43a5283"), looks := true }, kinds := [], alts := [], laidByText := true, laidKinds := [.data, .data, .data, .data, .sentinel, .sentinel, .pinned], laidTests := true, laidLooks := .later }
def TextScriptsCardSaid : Prop := Claim7.holds Tryd.pinned (.plain (OpenSpec.ofChange textScriptsSpec)) textScriptsCard

/-- THE SECOND FORM's CARD OF 'crierlaw29.TextLines'. -/
def textLinesUptoCard : Claim7 := { stood := { row := textLinesUptoRow, standIns := [], harness := (true, "59382a64b18731dfb846df21d6b5e8e0eb267e85073323bd22762ac3e43a5283"), looks := true }, kinds := [], alts := [], laidByText := true, laidKinds := [.data, .data, .data, .data, .sentinel, .sentinel, .pinned], laidTests := true, laidLooks := .later }
def TextLinesUptoCardSaid : Prop := Claim7.holds Tryd.pinned (.plain (OpenSpec.upto textLinesSpec)) textLinesUptoCard

/-- THE SECOND FORM's CARD OF 'crierlaw29.TextFirst'. -/
def textFirstUptoCard : Claim7 := { stood := { row := textFirstUptoRow, standIns := [], harness := (true, "59382a64b18731dfb846df21d6b5e8e0eb267e85073323bd22762ac3e43a5283"), looks := true }, kinds := [], alts := [], laidByText := true, laidKinds := [.data, .data, .data, .data, .sentinel, .sentinel, .pinned], laidTests := true, laidLooks := .later }
def TextFirstUptoCardSaid : Prop := Claim7.holds Tryd.pinned (.plain (OpenSpec.upto textFirstSpec)) textFirstUptoCard

/-- THE SECOND FORM's CARD OF 'crierlaw29.TextPrints'. -/
def textPrintsUptoCard : Claim7 := { stood := { row := textPrintsUptoRow, standIns := [], harness := (true, "59382a64b18731dfb846df21d6b5e8e0eb267e85073323bd22762ac3e43a5283"), looks := true }, kinds := [], alts := [], laidByText := true, laidKinds := [.data, .data, .data, .data, .sentinel, .sentinel, .pinned], laidTests := true, laidLooks := .later }
def TextPrintsUptoCardSaid : Prop := Claim7.holds Tryd.pinned (.plain (OpenSpec.upto textPrintsSpec)) textPrintsUptoCard

/-- THE SECOND FORM's CARD OF 'crierlaw29.TextBack'. -/
def textBackUptoCard : Claim7 := { stood := { row := textBackUptoRow, standIns := [], harness := (true, "59382a64b18731dfb846df21d6b5e8e0eb267e85073323bd22762ac3e43a5283"), looks := true }, kinds := [], alts := [], laidByText := true, laidKinds := [.data, .data, .data, .data, .sentinel, .sentinel, .pinned], laidTests := true, laidLooks := .later }
def TextBackUptoCardSaid : Prop := Claim7.holds Tryd.pinned (.plain (OpenSpec.upto textBackSpec)) textBackUptoCard

/-- THE SECOND FORM's CARD OF 'crierlaw29.TextApart'. -/
def textApartUptoCard : Claim7 := { stood := { row := textApartUptoRow, standIns := [], harness := (true, "59382a64b18731dfb846df21d6b5e8e0eb267e85073323bd22762ac3e43a5283"), looks := true }, kinds := [], alts := [], laidByText := true, laidKinds := [.data, .data, .data, .data, .sentinel, .sentinel, .pinned], laidTests := true, laidLooks := .later }
def TextApartUptoCardSaid : Prop := Claim7.holds Tryd.pinned (.plain (OpenSpec.upto textApartSpec)) textApartUptoCard

/-- THE SECOND FORM's CARD OF 'crierlaw29.TextTells'. -/
def textTellsUptoCard : Claim7 := { stood := { row := textTellsUptoRow, standIns := [], harness := (true, "59382a64b18731dfb846df21d6b5e8e0eb267e85073323bd22762ac3e43a5283"), looks := true }, kinds := [], alts := [], laidByText := true, laidKinds := [.data, .data, .data, .data, .sentinel, .sentinel, .pinned], laidTests := true, laidLooks := .later }
def TextTellsUptoCardSaid : Prop := Claim7.holds Tryd.pinned (.plain (OpenSpec.upto textTellsSpec)) textTellsUptoCard

/-- THE SECOND FORM's CARD OF 'crierlaw29.TextScripts'. -/
def textScriptsUptoCard : Claim7 := { stood := { row := textScriptsUptoRow, standIns := [], harness := (true, "59382a64b18731dfb846df21d6b5e8e0eb267e85073323bd22762ac3e43a5283"), looks := true }, kinds := [], alts := [], laidByText := true, laidKinds := [.data, .data, .data, .data, .sentinel, .sentinel, .pinned], laidTests := true, laidLooks := .later }
def TextScriptsUptoCardSaid : Prop := Claim7.holds Tryd.pinned (.plain (OpenSpec.upto textScriptsSpec)) textScriptsUptoCard
end Rows
end Go.Proofs.YtbnadobjnmboiaaDoor
