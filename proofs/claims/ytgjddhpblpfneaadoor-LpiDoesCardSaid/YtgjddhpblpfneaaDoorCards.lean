/-
  DERIVED. GIVEN WITH THE SEED: THE CARDS: each row of YtgjddhpblpfneaaDoorRows.lean that lists a variable, with what it lists TIED to the program's text (the seventh form; the later family's looks); each row that meets fmt, with fmt's text TOLD by the authors' own Lean function (tested against real Go, not proved from fmt's source: count such statements apart). THE CARD IS WHAT COUNTS. Prove the row's statement (the work); the ties are given (YtgjddhpblpfneaaDoorTie.lean); close each card by the builder's one call (the guide's Derived/Test/ToyasCard.lean, 'card_holds'). Laid BY PROGRAM, IN A SANDBOX (cutbox-door.mjs). By AI agents, Wed Nov 11 2026. No macro, syntax, notation, axiom, sorry.
-/
import Derived.Test.YtgjddhpblpfneaaDoorRows
import GoSem.ClaimSeven
namespace Go.Proofs.YtgjddhpblpfneaaDoor
namespace Rows

/-- THE TIED CARD OF 'crierlaw15.LpiNews'. -/
def lpiNewsCard : Claim7 := { stood := { row := lpiNewsRow, standIns := [], harness := (true, "1a4a8dc568b6eb8ed6c66c8c755a76945065222af13c4bb1b88fe13dc89aa3d1"), looks := false }, kinds := [], alts := [], laidByText := true, laidKinds := [.data], laidTests := true, laidLooks := .later }
def LpiNewsCardSaid : Prop := Claim7.holds Tryd.pinned (.plain (OpenSpec.ofChange lpiNewsSpec)) lpiNewsCard

/-- THE TIED CARD OF 'crierlaw15.LpiMoves'. -/
def lpiMovesCard : Claim7 := { stood := { row := lpiMovesRow, standIns := [], harness := (true, "1a4a8dc568b6eb8ed6c66c8c755a76945065222af13c4bb1b88fe13dc89aa3d1"), looks := false }, kinds := [], alts := [], laidByText := true, laidKinds := [.data], laidTests := true, laidLooks := .later }
def LpiMovesCardSaid : Prop := Claim7.holds Tryd.pinned (.plain (OpenSpec.ofChange lpiMovesSpec)) lpiMovesCard

/-- THE TIED CARD OF 'crierlaw15.LpiBest'. -/
def lpiBestCard : Claim7 := { stood := { row := lpiBestRow, standIns := [], harness := (true, "1a4a8dc568b6eb8ed6c66c8c755a76945065222af13c4bb1b88fe13dc89aa3d1"), looks := false }, kinds := [], alts := [], laidByText := true, laidKinds := [.data], laidTests := true, laidLooks := .later }
def LpiBestCardSaid : Prop := Claim7.holds Tryd.pinned (.plain (OpenSpec.ofChange lpiBestSpec)) lpiBestCard

/-- THE TIED CARD OF 'crierlaw15.LpiKnown'. -/
def lpiKnownCard : Claim7 := { stood := { row := lpiKnownRow, standIns := [], harness := (true, "1a4a8dc568b6eb8ed6c66c8c755a76945065222af13c4bb1b88fe13dc89aa3d1"), looks := false }, kinds := [], alts := [], laidByText := true, laidKinds := [.data], laidTests := true, laidLooks := .later }
def LpiKnownCardSaid : Prop := Claim7.holds Tryd.pinned (.plain (OpenSpec.ofChange lpiKnownSpec)) lpiKnownCard

/-- THE TIED CARD OF 'crierlaw15.LpiDoes'. -/
def lpiDoesCard : Claim7 := { stood := { row := lpiDoesRow, standIns := [], harness := (true, "1a4a8dc568b6eb8ed6c66c8c755a76945065222af13c4bb1b88fe13dc89aa3d1"), looks := false }, kinds := [], alts := [], laidByText := true, laidKinds := [.data], laidTests := true, laidLooks := .later }
def LpiDoesCardSaid : Prop := Claim7.holds Tryd.pinned (.plain (OpenSpec.ofChange lpiDoesSpec)) lpiDoesCard

/-- THE SECOND FORM's CARD OF 'crierlaw15.LpiNews'. -/
def lpiNewsUptoCard : Claim7 := { stood := { row := lpiNewsUptoRow, standIns := [], harness := (true, "1a4a8dc568b6eb8ed6c66c8c755a76945065222af13c4bb1b88fe13dc89aa3d1"), looks := false }, kinds := [], alts := [], laidByText := true, laidKinds := [.data], laidTests := true, laidLooks := .later }
def LpiNewsUptoCardSaid : Prop := Claim7.holds Tryd.pinned (.plain (OpenSpec.upto lpiNewsSpec)) lpiNewsUptoCard

/-- THE SECOND FORM's CARD OF 'crierlaw15.LpiMoves'. -/
def lpiMovesUptoCard : Claim7 := { stood := { row := lpiMovesUptoRow, standIns := [], harness := (true, "1a4a8dc568b6eb8ed6c66c8c755a76945065222af13c4bb1b88fe13dc89aa3d1"), looks := false }, kinds := [], alts := [], laidByText := true, laidKinds := [.data], laidTests := true, laidLooks := .later }
def LpiMovesUptoCardSaid : Prop := Claim7.holds Tryd.pinned (.plain (OpenSpec.upto lpiMovesSpec)) lpiMovesUptoCard

/-- THE SECOND FORM's CARD OF 'crierlaw15.LpiBest'. -/
def lpiBestUptoCard : Claim7 := { stood := { row := lpiBestUptoRow, standIns := [], harness := (true, "1a4a8dc568b6eb8ed6c66c8c755a76945065222af13c4bb1b88fe13dc89aa3d1"), looks := false }, kinds := [], alts := [], laidByText := true, laidKinds := [.data], laidTests := true, laidLooks := .later }
def LpiBestUptoCardSaid : Prop := Claim7.holds Tryd.pinned (.plain (OpenSpec.upto lpiBestSpec)) lpiBestUptoCard

/-- THE SECOND FORM's CARD OF 'crierlaw15.LpiKnown'. -/
def lpiKnownUptoCard : Claim7 := { stood := { row := lpiKnownUptoRow, standIns := [], harness := (true, "1a4a8dc568b6eb8ed6c66c8c755a76945065222af13c4bb1b88fe13dc89aa3d1"), looks := false }, kinds := [], alts := [], laidByText := true, laidKinds := [.data], laidTests := true, laidLooks := .later }
def LpiKnownUptoCardSaid : Prop := Claim7.holds Tryd.pinned (.plain (OpenSpec.upto lpiKnownSpec)) lpiKnownUptoCard

/-- THE SECOND FORM's CARD OF 'crierlaw15.LpiDoes'. -/
def lpiDoesUptoCard : Claim7 := { stood := { row := lpiDoesUptoRow, standIns := [], harness := (true, "1a4a8dc568b6eb8ed6c66c8c755a76945065222af13c4bb1b88fe13dc89aa3d1"), looks := false }, kinds := [], alts := [], laidByText := true, laidKinds := [.data], laidTests := true, laidLooks := .later }
def LpiDoesUptoCardSaid : Prop := Claim7.holds Tryd.pinned (.plain (OpenSpec.upto lpiDoesSpec)) lpiDoesUptoCard
end Rows
end Go.Proofs.YtgjddhpblpfneaaDoor
