/-
  DERIVED. GIVEN WITH THE SEED: THE CARDS: each row of YtlalhieccbfndaaDoorRows.lean that lists a variable, with what it lists TIED to the program's text (the seventh form; the later family's looks); each row that meets fmt, with fmt's text TOLD by the authors' own Lean function (tested against real Go, not proved from fmt's source: count such statements apart). THE CARD IS WHAT COUNTS. Prove the row's statement (the work); the ties are given (YtlalhieccbfndaaDoorTie.lean); close each card by the builder's one call (the guide's Derived/Test/ToyasCard.lean, 'card_holds'). Laid BY PROGRAM, IN A SANDBOX (cutbox-door.mjs). By AI agents, Wed Nov 11 2026. No macro, syntax, notation, axiom, sorry.
-/
import Derived.Test.YtlalhieccbfndaaDoorRows
import GoSem.ClaimSeven
namespace Go.Proofs.YtlalhieccbfndaaDoor
namespace Rows

/-- THE TIED CARD OF 'flotsamlaw05.BatchEncodes'. -/
def batchEncodesCard : Claim7 := { stood := { row := batchEncodesRow, standIns := [], harness := (true, "c5a0338938b679ec1740911c215580d3964fd69a4ebc3d718c7787c7e844b05a"), looks := false }, kinds := [], alts := [], laidByText := true, laidKinds := [.data], laidTests := true, laidLooks := .later }
def BatchEncodesCardSaid : Prop := Claim7.holds Tryd.pinned (.plain (OpenSpec.ofChange batchEncodesSpec)) batchEncodesCard

/-- THE TIED CARD OF 'flotsamlaw05.BatchDecodes'. -/
def batchDecodesCard : Claim7 := { stood := { row := batchDecodesRow, standIns := [], harness := (true, "c5a0338938b679ec1740911c215580d3964fd69a4ebc3d718c7787c7e844b05a"), looks := false }, kinds := [], alts := [], laidByText := true, laidKinds := [.data], laidTests := true, laidLooks := .later }
def BatchDecodesCardSaid : Prop := Claim7.holds Tryd.pinned (.plain (OpenSpec.ofChange batchDecodesSpec)) batchDecodesCard

/-- THE TIED CARD OF 'flotsamlaw05.BatchScans'. -/
def batchScansCard : Claim7 := { stood := { row := batchScansRow, standIns := [], harness := (true, "c5a0338938b679ec1740911c215580d3964fd69a4ebc3d718c7787c7e844b05a"), looks := false }, kinds := [], alts := [], laidByText := true, laidKinds := [.data], laidTests := true, laidLooks := .later }
def BatchScansCardSaid : Prop := Claim7.holds Tryd.pinned (.plain (OpenSpec.ofChange batchScansSpec)) batchScansCard

/-- THE TIED CARD OF 'flotsamlaw05.BatchBack'. -/
def batchBackCard : Claim7 := { stood := { row := batchBackRow, standIns := [], harness := (true, "c5a0338938b679ec1740911c215580d3964fd69a4ebc3d718c7787c7e844b05a"), looks := false }, kinds := [], alts := [], laidByText := true, laidKinds := [.data], laidTests := true, laidLooks := .later }
def BatchBackCardSaid : Prop := Claim7.holds Tryd.pinned (.plain (OpenSpec.ofChange batchBackSpec)) batchBackCard

/-- THE TIED CARD OF 'flotsamlaw05.BatchTurned'. -/
def batchTurnedCard : Claim7 := { stood := { row := batchTurnedRow, standIns := [], harness := (true, "c5a0338938b679ec1740911c215580d3964fd69a4ebc3d718c7787c7e844b05a"), looks := false }, kinds := [], alts := [], laidByText := true, laidKinds := [.data], laidTests := true, laidLooks := .later }
def BatchTurnedCardSaid : Prop := Claim7.holds Tryd.pinned (.plain (OpenSpec.ofChange batchTurnedSpec)) batchTurnedCard

/-- THE TIED CARD OF 'flotsamlaw05.BatchJoined'. -/
def batchJoinedCard : Claim7 := { stood := { row := batchJoinedRow, standIns := [], harness := (true, "c5a0338938b679ec1740911c215580d3964fd69a4ebc3d718c7787c7e844b05a"), looks := false }, kinds := [], alts := [], laidByText := true, laidKinds := [.data], laidTests := true, laidLooks := .later }
def BatchJoinedCardSaid : Prop := Claim7.holds Tryd.pinned (.plain (OpenSpec.ofChange batchJoinedSpec)) batchJoinedCard

/-- THE SECOND FORM's CARD OF 'flotsamlaw05.BatchEncodes'. -/
def batchEncodesUptoCard : Claim7 := { stood := { row := batchEncodesUptoRow, standIns := [], harness := (true, "c5a0338938b679ec1740911c215580d3964fd69a4ebc3d718c7787c7e844b05a"), looks := false }, kinds := [], alts := [], laidByText := true, laidKinds := [.data], laidTests := true, laidLooks := .later }
def BatchEncodesUptoCardSaid : Prop := Claim7.holds Tryd.pinned (.plain (OpenSpec.upto batchEncodesSpec)) batchEncodesUptoCard

/-- THE SECOND FORM's CARD OF 'flotsamlaw05.BatchDecodes'. -/
def batchDecodesUptoCard : Claim7 := { stood := { row := batchDecodesUptoRow, standIns := [], harness := (true, "c5a0338938b679ec1740911c215580d3964fd69a4ebc3d718c7787c7e844b05a"), looks := false }, kinds := [], alts := [], laidByText := true, laidKinds := [.data], laidTests := true, laidLooks := .later }
def BatchDecodesUptoCardSaid : Prop := Claim7.holds Tryd.pinned (.plain (OpenSpec.upto batchDecodesSpec)) batchDecodesUptoCard

/-- THE SECOND FORM's CARD OF 'flotsamlaw05.BatchScans'. -/
def batchScansUptoCard : Claim7 := { stood := { row := batchScansUptoRow, standIns := [], harness := (true, "c5a0338938b679ec1740911c215580d3964fd69a4ebc3d718c7787c7e844b05a"), looks := false }, kinds := [], alts := [], laidByText := true, laidKinds := [.data], laidTests := true, laidLooks := .later }
def BatchScansUptoCardSaid : Prop := Claim7.holds Tryd.pinned (.plain (OpenSpec.upto batchScansSpec)) batchScansUptoCard

/-- THE SECOND FORM's CARD OF 'flotsamlaw05.BatchBack'. -/
def batchBackUptoCard : Claim7 := { stood := { row := batchBackUptoRow, standIns := [], harness := (true, "c5a0338938b679ec1740911c215580d3964fd69a4ebc3d718c7787c7e844b05a"), looks := false }, kinds := [], alts := [], laidByText := true, laidKinds := [.data], laidTests := true, laidLooks := .later }
def BatchBackUptoCardSaid : Prop := Claim7.holds Tryd.pinned (.plain (OpenSpec.upto batchBackSpec)) batchBackUptoCard

/-- THE SECOND FORM's CARD OF 'flotsamlaw05.BatchTurned'. -/
def batchTurnedUptoCard : Claim7 := { stood := { row := batchTurnedUptoRow, standIns := [], harness := (true, "c5a0338938b679ec1740911c215580d3964fd69a4ebc3d718c7787c7e844b05a"), looks := false }, kinds := [], alts := [], laidByText := true, laidKinds := [.data], laidTests := true, laidLooks := .later }
def BatchTurnedUptoCardSaid : Prop := Claim7.holds Tryd.pinned (.plain (OpenSpec.upto batchTurnedSpec)) batchTurnedUptoCard

/-- THE SECOND FORM's CARD OF 'flotsamlaw05.BatchJoined'. -/
def batchJoinedUptoCard : Claim7 := { stood := { row := batchJoinedUptoRow, standIns := [], harness := (true, "c5a0338938b679ec1740911c215580d3964fd69a4ebc3d718c7787c7e844b05a"), looks := false }, kinds := [], alts := [], laidByText := true, laidKinds := [.data], laidTests := true, laidLooks := .later }
def BatchJoinedUptoCardSaid : Prop := Claim7.holds Tryd.pinned (.plain (OpenSpec.upto batchJoinedSpec)) batchJoinedUptoCard
end Rows
end Go.Proofs.YtlalhieccbfndaaDoor
