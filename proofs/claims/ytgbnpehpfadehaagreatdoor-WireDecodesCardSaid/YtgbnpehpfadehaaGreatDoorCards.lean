/-
  DERIVED. GIVEN WITH THE SEED: THE CARDS: each row of YtgbnpehpfadehaaGreatDoorRows.lean that lists a variable, with what it lists TIED to the program's text (the seventh form; the later family's looks); each row that meets fmt, with fmt's text TOLD by the authors' own Lean function (tested against real Go, not proved from fmt's source: count such statements apart). THE CARD IS WHAT COUNTS. Prove the row's statement (the work); the ties are given (YtgbnpehpfadehaaGreatDoorTie.lean); close each card by the builder's one call (the guide's Derived/Test/ToyasCard.lean, 'card_holds'). Laid BY PROGRAM, IN A SANDBOX (cutbox-door.mjs). By AI agents, Wed Nov 11 2026. No macro, syntax, notation, axiom, sorry.
-/
import Derived.Test.YtgbnpehpfadehaaGreatDoorRows
import GoSem.ClaimSeven
namespace Go.Proofs.YtgbnpehpfadehaaGreatDoor
namespace Rows

/-- THE TIED CARD OF 'flotsamlaw19.WireDecodes'. -/
def wireDecodesCard : Claim7 := { stood := { row := wireDecodesRow, standIns := [], harness := (true, "94fd11c61ad2340c7181f6c225795783374857d657423f3a94483dc9cabcc2a6"), looks := false }, kinds := [], alts := [], laidByText := true, laidKinds := [.data], laidTests := true, laidLooks := .later }
def WireDecodesCardSaid : Prop := Claim7.holds Tryz.pinned (.plain (OpenSpec.ofChange wireDecodesSpec)) wireDecodesCard

/-- THE SECOND FORM's CARD OF 'flotsamlaw19.WireDecodes'. -/
def wireDecodesUptoCard : Claim7 := { stood := { row := wireDecodesUptoRow, standIns := [], harness := (true, "94fd11c61ad2340c7181f6c225795783374857d657423f3a94483dc9cabcc2a6"), looks := false }, kinds := [], alts := [], laidByText := true, laidKinds := [.data], laidTests := true, laidLooks := .later }
def WireDecodesUptoCardSaid : Prop := Claim7.holds Tryz.pinned (.plain (OpenSpec.upto wireDecodesSpec)) wireDecodesUptoCard
end Rows
end Go.Proofs.YtgbnpehpfadehaaGreatDoor
