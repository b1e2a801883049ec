/-
  DERIVED. GIVEN WITH THE SEED: THE CARDS: each row of YthdafiploicioaaDoorRows.lean that lists a variable, with what it lists TIED to the program's text (the seventh form; the later family's looks); each row that meets fmt, with fmt's text TOLD by the authors' own Lean function (tested against real Go, not proved from fmt's source: count such statements apart). THE CARD IS WHAT COUNTS. Prove the row's statement (the work); the ties are given (YthdafiploicioaaDoorTie.lean); close each card by the builder's one call (the guide's Derived/Test/ToyasCard.lean, 'card_holds'). Laid BY PROGRAM, IN A SANDBOX (cutbox-door.mjs). By AI agents, Wed Nov 11 2026. No macro, syntax, notation, axiom, sorry.
-/
import Derived.Test.YthdafiploicioaaDoorRows
import GoSem.ClaimSeven
namespace Go.Proofs.YthdafiploicioaaDoor
namespace Rows

/-- THE TIED CARD OF 'flotsamlaw02.CrccSums'. -/
def crccSumsCard : Claim7 := { stood := { row := crccSumsRow, standIns := [], harness := (true, "4a83691b92067601099b7c0acfaa73fd7e87796f74cf0f4f01583dc5c14c49d3"), looks := false }, kinds := [], alts := [], laidByText := true, laidKinds := [.data], laidTests := true, laidLooks := .later }
def CrccSumsCardSaid : Prop := Claim7.holds Tryd.pinned (.plain (OpenSpec.ofChange crccSumsSpec)) crccSumsCard

/-- THE TIED CARD OF 'flotsamlaw02.CrccParts'. -/
def crccPartsCard : Claim7 := { stood := { row := crccPartsRow, standIns := [], harness := (true, "4a83691b92067601099b7c0acfaa73fd7e87796f74cf0f4f01583dc5c14c49d3"), looks := false }, kinds := [], alts := [], laidByText := true, laidKinds := [.data], laidTests := true, laidLooks := .later }
def CrccPartsCardSaid : Prop := Claim7.holds Tryd.pinned (.plain (OpenSpec.ofChange crccPartsSpec)) crccPartsCard

/-- THE TIED CARD OF 'flotsamlaw02.CrccTurned'. -/
def crccTurnedCard : Claim7 := { stood := { row := crccTurnedRow, standIns := [], harness := (true, "4a83691b92067601099b7c0acfaa73fd7e87796f74cf0f4f01583dc5c14c49d3"), looks := false }, kinds := [], alts := [], laidByText := true, laidKinds := [.data], laidTests := true, laidLooks := .later }
def CrccTurnedCardSaid : Prop := Claim7.holds Tryd.pinned (.plain (OpenSpec.ofChange crccTurnedSpec)) crccTurnedCard

/-- THE TIED CARD OF 'flotsamlaw02.CrccApart'. -/
def crccApartCard : Claim7 := { stood := { row := crccApartRow, standIns := [], harness := (true, "4a83691b92067601099b7c0acfaa73fd7e87796f74cf0f4f01583dc5c14c49d3"), looks := false }, kinds := [], alts := [], laidByText := true, laidKinds := [.data], laidTests := true, laidLooks := .later }
def CrccApartCardSaid : Prop := Claim7.holds Tryd.pinned (.plain (OpenSpec.ofChange crccApartSpec)) crccApartCard

/-- THE TIED CARD OF 'flotsamlaw02.CrccEven'. -/
def crccEvenCard : Claim7 := { stood := { row := crccEvenRow, standIns := [], harness := (true, "4a83691b92067601099b7c0acfaa73fd7e87796f74cf0f4f01583dc5c14c49d3"), looks := false }, kinds := [], alts := [], laidByText := true, laidKinds := [.data], laidTests := true, laidLooks := .later }
def CrccEvenCardSaid : Prop := Claim7.holds Tryd.pinned (.plain (OpenSpec.ofChange crccEvenSpec)) crccEvenCard

/-- THE TIED CARD OF 'flotsamlaw02.CrccEnds'. -/
def crccEndsCard : Claim7 := { stood := { row := crccEndsRow, standIns := [], harness := (true, "4a83691b92067601099b7c0acfaa73fd7e87796f74cf0f4f01583dc5c14c49d3"), looks := false }, kinds := [], alts := [], laidByText := true, laidKinds := [.data], laidTests := true, laidLooks := .later }
def CrccEndsCardSaid : Prop := Claim7.holds Tryd.pinned (.plain (OpenSpec.ofChange crccEndsSpec)) crccEndsCard

/-- THE SECOND FORM's CARD OF 'flotsamlaw02.CrccSums'. -/
def crccSumsUptoCard : Claim7 := { stood := { row := crccSumsUptoRow, standIns := [], harness := (true, "4a83691b92067601099b7c0acfaa73fd7e87796f74cf0f4f01583dc5c14c49d3"), looks := false }, kinds := [], alts := [], laidByText := true, laidKinds := [.data], laidTests := true, laidLooks := .later }
def CrccSumsUptoCardSaid : Prop := Claim7.holds Tryd.pinned (.plain (OpenSpec.upto crccSumsSpec)) crccSumsUptoCard

/-- THE SECOND FORM's CARD OF 'flotsamlaw02.CrccParts'. -/
def crccPartsUptoCard : Claim7 := { stood := { row := crccPartsUptoRow, standIns := [], harness := (true, "4a83691b92067601099b7c0acfaa73fd7e87796f74cf0f4f01583dc5c14c49d3"), looks := false }, kinds := [], alts := [], laidByText := true, laidKinds := [.data], laidTests := true, laidLooks := .later }
def CrccPartsUptoCardSaid : Prop := Claim7.holds Tryd.pinned (.plain (OpenSpec.upto crccPartsSpec)) crccPartsUptoCard

/-- THE SECOND FORM's CARD OF 'flotsamlaw02.CrccTurned'. -/
def crccTurnedUptoCard : Claim7 := { stood := { row := crccTurnedUptoRow, standIns := [], harness := (true, "4a83691b92067601099b7c0acfaa73fd7e87796f74cf0f4f01583dc5c14c49d3"), looks := false }, kinds := [], alts := [], laidByText := true, laidKinds := [.data], laidTests := true, laidLooks := .later }
def CrccTurnedUptoCardSaid : Prop := Claim7.holds Tryd.pinned (.plain (OpenSpec.upto crccTurnedSpec)) crccTurnedUptoCard

/-- THE SECOND FORM's CARD OF 'flotsamlaw02.CrccApart'. -/
def crccApartUptoCard : Claim7 := { stood := { row := crccApartUptoRow, standIns := [], harness := (true, "4a83691b92067601099b7c0acfaa73fd7e87796f74cf0f4f01583dc5c14c49d3"), looks := false }, kinds := [], alts := [], laidByText := true, laidKinds := [.data], laidTests := true, laidLooks := .later }
def CrccApartUptoCardSaid : Prop := Claim7.holds Tryd.pinned (.plain (OpenSpec.upto crccApartSpec)) crccApartUptoCard

/-- THE SECOND FORM's CARD OF 'flotsamlaw02.CrccEven'. -/
def crccEvenUptoCard : Claim7 := { stood := { row := crccEvenUptoRow, standIns := [], harness := (true, "4a83691b92067601099b7c0acfaa73fd7e87796f74cf0f4f01583dc5c14c49d3"), looks := false }, kinds := [], alts := [], laidByText := true, laidKinds := [.data], laidTests := true, laidLooks := .later }
def CrccEvenUptoCardSaid : Prop := Claim7.holds Tryd.pinned (.plain (OpenSpec.upto crccEvenSpec)) crccEvenUptoCard

/-- THE SECOND FORM's CARD OF 'flotsamlaw02.CrccEnds'. -/
def crccEndsUptoCard : Claim7 := { stood := { row := crccEndsUptoRow, standIns := [], harness := (true, "4a83691b92067601099b7c0acfaa73fd7e87796f74cf0f4f01583dc5c14c49d3"), looks := false }, kinds := [], alts := [], laidByText := true, laidKinds := [.data], laidTests := true, laidLooks := .later }
def CrccEndsUptoCardSaid : Prop := Claim7.holds Tryd.pinned (.plain (OpenSpec.upto crccEndsSpec)) crccEndsUptoCard
end Rows
end Go.Proofs.YthdafiploicioaaDoor
