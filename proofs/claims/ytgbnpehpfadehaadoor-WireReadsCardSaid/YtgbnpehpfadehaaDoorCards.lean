/-
  DERIVED. GIVEN WITH THE SEED: THE CARDS: each row of YtgbnpehpfadehaaDoorRows.lean that lists a variable, with what it lists TIED to the program's text (the seventh form; the later family's looks); each row that meets fmt, with fmt's text TOLD by the authors' own Lean function (tested against real Go, not proved from fmt's source: count such statements apart). THE CARD IS WHAT COUNTS. Prove the row's statement (the work); the ties are given (YtgbnpehpfadehaaDoorTie.lean); close each card by the builder's one call (the guide's Derived/Test/ToyasCard.lean, 'card_holds'). Laid BY PROGRAM, IN A SANDBOX (cutbox-door.mjs). By AI agents, Wed Nov 11 2026. No macro, syntax, notation, axiom, sorry.
-/
import Derived.Test.YtgbnpehpfadehaaDoorRows
import GoSem.ClaimSeven
namespace Go.Proofs.YtgbnpehpfadehaaDoor
namespace Rows

/-- THE TIED CARD OF 'flotsamlaw19.WireEncodes'. -/
def wireEncodesCard : Claim7 := { stood := { row := wireEncodesRow, standIns := [], harness := (true, "7a4881c63121c02d6e956904a7fd47b291c75b5882d7add7e1494b2ff4440da0"), looks := false }, kinds := [], alts := [], laidByText := true, laidKinds := [.data], laidTests := true, laidLooks := .later }
def WireEncodesCardSaid : Prop := Claim7.holds Tryd.pinned (.plain (OpenSpec.ofChange wireEncodesSpec)) wireEncodesCard

/-- THE TIED CARD OF 'flotsamlaw19.WireBack'. -/
def wireBackCard : Claim7 := { stood := { row := wireBackRow, standIns := [], harness := (true, "7a4881c63121c02d6e956904a7fd47b291c75b5882d7add7e1494b2ff4440da0"), looks := false }, kinds := [], alts := [], laidByText := true, laidKinds := [.data], laidTests := true, laidLooks := .later }
def WireBackCardSaid : Prop := Claim7.holds Tryd.pinned (.plain (OpenSpec.ofChange wireBackSpec)) wireBackCard

/-- THE TIED CARD OF 'flotsamlaw19.WireAnswers'. -/
def wireAnswersCard : Claim7 := { stood := { row := wireAnswersRow, standIns := [], harness := (true, "7a4881c63121c02d6e956904a7fd47b291c75b5882d7add7e1494b2ff4440da0"), looks := false }, kinds := [], alts := [], laidByText := true, laidKinds := [.data], laidTests := true, laidLooks := .later }
def WireAnswersCardSaid : Prop := Claim7.holds Tryd.pinned (.plain (OpenSpec.ofChange wireAnswersSpec)) wireAnswersCard

/-- THE TIED CARD OF 'flotsamlaw19.WireReads'. -/
def wireReadsCard : Claim7 := { stood := { row := wireReadsRow, standIns := [], harness := (true, "7a4881c63121c02d6e956904a7fd47b291c75b5882d7add7e1494b2ff4440da0"), looks := false }, kinds := [], alts := [], laidByText := true, laidKinds := [.data], laidTests := true, laidLooks := .later }
def WireReadsCardSaid : Prop := Claim7.holds Tryd.pinned (.plain (OpenSpec.ofChange wireReadsSpec)) wireReadsCard

/-- THE TIED CARD OF 'flotsamlaw19.WireFrames'. -/
def wireFramesCard : Claim7 := { stood := { row := wireFramesRow, standIns := [], harness := (true, "7a4881c63121c02d6e956904a7fd47b291c75b5882d7add7e1494b2ff4440da0"), looks := false }, kinds := [], alts := [], laidByText := true, laidKinds := [.data], laidTests := true, laidLooks := .later }
def WireFramesCardSaid : Prop := Claim7.holds Tryd.pinned (.plain (OpenSpec.ofChange wireFramesSpec)) wireFramesCard

/-- THE TIED CARD OF 'flotsamlaw19.WireRow'. -/
def wireRowCard : Claim7 := { stood := { row := wireRowRow, standIns := [], harness := (true, "7a4881c63121c02d6e956904a7fd47b291c75b5882d7add7e1494b2ff4440da0"), looks := false }, kinds := [], alts := [], laidByText := true, laidKinds := [.data], laidTests := true, laidLooks := .later }
def WireRowCardSaid : Prop := Claim7.holds Tryd.pinned (.plain (OpenSpec.ofChange wireRowSpec)) wireRowCard

/-- THE TIED CARD OF 'flotsamlaw19.WireForth'. -/
def wireForthCard : Claim7 := { stood := { row := wireForthRow, standIns := [], harness := (true, "7a4881c63121c02d6e956904a7fd47b291c75b5882d7add7e1494b2ff4440da0"), looks := false }, kinds := [], alts := [], laidByText := true, laidKinds := [.data], laidTests := true, laidLooks := .later }
def WireForthCardSaid : Prop := Claim7.holds Tryd.pinned (.plain (OpenSpec.ofChange wireForthSpec)) wireForthCard

/-- THE SECOND FORM's CARD OF 'flotsamlaw19.WireEncodes'. -/
def wireEncodesUptoCard : Claim7 := { stood := { row := wireEncodesUptoRow, standIns := [], harness := (true, "7a4881c63121c02d6e956904a7fd47b291c75b5882d7add7e1494b2ff4440da0"), looks := false }, kinds := [], alts := [], laidByText := true, laidKinds := [.data], laidTests := true, laidLooks := .later }
def WireEncodesUptoCardSaid : Prop := Claim7.holds Tryd.pinned (.plain (OpenSpec.upto wireEncodesSpec)) wireEncodesUptoCard

/-- THE SECOND FORM's CARD OF 'flotsamlaw19.WireBack'. -/
def wireBackUptoCard : Claim7 := { stood := { row := wireBackUptoRow, standIns := [], harness := (true, "7a4881c63121c02d6e956904a7fd47b291c75b5882d7add7e1494b2ff4440da0"), looks := false }, kinds := [], alts := [], laidByText := true, laidKinds := [.data], laidTests := true, laidLooks := .later }
def WireBackUptoCardSaid : Prop := Claim7.holds Tryd.pinned (.plain (OpenSpec.upto wireBackSpec)) wireBackUptoCard

/-- THE SECOND FORM's CARD OF 'flotsamlaw19.WireAnswers'. -/
def wireAnswersUptoCard : Claim7 := { stood := { row := wireAnswersUptoRow, standIns := [], harness := (true, "7a4881c63121c02d6e956904a7fd47b291c75b5882d7add7e1494b2ff4440da0"), looks := false }, kinds := [], alts := [], laidByText := true, laidKinds := [.data], laidTests := true, laidLooks := .later }
def WireAnswersUptoCardSaid : Prop := Claim7.holds Tryd.pinned (.plain (OpenSpec.upto wireAnswersSpec)) wireAnswersUptoCard

/-- THE SECOND FORM's CARD OF 'flotsamlaw19.WireReads'. -/
def wireReadsUptoCard : Claim7 := { stood := { row := wireReadsUptoRow, standIns := [], harness := (true, "7a4881c63121c02d6e956904a7fd47b291c75b5882d7add7e1494b2ff4440da0"), looks := false }, kinds := [], alts := [], laidByText := true, laidKinds := [.data], laidTests := true, laidLooks := .later }
def WireReadsUptoCardSaid : Prop := Claim7.holds Tryd.pinned (.plain (OpenSpec.upto wireReadsSpec)) wireReadsUptoCard

/-- THE SECOND FORM's CARD OF 'flotsamlaw19.WireFrames'. -/
def wireFramesUptoCard : Claim7 := { stood := { row := wireFramesUptoRow, standIns := [], harness := (true, "7a4881c63121c02d6e956904a7fd47b291c75b5882d7add7e1494b2ff4440da0"), looks := false }, kinds := [], alts := [], laidByText := true, laidKinds := [.data], laidTests := true, laidLooks := .later }
def WireFramesUptoCardSaid : Prop := Claim7.holds Tryd.pinned (.plain (OpenSpec.upto wireFramesSpec)) wireFramesUptoCard

/-- THE SECOND FORM's CARD OF 'flotsamlaw19.WireRow'. -/
def wireRowUptoCard : Claim7 := { stood := { row := wireRowUptoRow, standIns := [], harness := (true, "7a4881c63121c02d6e956904a7fd47b291c75b5882d7add7e1494b2ff4440da0"), looks := false }, kinds := [], alts := [], laidByText := true, laidKinds := [.data], laidTests := true, laidLooks := .later }
def WireRowUptoCardSaid : Prop := Claim7.holds Tryd.pinned (.plain (OpenSpec.upto wireRowSpec)) wireRowUptoCard

/-- THE SECOND FORM's CARD OF 'flotsamlaw19.WireForth'. -/
def wireForthUptoCard : Claim7 := { stood := { row := wireForthUptoRow, standIns := [], harness := (true, "7a4881c63121c02d6e956904a7fd47b291c75b5882d7add7e1494b2ff4440da0"), looks := false }, kinds := [], alts := [], laidByText := true, laidKinds := [.data], laidTests := true, laidLooks := .later }
def WireForthUptoCardSaid : Prop := Claim7.holds Tryd.pinned (.plain (OpenSpec.upto wireForthSpec)) wireForthUptoCard
end Rows
end Go.Proofs.YtgbnpehpfadehaaDoor
