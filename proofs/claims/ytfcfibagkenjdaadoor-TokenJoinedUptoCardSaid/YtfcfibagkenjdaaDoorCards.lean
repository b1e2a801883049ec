/-
  DERIVED. GIVEN WITH THE SEED: THE CARDS: each row of YtfcfibagkenjdaaDoorRows.lean that lists a variable, with what it lists TIED to the program's text (the seventh form; the later family's looks); each row that meets fmt, with fmt's text TOLD by the authors' own Lean function (tested against real Go, not proved from fmt's source: count such statements apart). THE CARD IS WHAT COUNTS. Prove the row's statement (the work); the ties are given (YtfcfibagkenjdaaDoorTie.lean); close each card by the builder's one call (the guide's Derived/Test/ToyasCard.lean, 'card_holds'). Laid BY PROGRAM, IN A SANDBOX (cutbox-door.mjs). By AI agents, Wed Nov 11 2026. No macro, syntax, notation, axiom, sorry.
-/
import Derived.Test.YtfcfibagkenjdaaDoorRows
import GoSem.ClaimSeven
namespace Go.Proofs.YtfcfibagkenjdaaDoor
namespace Rows

/-- THE TIED CARD OF 'flotsamlaw07.TokenFolds'. -/
def tokenFoldsCard : Claim7 := { stood := { row := tokenFoldsRow, standIns := [], harness := (true, "2bb2dc065961133e46314e13236907bf5bca97991f40d8b16ee8dd901bdbe375"), looks := false }, kinds := [], alts := [], laidByText := true, laidKinds := [.data, .pinned], laidTests := true, laidLooks := .later }
def TokenFoldsCardSaid : Prop := Claim7.holds Tryd.pinned (.plain (OpenSpec.ofChange tokenFoldsSpec)) tokenFoldsCard

/-- THE TIED CARD OF 'flotsamlaw07.TokenWords'. -/
def tokenWordsCard : Claim7 := { stood := { row := tokenWordsRow, standIns := [], harness := (true, "2bb2dc065961133e46314e13236907bf5bca97991f40d8b16ee8dd901bdbe375"), looks := false }, kinds := [], alts := [], laidByText := true, laidKinds := [.data, .pinned], laidTests := true, laidLooks := .later }
def TokenWordsCardSaid : Prop := Claim7.holds Tryd.pinned (.plain (OpenSpec.ofChange tokenWordsSpec)) tokenWordsCard

/-- THE TIED CARD OF 'flotsamlaw07.TokenHas'. -/
def tokenHasCard : Claim7 := { stood := { row := tokenHasRow, standIns := [], harness := (true, "2bb2dc065961133e46314e13236907bf5bca97991f40d8b16ee8dd901bdbe375"), looks := false }, kinds := [], alts := [], laidByText := true, laidKinds := [.data, .pinned], laidTests := true, laidLooks := .later }
def TokenHasCardSaid : Prop := Claim7.holds Tryd.pinned (.plain (OpenSpec.ofChange tokenHasSpec)) tokenHasCard

/-- THE TIED CARD OF 'flotsamlaw07.TokenSame'. -/
def tokenSameCard : Claim7 := { stood := { row := tokenSameRow, standIns := [], harness := (true, "2bb2dc065961133e46314e13236907bf5bca97991f40d8b16ee8dd901bdbe375"), looks := false }, kinds := [], alts := [], laidByText := true, laidKinds := [.data, .pinned], laidTests := true, laidLooks := .later }
def TokenSameCardSaid : Prop := Claim7.holds Tryd.pinned (.plain (OpenSpec.ofChange tokenSameSpec)) tokenSameCard

/-- THE TIED CARD OF 'flotsamlaw07.TokenJoined'. -/
def tokenJoinedCard : Claim7 := { stood := { row := tokenJoinedRow, standIns := [], harness := (true, "2bb2dc065961133e46314e13236907bf5bca97991f40d8b16ee8dd901bdbe375"), looks := false }, kinds := [], alts := [], laidByText := true, laidKinds := [.data, .pinned], laidTests := true, laidLooks := .later }
def TokenJoinedCardSaid : Prop := Claim7.holds Tryd.pinned (.plain (OpenSpec.ofChange tokenJoinedSpec)) tokenJoinedCard

/-- THE TIED CARD OF 'flotsamlaw07.TokenNone'. -/
def tokenNoneCard : Claim7 := { stood := { row := tokenNoneRow, standIns := [], harness := (true, "2bb2dc065961133e46314e13236907bf5bca97991f40d8b16ee8dd901bdbe375"), looks := false }, kinds := [], alts := [], laidByText := true, laidKinds := [.data, .pinned], laidTests := true, laidLooks := .later }
def TokenNoneCardSaid : Prop := Claim7.holds Tryd.pinned (.plain (OpenSpec.ofChange tokenNoneSpec)) tokenNoneCard

/-- THE SECOND FORM's CARD OF 'flotsamlaw07.TokenFolds'. -/
def tokenFoldsUptoCard : Claim7 := { stood := { row := tokenFoldsUptoRow, standIns := [], harness := (true, "2bb2dc065961133e46314e13236907bf5bca97991f40d8b16ee8dd901bdbe375"), looks := false }, kinds := [], alts := [], laidByText := true, laidKinds := [.data, .pinned], laidTests := true, laidLooks := .later }
def TokenFoldsUptoCardSaid : Prop := Claim7.holds Tryd.pinned (.plain (OpenSpec.upto tokenFoldsSpec)) tokenFoldsUptoCard

/-- THE SECOND FORM's CARD OF 'flotsamlaw07.TokenWords'. -/
def tokenWordsUptoCard : Claim7 := { stood := { row := tokenWordsUptoRow, standIns := [], harness := (true, "2bb2dc065961133e46314e13236907bf5bca97991f40d8b16ee8dd901bdbe375"), looks := false }, kinds := [], alts := [], laidByText := true, laidKinds := [.data, .pinned], laidTests := true, laidLooks := .later }
def TokenWordsUptoCardSaid : Prop := Claim7.holds Tryd.pinned (.plain (OpenSpec.upto tokenWordsSpec)) tokenWordsUptoCard

/-- THE SECOND FORM's CARD OF 'flotsamlaw07.TokenHas'. -/
def tokenHasUptoCard : Claim7 := { stood := { row := tokenHasUptoRow, standIns := [], harness := (true, "2bb2dc065961133e46314e13236907bf5bca97991f40d8b16ee8dd901bdbe375"), looks := false }, kinds := [], alts := [], laidByText := true, laidKinds := [.data, .pinned], laidTests := true, laidLooks := .later }
def TokenHasUptoCardSaid : Prop := Claim7.holds Tryd.pinned (.plain (OpenSpec.upto tokenHasSpec)) tokenHasUptoCard

/-- THE SECOND FORM's CARD OF 'flotsamlaw07.TokenSame'. -/
def tokenSameUptoCard : Claim7 := { stood := { row := tokenSameUptoRow, standIns := [], harness := (true, "2bb2dc065961133e46314e13236907bf5bca97991f40d8b16ee8dd901bdbe375"), looks := false }, kinds := [], alts := [], laidByText := true, laidKinds := [.data, .pinned], laidTests := true, laidLooks := .later }
def TokenSameUptoCardSaid : Prop := Claim7.holds Tryd.pinned (.plain (OpenSpec.upto tokenSameSpec)) tokenSameUptoCard

/-- THE SECOND FORM's CARD OF 'flotsamlaw07.TokenJoined'. -/
def tokenJoinedUptoCard : Claim7 := { stood := { row := tokenJoinedUptoRow, standIns := [], harness := (true, "2bb2dc065961133e46314e13236907bf5bca97991f40d8b16ee8dd901bdbe375"), looks := false }, kinds := [], alts := [], laidByText := true, laidKinds := [.data, .pinned], laidTests := true, laidLooks := .later }
def TokenJoinedUptoCardSaid : Prop := Claim7.holds Tryd.pinned (.plain (OpenSpec.upto tokenJoinedSpec)) tokenJoinedUptoCard

/-- THE SECOND FORM's CARD OF 'flotsamlaw07.TokenNone'. -/
def tokenNoneUptoCard : Claim7 := { stood := { row := tokenNoneUptoRow, standIns := [], harness := (true, "2bb2dc065961133e46314e13236907bf5bca97991f40d8b16ee8dd901bdbe375"), looks := false }, kinds := [], alts := [], laidByText := true, laidKinds := [.data, .pinned], laidTests := true, laidLooks := .later }
def TokenNoneUptoCardSaid : Prop := Claim7.holds Tryd.pinned (.plain (OpenSpec.upto tokenNoneSpec)) tokenNoneUptoCard
end Rows
end Go.Proofs.YtfcfibagkenjdaaDoor
