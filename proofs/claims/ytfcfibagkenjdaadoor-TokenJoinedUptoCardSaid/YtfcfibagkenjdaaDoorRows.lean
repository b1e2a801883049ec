/-
  NARROWER THAN 'FOR EVERY INPUT', by the rows' own cells (each row's printed sentence says how): TokenFolds: laid · TokenWords: laid · TokenHas: laid · TokenSame: laid · TokenJoined: laid · TokenNone: laid.
  DERIVED. THE GIVEN ROWS OF THIS SEAT. 6 by the template 'for every input the law returns true; each argument reads behind the call as it read before'; 0 by the template 'total and deterministic' (their statements: YtfcfibagkenjdaaDoorTotals.lean).
  GIVEN WITH THE SEED: the statements are not yours to turn. If you find one false, say at which input.
  Laid BY PROGRAM, IN A SANDBOX (cutbox-rows.mjs): the forced cells as the released guide's own fill.sh prints them over the translation 002dd72b658debb5… (all of the seat's roots in one cut). By AI agents, Wed Nov 11 2026. No macro, syntax, notation, axiom, sorry.
-/
import Derived.Test.YtfcfibagkenjdaaDoorChecked
import GoSem.PinnedTables
import GoSem.Claim
import GoSem.ClaimJoined
import GoSem.ClaimMapViews
import Derived.JoinedTies
import Derived.KernelRfl
namespace Go.Proofs.YtfcfibagkenjdaaDoor
/- THE CELL 'sum', in the pinned program and in every row, IS THE sha256 OF THE DUMP (.gsa) THAT YtfcfibagkenjdaaDoorProg.lean LOADS. Nothing in Lean hashes anything: it is a label: what it is worth is what the hold of that sum in a sandbox is worth. -/
noncomputable def Tryd.pinned : Pinned := { name := "ytfcfibagkenjdaadoor", sum := "002dd72b658debb5b6bfeacd7568f03ac3dbccc640b552c8a7c4ca1dffc4b35b", checked := Tryd.checked }
namespace Rows
def none {H : Type} : Left H := { results := [], args := [] }

/- WHAT THE LISTED PACKAGE-LEVEL VARIABLES READ AS WHEN THE CALL BEGINS. Each datum BY PROGRAM (the guide's laid-datum.mjs) off the statement by which the dump's own 'gosem.cut.vars' lays the variable. In a bare row this is a premise. The card (YtfcfibagkenjdaaDoorCards.lean) ties it to the program's text. -/
def laid_unicode_utf8_acceptRanges {H : Type} : DataW H := .agg [.agg [.lit (.int .u8 128), .lit (.int .u8 191)], .agg [.lit (.int .u8 160), .lit (.int .u8 191)], .agg [.lit (.int .u8 128), .lit (.int .u8 159)], .agg [.lit (.int .u8 144), .lit (.int .u8 191)], .agg [.lit (.int .u8 128), .lit (.int .u8 143)], .agg [.lit (.int .u8 0), .lit (.int .u8 0)], .agg [.lit (.int .u8 0), .lit (.int .u8 0)], .agg [.lit (.int .u8 0), .lit (.int .u8 0)], .agg [.lit (.int .u8 0), .lit (.int .u8 0)], .agg [.lit (.int .u8 0), .lit (.int .u8 0)], .agg [.lit (.int .u8 0), .lit (.int .u8 0)], .agg [.lit (.int .u8 0), .lit (.int .u8 0)], .agg [.lit (.int .u8 0), .lit (.int .u8 0)], .agg [.lit (.int .u8 0), .lit (.int .u8 0)], .agg [.lit (.int .u8 0), .lit (.int .u8 0)], .agg [.lit (.int .u8 0), .lit (.int .u8 0)]]
/-- One of Go's own tables, pinned by name: the form's constant. -/
def laid_unicode_utf8_first : DataW Unit := Go.Pinned.utf8First

/-- 'flotsamlaw07.TokenFolds': WHATEVER THE INPUT: true; the input reads as it did. -/
def tokenFoldsSpec : ChangeSpec := { name := "tokenFolds", fn := fun _ => fun
  | [d] => { results := [.lit (.bool true)], args := [d] }
  | _ => none }
def tokenFoldsRow : OpenClaim := { program := "ytfcfibagkenjdaadoor", sum := "002dd72b658debb5b6bfeacd7568f03ac3dbccc640b552c8a7c4ca1dffc4b35b", func := "flotsam/flotsamlaw07.TokenFolds", spec := "tokenFolds", unfollowed := true, recurses := true, named := ["unicode/utf8.first", "unicode/utf8.acceptRanges"], apart := false, laid := [("unicode/utf8.acceptRanges", laid_unicode_utf8_acceptRanges), ("unicode/utf8.first", laid_unicode_utf8_first)] }
def TokenFoldsSaid : Prop := tokenFoldsRow.holds Tryd.pinned (OpenSpec.ofChange tokenFoldsSpec)

/-- ITS FALSE NEIGHBOUR: 'it returns false'. Refute it at one input. -/
def tokenFoldsWrong : ChangeSpec := { name := "tokenFolds", fn := fun _ => fun
  | [d] => { results := [.lit (.bool false)], args := [d] }
  | _ => none }
def TokenFoldsWrongFalsely : Prop := tokenFoldsRow.holds Tryd.pinned (OpenSpec.ofChange tokenFoldsWrong)

/-- 'flotsamlaw07.TokenWords': WHATEVER THE INPUT: true; the input reads as it did. -/
def tokenWordsSpec : ChangeSpec := { name := "tokenWords", fn := fun _ => fun
  | [d] => { results := [.lit (.bool true)], args := [d] }
  | _ => none }
def tokenWordsRow : OpenClaim := { program := "ytfcfibagkenjdaadoor", sum := "002dd72b658debb5b6bfeacd7568f03ac3dbccc640b552c8a7c4ca1dffc4b35b", func := "flotsam/flotsamlaw07.TokenWords", spec := "tokenWords", unfollowed := true, recurses := true, named := ["unicode/utf8.first", "unicode/utf8.acceptRanges"], apart := false, laid := [("unicode/utf8.acceptRanges", laid_unicode_utf8_acceptRanges), ("unicode/utf8.first", laid_unicode_utf8_first)] }
def TokenWordsSaid : Prop := tokenWordsRow.holds Tryd.pinned (OpenSpec.ofChange tokenWordsSpec)

/-- ITS FALSE NEIGHBOUR: 'it returns false'. Refute it at one input. -/
def tokenWordsWrong : ChangeSpec := { name := "tokenWords", fn := fun _ => fun
  | [d] => { results := [.lit (.bool false)], args := [d] }
  | _ => none }
def TokenWordsWrongFalsely : Prop := tokenWordsRow.holds Tryd.pinned (OpenSpec.ofChange tokenWordsWrong)

/-- 'flotsamlaw07.TokenHas': WHATEVER THE INPUT: true; the input reads as it did. -/
def tokenHasSpec : ChangeSpec := { name := "tokenHas", fn := fun _ => fun
  | [d1, d2] => { results := [.lit (.bool true)], args := [d1, d2] }
  | _ => none }
def tokenHasRow : OpenClaim := { program := "ytfcfibagkenjdaadoor", sum := "002dd72b658debb5b6bfeacd7568f03ac3dbccc640b552c8a7c4ca1dffc4b35b", func := "flotsam/flotsamlaw07.TokenHas", spec := "tokenHas", unfollowed := true, recurses := true, named := ["unicode/utf8.first", "unicode/utf8.acceptRanges"], apart := false, laid := [("unicode/utf8.acceptRanges", laid_unicode_utf8_acceptRanges), ("unicode/utf8.first", laid_unicode_utf8_first)] }
def TokenHasSaid : Prop := tokenHasRow.holds Tryd.pinned (OpenSpec.ofChange tokenHasSpec)

/-- ITS FALSE NEIGHBOUR: 'it returns false'. Refute it at one input. -/
def tokenHasWrong : ChangeSpec := { name := "tokenHas", fn := fun _ => fun
  | [d1, d2] => { results := [.lit (.bool false)], args := [d1, d2] }
  | _ => none }
def TokenHasWrongFalsely : Prop := tokenHasRow.holds Tryd.pinned (OpenSpec.ofChange tokenHasWrong)

/-- 'flotsamlaw07.TokenSame': WHATEVER THE INPUT: true; the input reads as it did. -/
def tokenSameSpec : ChangeSpec := { name := "tokenSame", fn := fun _ => fun
  | [d] => { results := [.lit (.bool true)], args := [d] }
  | _ => none }
def tokenSameRow : OpenClaim := { program := "ytfcfibagkenjdaadoor", sum := "002dd72b658debb5b6bfeacd7568f03ac3dbccc640b552c8a7c4ca1dffc4b35b", func := "flotsam/flotsamlaw07.TokenSame", spec := "tokenSame", unfollowed := true, recurses := true, named := ["unicode/utf8.first", "unicode/utf8.acceptRanges"], apart := false, laid := [("unicode/utf8.acceptRanges", laid_unicode_utf8_acceptRanges), ("unicode/utf8.first", laid_unicode_utf8_first)] }
def TokenSameSaid : Prop := tokenSameRow.holds Tryd.pinned (OpenSpec.ofChange tokenSameSpec)

/-- ITS FALSE NEIGHBOUR: 'it returns false'. Refute it at one input. -/
def tokenSameWrong : ChangeSpec := { name := "tokenSame", fn := fun _ => fun
  | [d] => { results := [.lit (.bool false)], args := [d] }
  | _ => none }
def TokenSameWrongFalsely : Prop := tokenSameRow.holds Tryd.pinned (OpenSpec.ofChange tokenSameWrong)

/-- 'flotsamlaw07.TokenJoined': WHATEVER THE INPUT: true; the input reads as it did. -/
def tokenJoinedSpec : ChangeSpec := { name := "tokenJoined", fn := fun _ => fun
  | [d1, d2] => { results := [.lit (.bool true)], args := [d1, d2] }
  | _ => none }
def tokenJoinedRow : OpenClaim := { program := "ytfcfibagkenjdaadoor", sum := "002dd72b658debb5b6bfeacd7568f03ac3dbccc640b552c8a7c4ca1dffc4b35b", func := "flotsam/flotsamlaw07.TokenJoined", spec := "tokenJoined", unfollowed := true, recurses := true, named := ["unicode/utf8.first", "unicode/utf8.acceptRanges"], apart := false, laid := [("unicode/utf8.acceptRanges", laid_unicode_utf8_acceptRanges), ("unicode/utf8.first", laid_unicode_utf8_first)] }
def TokenJoinedSaid : Prop := tokenJoinedRow.holds Tryd.pinned (OpenSpec.ofChange tokenJoinedSpec)

/-- ITS FALSE NEIGHBOUR: 'it returns false'. Refute it at one input. -/
def tokenJoinedWrong : ChangeSpec := { name := "tokenJoined", fn := fun _ => fun
  | [d1, d2] => { results := [.lit (.bool false)], args := [d1, d2] }
  | _ => none }
def TokenJoinedWrongFalsely : Prop := tokenJoinedRow.holds Tryd.pinned (OpenSpec.ofChange tokenJoinedWrong)

/-- 'flotsamlaw07.TokenNone': WHATEVER THE INPUT: true; the input reads as it did. -/
def tokenNoneSpec : ChangeSpec := { name := "tokenNone", fn := fun _ => fun
  | [d] => { results := [.lit (.bool true)], args := [d] }
  | _ => none }
def tokenNoneRow : OpenClaim := { program := "ytfcfibagkenjdaadoor", sum := "002dd72b658debb5b6bfeacd7568f03ac3dbccc640b552c8a7c4ca1dffc4b35b", func := "flotsam/flotsamlaw07.TokenNone", spec := "tokenNone", unfollowed := true, recurses := true, named := ["unicode/utf8.first", "unicode/utf8.acceptRanges"], apart := false, laid := [("unicode/utf8.acceptRanges", laid_unicode_utf8_acceptRanges), ("unicode/utf8.first", laid_unicode_utf8_first)] }
def TokenNoneSaid : Prop := tokenNoneRow.holds Tryd.pinned (OpenSpec.ofChange tokenNoneSpec)

/-- ITS FALSE NEIGHBOUR: 'it returns false'. Refute it at one input. -/
def tokenNoneWrong : ChangeSpec := { name := "tokenNone", fn := fun _ => fun
  | [d] => { results := [.lit (.bool false)], args := [d] }
  | _ => none }
def TokenNoneWrongFalsely : Prop := tokenNoneRow.holds Tryd.pinned (OpenSpec.ofChange tokenNoneWrong)

/- THE SECOND FORM. 'bulk': how many values and letters a reading holds, each counted each time it is reached (what is shared counts as often as it is met; a slice's spare places count too). A statement '..UptoSaid' is the law's where the arguments, and the package variables that the reading takes, are together of bulk at most 1048576: NARROWER than '..Said'. Prove '..Said' where nothing that the law and all that it calls make is longer than what came in: it says more and counts as full. Else prove '..UptoSaid'. A law counts once. -/
mutual
def uptoBulk {H : Type} : DataW H → Nat
  | .lit (.string bytes) => bytes.length + 1
  | .lit _ => 1
  | .nil => 1
  | .ptr d => uptoBulk d + 1
  | .slice elems spare => uptoBulkAll elems + uptoBulkAll spare + 1
  | .agg parts => uptoBulkAll parts + 1
  | .iface _ d => uptoBulk d + 1
  | .map entries => uptoBulkEntries entries + 1
  | .held _ => 1
def uptoBulkAll {H : Type} : List (DataW H) → Nat
  | [] => 0
  | d :: r => uptoBulk d + uptoBulkAll r
def uptoBulkEntries {H : Type} : List (Lit × DataW H) → Nat
  | [] => 0
  | x :: r => uptoBulkEntry x + uptoBulkEntries r
def uptoBulkEntry {H : Type} : Lit × DataW H → Nat
  | (.string bytes, d) => bytes.length + uptoBulk d + 1
  | (_, d) => uptoBulk d + 1
 end
def uptoSmall : (H : Type) → List (DataW H) → Bool := fun _ ds => decide (uptoBulkAll ds ≤ 1048576)
def OpenSpec.upto (s : _root_.Go.ChangeSpec) : _root_.Go.OpenSpec := { _root_.Go.OpenSpec.ofChange s with cond := some uptoSmall }

/-- 'flotsamlaw07.TokenFolds', WHERE WHAT IT READS IS OF BULK AT MOST 1048576: true; the input reads as it did. -/
def tokenFoldsUptoRow : OpenClaim := { program := "ytfcfibagkenjdaadoor", sum := "002dd72b658debb5b6bfeacd7568f03ac3dbccc640b552c8a7c4ca1dffc4b35b", func := "flotsam/flotsamlaw07.TokenFolds", spec := "tokenFolds", unfollowed := true, recurses := true, named := ["unicode/utf8.first", "unicode/utf8.acceptRanges"], apart := false, laid := [("unicode/utf8.acceptRanges", laid_unicode_utf8_acceptRanges), ("unicode/utf8.first", laid_unicode_utf8_first)], narrowed := true }
def TokenFoldsUptoSaid : Prop := tokenFoldsUptoRow.holds Tryd.pinned (OpenSpec.upto tokenFoldsSpec)

/-- 'flotsamlaw07.TokenWords', WHERE WHAT IT READS IS OF BULK AT MOST 1048576: true; the input reads as it did. -/
def tokenWordsUptoRow : OpenClaim := { program := "ytfcfibagkenjdaadoor", sum := "002dd72b658debb5b6bfeacd7568f03ac3dbccc640b552c8a7c4ca1dffc4b35b", func := "flotsam/flotsamlaw07.TokenWords", spec := "tokenWords", unfollowed := true, recurses := true, named := ["unicode/utf8.first", "unicode/utf8.acceptRanges"], apart := false, laid := [("unicode/utf8.acceptRanges", laid_unicode_utf8_acceptRanges), ("unicode/utf8.first", laid_unicode_utf8_first)], narrowed := true }
def TokenWordsUptoSaid : Prop := tokenWordsUptoRow.holds Tryd.pinned (OpenSpec.upto tokenWordsSpec)

/-- 'flotsamlaw07.TokenHas', WHERE WHAT IT READS IS OF BULK AT MOST 1048576: true; the input reads as it did. -/
def tokenHasUptoRow : OpenClaim := { program := "ytfcfibagkenjdaadoor", sum := "002dd72b658debb5b6bfeacd7568f03ac3dbccc640b552c8a7c4ca1dffc4b35b", func := "flotsam/flotsamlaw07.TokenHas", spec := "tokenHas", unfollowed := true, recurses := true, named := ["unicode/utf8.first", "unicode/utf8.acceptRanges"], apart := false, laid := [("unicode/utf8.acceptRanges", laid_unicode_utf8_acceptRanges), ("unicode/utf8.first", laid_unicode_utf8_first)], narrowed := true }
def TokenHasUptoSaid : Prop := tokenHasUptoRow.holds Tryd.pinned (OpenSpec.upto tokenHasSpec)

/-- 'flotsamlaw07.TokenSame', WHERE WHAT IT READS IS OF BULK AT MOST 1048576: true; the input reads as it did. -/
def tokenSameUptoRow : OpenClaim := { program := "ytfcfibagkenjdaadoor", sum := "002dd72b658debb5b6bfeacd7568f03ac3dbccc640b552c8a7c4ca1dffc4b35b", func := "flotsam/flotsamlaw07.TokenSame", spec := "tokenSame", unfollowed := true, recurses := true, named := ["unicode/utf8.first", "unicode/utf8.acceptRanges"], apart := false, laid := [("unicode/utf8.acceptRanges", laid_unicode_utf8_acceptRanges), ("unicode/utf8.first", laid_unicode_utf8_first)], narrowed := true }
def TokenSameUptoSaid : Prop := tokenSameUptoRow.holds Tryd.pinned (OpenSpec.upto tokenSameSpec)

/-- 'flotsamlaw07.TokenJoined', WHERE WHAT IT READS IS OF BULK AT MOST 1048576: true; the input reads as it did. -/
def tokenJoinedUptoRow : OpenClaim := { program := "ytfcfibagkenjdaadoor", sum := "002dd72b658debb5b6bfeacd7568f03ac3dbccc640b552c8a7c4ca1dffc4b35b", func := "flotsam/flotsamlaw07.TokenJoined", spec := "tokenJoined", unfollowed := true, recurses := true, named := ["unicode/utf8.first", "unicode/utf8.acceptRanges"], apart := false, laid := [("unicode/utf8.acceptRanges", laid_unicode_utf8_acceptRanges), ("unicode/utf8.first", laid_unicode_utf8_first)], narrowed := true }
def TokenJoinedUptoSaid : Prop := tokenJoinedUptoRow.holds Tryd.pinned (OpenSpec.upto tokenJoinedSpec)

/-- 'flotsamlaw07.TokenNone', WHERE WHAT IT READS IS OF BULK AT MOST 1048576: true; the input reads as it did. -/
def tokenNoneUptoRow : OpenClaim := { program := "ytfcfibagkenjdaadoor", sum := "002dd72b658debb5b6bfeacd7568f03ac3dbccc640b552c8a7c4ca1dffc4b35b", func := "flotsam/flotsamlaw07.TokenNone", spec := "tokenNone", unfollowed := true, recurses := true, named := ["unicode/utf8.first", "unicode/utf8.acceptRanges"], apart := false, laid := [("unicode/utf8.acceptRanges", laid_unicode_utf8_acceptRanges), ("unicode/utf8.first", laid_unicode_utf8_first)], narrowed := true }
def TokenNoneUptoSaid : Prop := tokenNoneUptoRow.holds Tryd.pinned (OpenSpec.upto tokenNoneSpec)

end Rows
end Go.Proofs.YtfcfibagkenjdaaDoor
