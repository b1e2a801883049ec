/-
  No cell of these rows narrows 'for every input' (looked for: loops, veiled, ifaces, maps, wideKeys, modest, calm, conditions, laid).
  DERIVED. THE GIVEN ROWS OF THIS SEAT. 7 by the template 'for every input the law returns true; each argument reads behind the call as it read before'; 0 by the template 'total and deterministic' (their statements: YtkpeicleblcdaaaTotals.lean).
  GIVEN WITH THE SEED: the statements are not yours to turn. If you find one false, say at which input.
  Laid BY PROGRAM, IN A SANDBOX (cutbox-rows.mjs): the forced cells as the released guide's own fill.sh prints them over the translation 78adace0f8601448… (all of the seat's roots in one cut). By AI agents, Wed Nov 11 2026. No macro, syntax, notation, axiom, sorry.
-/
import Derived.Test.YtkpeicleblcdaaaChecked
import GoSem.Claim
import GoSem.ClaimJoined
import GoSem.ClaimMapViews
import Derived.JoinedTies
import Derived.KernelRfl
namespace Go.Proofs.Ytkpeicleblcdaaa
/- THE CELL 'sum', in the pinned program and in every row, IS THE sha256 OF THE DUMP (.gsa) THAT YtkpeicleblcdaaaProg.lean LOADS. Nothing in Lean hashes anything: it is a label: what it is worth is what the hold of that sum in a sandbox is worth. -/
noncomputable def Try.pinned : Pinned := { name := "ytkpeicleblcdaaa", sum := "78adace0f860144854e73c765f2bb67f04489d4881e0b8906154468bbe9fe03e", checked := Try.checked }
namespace Rows
def none {H : Type} : Left H := { results := [], args := [] }

/-- 'flotsamlaw04.RecordEncodes': WHATEVER THE INPUT: true; the input reads as it did. -/
def recordEncodesSpec : ChangeSpec := { name := "recordEncodes", fn := fun _ => fun
  | [d] => { results := [.lit (.bool true)], args := [d] }
  | _ => none }
def recordEncodesRow : OpenClaim := { program := "ytkpeicleblcdaaa", sum := "78adace0f860144854e73c765f2bb67f04489d4881e0b8906154468bbe9fe03e", func := "flotsam/flotsamlaw04.RecordEncodes", spec := "recordEncodes", inPlace := ["internal/abi.NoEscape"], apart := false }
def RecordEncodesSaid : Prop := recordEncodesRow.holds Try.pinned (OpenSpec.ofChange recordEncodesSpec)

/-- ITS FALSE NEIGHBOUR: 'it returns false'. Refute it at one input. -/
def recordEncodesWrong : ChangeSpec := { name := "recordEncodes", fn := fun _ => fun
  | [d] => { results := [.lit (.bool false)], args := [d] }
  | _ => none }
def RecordEncodesWrongFalsely : Prop := recordEncodesRow.holds Try.pinned (OpenSpec.ofChange recordEncodesWrong)

/-- 'flotsamlaw04.RecordDecodes': WHATEVER THE INPUT: true; the input reads as it did. -/
def recordDecodesSpec : ChangeSpec := { name := "recordDecodes", fn := fun _ => fun
  | [d1, d2] => { results := [.lit (.bool true)], args := [d1, d2] }
  | _ => none }
def recordDecodesRow : OpenClaim := { program := "ytkpeicleblcdaaa", sum := "78adace0f860144854e73c765f2bb67f04489d4881e0b8906154468bbe9fe03e", func := "flotsam/flotsamlaw04.RecordDecodes", spec := "recordDecodes", inPlace := ["internal/abi.NoEscape"], apart := false }
def RecordDecodesSaid : Prop := recordDecodesRow.holds Try.pinned (OpenSpec.ofChange recordDecodesSpec)

/-- ITS FALSE NEIGHBOUR: 'it returns false'. Refute it at one input. -/
def recordDecodesWrong : ChangeSpec := { name := "recordDecodes", fn := fun _ => fun
  | [d1, d2] => { results := [.lit (.bool false)], args := [d1, d2] }
  | _ => none }
def RecordDecodesWrongFalsely : Prop := recordDecodesRow.holds Try.pinned (OpenSpec.ofChange recordDecodesWrong)

/-- 'flotsamlaw04.RecordBack': WHATEVER THE INPUT: true; the input reads as it did. -/
def recordBackSpec : ChangeSpec := { name := "recordBack", fn := fun _ => fun
  | [d1, d2, d3] => { results := [.lit (.bool true)], args := [d1, d2, d3] }
  | _ => none }
def recordBackRow : OpenClaim := { program := "ytkpeicleblcdaaa", sum := "78adace0f860144854e73c765f2bb67f04489d4881e0b8906154468bbe9fe03e", func := "flotsam/flotsamlaw04.RecordBack", spec := "recordBack", inPlace := ["internal/abi.NoEscape"], apart := false }
def RecordBackSaid : Prop := recordBackRow.holds Try.pinned (OpenSpec.ofChange recordBackSpec)

/-- ITS FALSE NEIGHBOUR: 'it returns false'. Refute it at one input. -/
def recordBackWrong : ChangeSpec := { name := "recordBack", fn := fun _ => fun
  | [d1, d2, d3] => { results := [.lit (.bool false)], args := [d1, d2, d3] }
  | _ => none }
def RecordBackWrongFalsely : Prop := recordBackRow.holds Try.pinned (OpenSpec.ofChange recordBackWrong)

/-- 'flotsamlaw04.RecordForth': WHATEVER THE INPUT: true; the input reads as it did. -/
def recordForthSpec : ChangeSpec := { name := "recordForth", fn := fun _ => fun
  | [d1, d2] => { results := [.lit (.bool true)], args := [d1, d2] }
  | _ => none }
def recordForthRow : OpenClaim := { program := "ytkpeicleblcdaaa", sum := "78adace0f860144854e73c765f2bb67f04489d4881e0b8906154468bbe9fe03e", func := "flotsam/flotsamlaw04.RecordForth", spec := "recordForth", inPlace := ["internal/abi.NoEscape"], apart := false }
def RecordForthSaid : Prop := recordForthRow.holds Try.pinned (OpenSpec.ofChange recordForthSpec)

/-- ITS FALSE NEIGHBOUR: 'it returns false'. Refute it at one input. -/
def recordForthWrong : ChangeSpec := { name := "recordForth", fn := fun _ => fun
  | [d1, d2] => { results := [.lit (.bool false)], args := [d1, d2] }
  | _ => none }
def RecordForthWrongFalsely : Prop := recordForthRow.holds Try.pinned (OpenSpec.ofChange recordForthWrong)

/-- 'flotsamlaw04.RecordShort': WHATEVER THE INPUT: true; the input reads as it did. -/
def recordShortSpec : ChangeSpec := { name := "recordShort", fn := fun _ => fun
  | [d1, d2] => { results := [.lit (.bool true)], args := [d1, d2] }
  | _ => none }
def recordShortRow : OpenClaim := { program := "ytkpeicleblcdaaa", sum := "78adace0f860144854e73c765f2bb67f04489d4881e0b8906154468bbe9fe03e", func := "flotsam/flotsamlaw04.RecordShort", spec := "recordShort", inPlace := ["internal/abi.NoEscape"], apart := false }
def RecordShortSaid : Prop := recordShortRow.holds Try.pinned (OpenSpec.ofChange recordShortSpec)

/-- ITS FALSE NEIGHBOUR: 'it returns false'. Refute it at one input. -/
def recordShortWrong : ChangeSpec := { name := "recordShort", fn := fun _ => fun
  | [d1, d2] => { results := [.lit (.bool false)], args := [d1, d2] }
  | _ => none }
def RecordShortWrongFalsely : Prop := recordShortRow.holds Try.pinned (OpenSpec.ofChange recordShortWrong)

/-- 'flotsamlaw04.RecordRow': WHATEVER THE INPUT: true; the input reads as it did. -/
def recordRowSpec : ChangeSpec := { name := "recordRow", fn := fun _ => fun
  | [d1, d2] => { results := [.lit (.bool true)], args := [d1, d2] }
  | _ => none }
def recordRowRow : OpenClaim := { program := "ytkpeicleblcdaaa", sum := "78adace0f860144854e73c765f2bb67f04489d4881e0b8906154468bbe9fe03e", func := "flotsam/flotsamlaw04.RecordRow", spec := "recordRow", inPlace := ["internal/abi.NoEscape"], apart := false }
def RecordRowSaid : Prop := recordRowRow.holds Try.pinned (OpenSpec.ofChange recordRowSpec)

/-- ITS FALSE NEIGHBOUR: 'it returns false'. Refute it at one input. -/
def recordRowWrong : ChangeSpec := { name := "recordRow", fn := fun _ => fun
  | [d1, d2] => { results := [.lit (.bool false)], args := [d1, d2] }
  | _ => none }
def RecordRowWrongFalsely : Prop := recordRowRow.holds Try.pinned (OpenSpec.ofChange recordRowWrong)

/-- 'flotsamlaw04.RecordHeaders': WHATEVER THE INPUT: true; the input reads as it did. -/
def recordHeadersSpec : ChangeSpec := { name := "recordHeaders", fn := fun _ => fun
  | [d1, d2] => { results := [.lit (.bool true)], args := [d1, d2] }
  | _ => none }
def recordHeadersRow : OpenClaim := { program := "ytkpeicleblcdaaa", sum := "78adace0f860144854e73c765f2bb67f04489d4881e0b8906154468bbe9fe03e", func := "flotsam/flotsamlaw04.RecordHeaders", spec := "recordHeaders", inPlace := ["internal/abi.NoEscape"], apart := false }
def RecordHeadersSaid : Prop := recordHeadersRow.holds Try.pinned (OpenSpec.ofChange recordHeadersSpec)

/-- ITS FALSE NEIGHBOUR: 'it returns false'. Refute it at one input. -/
def recordHeadersWrong : ChangeSpec := { name := "recordHeaders", fn := fun _ => fun
  | [d1, d2] => { results := [.lit (.bool false)], args := [d1, d2] }
  | _ => none }
def RecordHeadersWrongFalsely : Prop := recordHeadersRow.holds Try.pinned (OpenSpec.ofChange recordHeadersWrong)

/- THE SECOND FORM. 'bulk': how many values and letters a reading holds, each counted each time it is reached (what is shared counts as often as it is met; a slice's spare places count too). A statement '..UptoSaid' is the law's where the arguments, and the package variables that the reading takes, are together of bulk at most 1048576: NARROWER than '..Said'. Prove '..Said' where nothing that the law and all that it calls make is longer than what came in: it says more and counts as full. Else prove '..UptoSaid'. A law counts once. -/
mutual
def uptoBulk {H : Type} : DataW H → Nat
  | .lit (.string bytes) => bytes.length + 1
  | .lit _ => 1
  | .nil => 1
  | .ptr d => uptoBulk d + 1
  | .slice elems spare => uptoBulkAll elems + uptoBulkAll spare + 1
  | .agg parts => uptoBulkAll parts + 1
  | .iface _ d => uptoBulk d + 1
  | .map entries => uptoBulkEntries entries + 1
  | .held _ => 1
def uptoBulkAll {H : Type} : List (DataW H) → Nat
  | [] => 0
  | d :: r => uptoBulk d + uptoBulkAll r
def uptoBulkEntries {H : Type} : List (Lit × DataW H) → Nat
  | [] => 0
  | x :: r => uptoBulkEntry x + uptoBulkEntries r
def uptoBulkEntry {H : Type} : Lit × DataW H → Nat
  | (.string bytes, d) => bytes.length + uptoBulk d + 1
  | (_, d) => uptoBulk d + 1
 end
def uptoSmall : (H : Type) → List (DataW H) → Bool := fun _ ds => decide (uptoBulkAll ds ≤ 1048576)
def OpenSpec.upto (s : _root_.Go.ChangeSpec) : _root_.Go.OpenSpec := { _root_.Go.OpenSpec.ofChange s with cond := some uptoSmall }

/-- 'flotsamlaw04.RecordEncodes', WHERE WHAT IT READS IS OF BULK AT MOST 1048576: true; the input reads as it did. -/
def recordEncodesUptoRow : OpenClaim := { program := "ytkpeicleblcdaaa", sum := "78adace0f860144854e73c765f2bb67f04489d4881e0b8906154468bbe9fe03e", func := "flotsam/flotsamlaw04.RecordEncodes", spec := "recordEncodes", inPlace := ["internal/abi.NoEscape"], apart := false, narrowed := true }
def RecordEncodesUptoSaid : Prop := recordEncodesUptoRow.holds Try.pinned (OpenSpec.upto recordEncodesSpec)

/-- 'flotsamlaw04.RecordDecodes', WHERE WHAT IT READS IS OF BULK AT MOST 1048576: true; the input reads as it did. -/
def recordDecodesUptoRow : OpenClaim := { program := "ytkpeicleblcdaaa", sum := "78adace0f860144854e73c765f2bb67f04489d4881e0b8906154468bbe9fe03e", func := "flotsam/flotsamlaw04.RecordDecodes", spec := "recordDecodes", inPlace := ["internal/abi.NoEscape"], apart := false, narrowed := true }
def RecordDecodesUptoSaid : Prop := recordDecodesUptoRow.holds Try.pinned (OpenSpec.upto recordDecodesSpec)

/-- 'flotsamlaw04.RecordBack', WHERE WHAT IT READS IS OF BULK AT MOST 1048576: true; the input reads as it did. -/
def recordBackUptoRow : OpenClaim := { program := "ytkpeicleblcdaaa", sum := "78adace0f860144854e73c765f2bb67f04489d4881e0b8906154468bbe9fe03e", func := "flotsam/flotsamlaw04.RecordBack", spec := "recordBack", inPlace := ["internal/abi.NoEscape"], apart := false, narrowed := true }
def RecordBackUptoSaid : Prop := recordBackUptoRow.holds Try.pinned (OpenSpec.upto recordBackSpec)

/-- 'flotsamlaw04.RecordForth', WHERE WHAT IT READS IS OF BULK AT MOST 1048576: true; the input reads as it did. -/
def recordForthUptoRow : OpenClaim := { program := "ytkpeicleblcdaaa", sum := "78adace0f860144854e73c765f2bb67f04489d4881e0b8906154468bbe9fe03e", func := "flotsam/flotsamlaw04.RecordForth", spec := "recordForth", inPlace := ["internal/abi.NoEscape"], apart := false, narrowed := true }
def RecordForthUptoSaid : Prop := recordForthUptoRow.holds Try.pinned (OpenSpec.upto recordForthSpec)

/-- 'flotsamlaw04.RecordShort', WHERE WHAT IT READS IS OF BULK AT MOST 1048576: true; the input reads as it did. -/
def recordShortUptoRow : OpenClaim := { program := "ytkpeicleblcdaaa", sum := "78adace0f860144854e73c765f2bb67f04489d4881e0b8906154468bbe9fe03e", func := "flotsam/flotsamlaw04.RecordShort", spec := "recordShort", inPlace := ["internal/abi.NoEscape"], apart := false, narrowed := true }
def RecordShortUptoSaid : Prop := recordShortUptoRow.holds Try.pinned (OpenSpec.upto recordShortSpec)

/-- 'flotsamlaw04.RecordRow', WHERE WHAT IT READS IS OF BULK AT MOST 1048576: true; the input reads as it did. -/
def recordRowUptoRow : OpenClaim := { program := "ytkpeicleblcdaaa", sum := "78adace0f860144854e73c765f2bb67f04489d4881e0b8906154468bbe9fe03e", func := "flotsam/flotsamlaw04.RecordRow", spec := "recordRow", inPlace := ["internal/abi.NoEscape"], apart := false, narrowed := true }
def RecordRowUptoSaid : Prop := recordRowUptoRow.holds Try.pinned (OpenSpec.upto recordRowSpec)

/-- 'flotsamlaw04.RecordHeaders', WHERE WHAT IT READS IS OF BULK AT MOST 1048576: true; the input reads as it did. -/
def recordHeadersUptoRow : OpenClaim := { program := "ytkpeicleblcdaaa", sum := "78adace0f860144854e73c765f2bb67f04489d4881e0b8906154468bbe9fe03e", func := "flotsam/flotsamlaw04.RecordHeaders", spec := "recordHeaders", inPlace := ["internal/abi.NoEscape"], apart := false, narrowed := true }
def RecordHeadersUptoSaid : Prop := recordHeadersUptoRow.holds Try.pinned (OpenSpec.upto recordHeadersSpec)

end Rows
end Go.Proofs.Ytkpeicleblcdaaa
