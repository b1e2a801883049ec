/-
  NARROWER THAN 'FOR EVERY INPUT', by the rows' own cells (each row's printed sentence says how): WireEncodes: loops, laid · WireBack: loops, laid · WireAnswers: laid · WireReads: laid · WireFrames: laid · WireRow: laid · WireForth: laid.
  DERIVED. THE GIVEN ROWS OF THIS SEAT. 7 by the template 'for every input the law returns true; each argument reads behind the call as it read before'; 0 by the template 'total and deterministic' (their statements: YtgbnpehpfadehaaDoorTotals.lean).
  GIVEN WITH THE SEED: the statements are not yours to turn. If you find one false, say at which input.
  Laid BY PROGRAM, IN A SANDBOX (cutbox-rows.mjs): the forced cells as the released guide's own fill.sh prints them over the translation 249a98e882314580… (all of the seat's roots in one cut). By AI agents, Wed Nov 11 2026. No macro, syntax, notation, axiom, sorry.
-/
import Derived.Test.YtgbnpehpfadehaaDoorChecked
import GoSem.Claim
import GoSem.ClaimJoined
import GoSem.ClaimMapViews
import Derived.JoinedTies
import Derived.KernelRfl
namespace Go.Proofs.YtgbnpehpfadehaaDoor
/- THE CELL 'sum', in the pinned program and in every row, IS THE sha256 OF THE DUMP (.gsa) THAT YtgbnpehpfadehaaDoorProg.lean LOADS. Nothing in Lean hashes anything: it is a label: what it is worth is what the hold of that sum in a sandbox is worth. -/
noncomputable def Tryd.pinned : Pinned := { name := "ytgbnpehpfadehaadoor", sum := "249a98e88231458086136dfaa785121cc0bb13419f980a85b3900b7d6696278a", checked := Tryd.checked }
namespace Rows
def none {H : Type} : Left H := { results := [], args := [] }

/- WHAT THE LISTED PACKAGE-LEVEL VARIABLES READ AS WHEN THE CALL BEGINS. Each datum BY PROGRAM (the guide's laid-datum.mjs) off the statement by which the dump's own 'gosem.cut.vars' lays the variable. In a bare row this is a premise. The card (YtgbnpehpfadehaaDoorCards.lean) ties it to the program's text. -/
def laid_flotsam_crcc_steps {H : Type} : DataW H := .agg [.lit (.int .u32 0), .lit (.int .u32 274646895), .lit (.int .u32 549293790), .lit (.int .u32 820201905), .lit (.int .u32 1098587580), .lit (.int .u32 1361435347), .lit (.int .u32 1640403810), .lit (.int .u32 1905808397), .lit (.int .u32 2197175160), .lit (.int .u32 2460548119), .lit (.int .u32 2722870694), .lit (.int .u32 2987750089), .lit (.int .u32 3280807620), .lit (.int .u32 3553878443), .lit (.int .u32 3811616794), .lit (.int .u32 4084100981)]

/-- 'flotsamlaw19.WireEncodes': WHATEVER THE INPUT: true; the input reads as it did. -/
def wireEncodesSpec : ChangeSpec := { name := "wireEncodes", fn := fun _ => fun
  | [d] => { results := [.lit (.bool true)], args := [d] }
  | _ => none }
def wireEncodesRow : OpenClaim := { program := "ytgbnpehpfadehaadoor", sum := "249a98e88231458086136dfaa785121cc0bb13419f980a85b3900b7d6696278a", func := "flotsam/flotsamlaw19.WireEncodes", spec := "wireEncodes", inPlace := ["internal/abi.NoEscape"], unfollowed := true, recurses := true, named := ["flotsam/crcc.steps"], loops := true, apart := false, laid := [("flotsam/crcc.steps", laid_flotsam_crcc_steps)] }
def WireEncodesSaid : Prop := wireEncodesRow.holds Tryd.pinned (OpenSpec.ofChange wireEncodesSpec)

/-- ITS FALSE NEIGHBOUR: 'it returns false'. Refute it at one input. -/
def wireEncodesWrong : ChangeSpec := { name := "wireEncodes", fn := fun _ => fun
  | [d] => { results := [.lit (.bool false)], args := [d] }
  | _ => none }
def WireEncodesWrongFalsely : Prop := wireEncodesRow.holds Tryd.pinned (OpenSpec.ofChange wireEncodesWrong)

/-- 'flotsamlaw19.WireBack': WHATEVER THE INPUT: true; the input reads as it did. -/
def wireBackSpec : ChangeSpec := { name := "wireBack", fn := fun _ => fun
  | [d1, d2] => { results := [.lit (.bool true)], args := [d1, d2] }
  | _ => none }
def wireBackRow : OpenClaim := { program := "ytgbnpehpfadehaadoor", sum := "249a98e88231458086136dfaa785121cc0bb13419f980a85b3900b7d6696278a", func := "flotsam/flotsamlaw19.WireBack", spec := "wireBack", inPlace := ["internal/abi.NoEscape"], unfollowed := true, recurses := true, named := ["flotsam/crcc.steps"], loops := true, apart := false, laid := [("flotsam/crcc.steps", laid_flotsam_crcc_steps)] }
def WireBackSaid : Prop := wireBackRow.holds Tryd.pinned (OpenSpec.ofChange wireBackSpec)

/-- ITS FALSE NEIGHBOUR: 'it returns false'. Refute it at one input. -/
def wireBackWrong : ChangeSpec := { name := "wireBack", fn := fun _ => fun
  | [d1, d2] => { results := [.lit (.bool false)], args := [d1, d2] }
  | _ => none }
def WireBackWrongFalsely : Prop := wireBackRow.holds Tryd.pinned (OpenSpec.ofChange wireBackWrong)

/-- 'flotsamlaw19.WireAnswers': WHATEVER THE INPUT: true; the input reads as it did. -/
def wireAnswersSpec : ChangeSpec := { name := "wireAnswers", fn := fun _ => fun
  | [d] => { results := [.lit (.bool true)], args := [d] }
  | _ => none }
def wireAnswersRow : OpenClaim := { program := "ytgbnpehpfadehaadoor", sum := "249a98e88231458086136dfaa785121cc0bb13419f980a85b3900b7d6696278a", func := "flotsam/flotsamlaw19.WireAnswers", spec := "wireAnswers", inPlace := ["internal/abi.NoEscape"], unfollowed := true, recurses := true, named := ["flotsam/crcc.steps"], apart := false, laid := [("flotsam/crcc.steps", laid_flotsam_crcc_steps)] }
def WireAnswersSaid : Prop := wireAnswersRow.holds Tryd.pinned (OpenSpec.ofChange wireAnswersSpec)

/-- ITS FALSE NEIGHBOUR: 'it returns false'. Refute it at one input. -/
def wireAnswersWrong : ChangeSpec := { name := "wireAnswers", fn := fun _ => fun
  | [d] => { results := [.lit (.bool false)], args := [d] }
  | _ => none }
def WireAnswersWrongFalsely : Prop := wireAnswersRow.holds Tryd.pinned (OpenSpec.ofChange wireAnswersWrong)

/-- 'flotsamlaw19.WireReads': WHATEVER THE INPUT: true; the input reads as it did. -/
def wireReadsSpec : ChangeSpec := { name := "wireReads", fn := fun _ => fun
  | [d] => { results := [.lit (.bool true)], args := [d] }
  | _ => none }
def wireReadsRow : OpenClaim := { program := "ytgbnpehpfadehaadoor", sum := "249a98e88231458086136dfaa785121cc0bb13419f980a85b3900b7d6696278a", func := "flotsam/flotsamlaw19.WireReads", spec := "wireReads", inPlace := ["internal/abi.NoEscape"], unfollowed := true, recurses := true, named := ["flotsam/crcc.steps"], apart := false, laid := [("flotsam/crcc.steps", laid_flotsam_crcc_steps)] }
def WireReadsSaid : Prop := wireReadsRow.holds Tryd.pinned (OpenSpec.ofChange wireReadsSpec)

/-- ITS FALSE NEIGHBOUR: 'it returns false'. Refute it at one input. -/
def wireReadsWrong : ChangeSpec := { name := "wireReads", fn := fun _ => fun
  | [d] => { results := [.lit (.bool false)], args := [d] }
  | _ => none }
def WireReadsWrongFalsely : Prop := wireReadsRow.holds Tryd.pinned (OpenSpec.ofChange wireReadsWrong)

/-- 'flotsamlaw19.WireFrames': WHATEVER THE INPUT: true; the input reads as it did. -/
def wireFramesSpec : ChangeSpec := { name := "wireFrames", fn := fun _ => fun
  | [d] => { results := [.lit (.bool true)], args := [d] }
  | _ => none }
def wireFramesRow : OpenClaim := { program := "ytgbnpehpfadehaadoor", sum := "249a98e88231458086136dfaa785121cc0bb13419f980a85b3900b7d6696278a", func := "flotsam/flotsamlaw19.WireFrames", spec := "wireFrames", inPlace := ["internal/abi.NoEscape"], unfollowed := true, recurses := true, named := ["flotsam/crcc.steps"], apart := false, laid := [("flotsam/crcc.steps", laid_flotsam_crcc_steps)] }
def WireFramesSaid : Prop := wireFramesRow.holds Tryd.pinned (OpenSpec.ofChange wireFramesSpec)

/-- ITS FALSE NEIGHBOUR: 'it returns false'. Refute it at one input. -/
def wireFramesWrong : ChangeSpec := { name := "wireFrames", fn := fun _ => fun
  | [d] => { results := [.lit (.bool false)], args := [d] }
  | _ => none }
def WireFramesWrongFalsely : Prop := wireFramesRow.holds Tryd.pinned (OpenSpec.ofChange wireFramesWrong)

/-- 'flotsamlaw19.WireRow': WHATEVER THE INPUT: true; the input reads as it did. -/
def wireRowSpec : ChangeSpec := { name := "wireRow", fn := fun _ => fun
  | [d1, d2] => { results := [.lit (.bool true)], args := [d1, d2] }
  | _ => none }
def wireRowRow : OpenClaim := { program := "ytgbnpehpfadehaadoor", sum := "249a98e88231458086136dfaa785121cc0bb13419f980a85b3900b7d6696278a", func := "flotsam/flotsamlaw19.WireRow", spec := "wireRow", inPlace := ["internal/abi.NoEscape"], unfollowed := true, recurses := true, named := ["flotsam/crcc.steps"], apart := false, laid := [("flotsam/crcc.steps", laid_flotsam_crcc_steps)] }
def WireRowSaid : Prop := wireRowRow.holds Tryd.pinned (OpenSpec.ofChange wireRowSpec)

/-- ITS FALSE NEIGHBOUR: 'it returns false'. Refute it at one input. -/
def wireRowWrong : ChangeSpec := { name := "wireRow", fn := fun _ => fun
  | [d1, d2] => { results := [.lit (.bool false)], args := [d1, d2] }
  | _ => none }
def WireRowWrongFalsely : Prop := wireRowRow.holds Tryd.pinned (OpenSpec.ofChange wireRowWrong)

/-- 'flotsamlaw19.WireForth': WHATEVER THE INPUT: true; the input reads as it did. -/
def wireForthSpec : ChangeSpec := { name := "wireForth", fn := fun _ => fun
  | [d] => { results := [.lit (.bool true)], args := [d] }
  | _ => none }
def wireForthRow : OpenClaim := { program := "ytgbnpehpfadehaadoor", sum := "249a98e88231458086136dfaa785121cc0bb13419f980a85b3900b7d6696278a", func := "flotsam/flotsamlaw19.WireForth", spec := "wireForth", inPlace := ["internal/abi.NoEscape"], unfollowed := true, recurses := true, named := ["flotsam/crcc.steps"], apart := false, laid := [("flotsam/crcc.steps", laid_flotsam_crcc_steps)] }
def WireForthSaid : Prop := wireForthRow.holds Tryd.pinned (OpenSpec.ofChange wireForthSpec)

/-- ITS FALSE NEIGHBOUR: 'it returns false'. Refute it at one input. -/
def wireForthWrong : ChangeSpec := { name := "wireForth", fn := fun _ => fun
  | [d] => { results := [.lit (.bool false)], args := [d] }
  | _ => none }
def WireForthWrongFalsely : Prop := wireForthRow.holds Tryd.pinned (OpenSpec.ofChange wireForthWrong)

/- THE SECOND FORM. 'bulk': how many values and letters a reading holds, each counted each time it is reached (what is shared counts as often as it is met; a slice's spare places count too). A statement '..UptoSaid' is the law's where the arguments, and the package variables that the reading takes, are together of bulk at most 1048576: NARROWER than '..Said'. Prove '..Said' where nothing that the law and all that it calls make is longer than what came in: it says more and counts as full. Else prove '..UptoSaid'. A law counts once. -/
mutual
def uptoBulk {H : Type} : DataW H → Nat
  | .lit (.string bytes) => bytes.length + 1
  | .lit _ => 1
  | .nil => 1
  | .ptr d => uptoBulk d + 1
  | .slice elems spare => uptoBulkAll elems + uptoBulkAll spare + 1
  | .agg parts => uptoBulkAll parts + 1
  | .iface _ d => uptoBulk d + 1
  | .map entries => uptoBulkEntries entries + 1
  | .held _ => 1
def uptoBulkAll {H : Type} : List (DataW H) → Nat
  | [] => 0
  | d :: r => uptoBulk d + uptoBulkAll r
def uptoBulkEntries {H : Type} : List (Lit × DataW H) → Nat
  | [] => 0
  | x :: r => uptoBulkEntry x + uptoBulkEntries r
def uptoBulkEntry {H : Type} : Lit × DataW H → Nat
  | (.string bytes, d) => bytes.length + uptoBulk d + 1
  | (_, d) => uptoBulk d + 1
 end
def uptoSmall : (H : Type) → List (DataW H) → Bool := fun _ ds => decide (uptoBulkAll ds ≤ 1048576)
def OpenSpec.upto (s : _root_.Go.ChangeSpec) : _root_.Go.OpenSpec := { _root_.Go.OpenSpec.ofChange s with cond := some uptoSmall }

/-- 'flotsamlaw19.WireEncodes', WHERE WHAT IT READS IS OF BULK AT MOST 1048576: true; the input reads as it did. -/
def wireEncodesUptoRow : OpenClaim := { program := "ytgbnpehpfadehaadoor", sum := "249a98e88231458086136dfaa785121cc0bb13419f980a85b3900b7d6696278a", func := "flotsam/flotsamlaw19.WireEncodes", spec := "wireEncodes", inPlace := ["internal/abi.NoEscape"], unfollowed := true, recurses := true, named := ["flotsam/crcc.steps"], loops := true, apart := false, laid := [("flotsam/crcc.steps", laid_flotsam_crcc_steps)], narrowed := true }
def WireEncodesUptoSaid : Prop := wireEncodesUptoRow.holds Tryd.pinned (OpenSpec.upto wireEncodesSpec)

/-- 'flotsamlaw19.WireBack', WHERE WHAT IT READS IS OF BULK AT MOST 1048576: true; the input reads as it did. -/
def wireBackUptoRow : OpenClaim := { program := "ytgbnpehpfadehaadoor", sum := "249a98e88231458086136dfaa785121cc0bb13419f980a85b3900b7d6696278a", func := "flotsam/flotsamlaw19.WireBack", spec := "wireBack", inPlace := ["internal/abi.NoEscape"], unfollowed := true, recurses := true, named := ["flotsam/crcc.steps"], loops := true, apart := false, laid := [("flotsam/crcc.steps", laid_flotsam_crcc_steps)], narrowed := true }
def WireBackUptoSaid : Prop := wireBackUptoRow.holds Tryd.pinned (OpenSpec.upto wireBackSpec)

/-- 'flotsamlaw19.WireAnswers', WHERE WHAT IT READS IS OF BULK AT MOST 1048576: true; the input reads as it did. -/
def wireAnswersUptoRow : OpenClaim := { program := "ytgbnpehpfadehaadoor", sum := "249a98e88231458086136dfaa785121cc0bb13419f980a85b3900b7d6696278a", func := "flotsam/flotsamlaw19.WireAnswers", spec := "wireAnswers", inPlace := ["internal/abi.NoEscape"], unfollowed := true, recurses := true, named := ["flotsam/crcc.steps"], apart := false, laid := [("flotsam/crcc.steps", laid_flotsam_crcc_steps)], narrowed := true }
def WireAnswersUptoSaid : Prop := wireAnswersUptoRow.holds Tryd.pinned (OpenSpec.upto wireAnswersSpec)

/-- 'flotsamlaw19.WireReads', WHERE WHAT IT READS IS OF BULK AT MOST 1048576: true; the input reads as it did. -/
def wireReadsUptoRow : OpenClaim := { program := "ytgbnpehpfadehaadoor", sum := "249a98e88231458086136dfaa785121cc0bb13419f980a85b3900b7d6696278a", func := "flotsam/flotsamlaw19.WireReads", spec := "wireReads", inPlace := ["internal/abi.NoEscape"], unfollowed := true, recurses := true, named := ["flotsam/crcc.steps"], apart := false, laid := [("flotsam/crcc.steps", laid_flotsam_crcc_steps)], narrowed := true }
def WireReadsUptoSaid : Prop := wireReadsUptoRow.holds Tryd.pinned (OpenSpec.upto wireReadsSpec)

/-- 'flotsamlaw19.WireFrames', WHERE WHAT IT READS IS OF BULK AT MOST 1048576: true; the input reads as it did. -/
def wireFramesUptoRow : OpenClaim := { program := "ytgbnpehpfadehaadoor", sum := "249a98e88231458086136dfaa785121cc0bb13419f980a85b3900b7d6696278a", func := "flotsam/flotsamlaw19.WireFrames", spec := "wireFrames", inPlace := ["internal/abi.NoEscape"], unfollowed := true, recurses := true, named := ["flotsam/crcc.steps"], apart := false, laid := [("flotsam/crcc.steps", laid_flotsam_crcc_steps)], narrowed := true }
def WireFramesUptoSaid : Prop := wireFramesUptoRow.holds Tryd.pinned (OpenSpec.upto wireFramesSpec)

/-- 'flotsamlaw19.WireRow', WHERE WHAT IT READS IS OF BULK AT MOST 1048576: true; the input reads as it did. -/
def wireRowUptoRow : OpenClaim := { program := "ytgbnpehpfadehaadoor", sum := "249a98e88231458086136dfaa785121cc0bb13419f980a85b3900b7d6696278a", func := "flotsam/flotsamlaw19.WireRow", spec := "wireRow", inPlace := ["internal/abi.NoEscape"], unfollowed := true, recurses := true, named := ["flotsam/crcc.steps"], apart := false, laid := [("flotsam/crcc.steps", laid_flotsam_crcc_steps)], narrowed := true }
def WireRowUptoSaid : Prop := wireRowUptoRow.holds Tryd.pinned (OpenSpec.upto wireRowSpec)

/-- 'flotsamlaw19.WireForth', WHERE WHAT IT READS IS OF BULK AT MOST 1048576: true; the input reads as it did. -/
def wireForthUptoRow : OpenClaim := { program := "ytgbnpehpfadehaadoor", sum := "249a98e88231458086136dfaa785121cc0bb13419f980a85b3900b7d6696278a", func := "flotsam/flotsamlaw19.WireForth", spec := "wireForth", inPlace := ["internal/abi.NoEscape"], unfollowed := true, recurses := true, named := ["flotsam/crcc.steps"], apart := false, laid := [("flotsam/crcc.steps", laid_flotsam_crcc_steps)], narrowed := true }
def WireForthUptoSaid : Prop := wireForthUptoRow.holds Tryd.pinned (OpenSpec.upto wireForthSpec)

end Rows
end Go.Proofs.YtgbnpehpfadehaaDoor
