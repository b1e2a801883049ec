/-
  NARROWER THAN 'FOR EVERY INPUT', by the rows' own cells (each row's printed sentence says how): BatchEncodes: laid · BatchDecodes: laid · BatchScans: laid · BatchBack: laid · BatchTurned: laid · BatchJoined: laid.
  DERIVED. THE GIVEN ROWS OF THIS SEAT. 6 by the template 'for every input the law returns true; each argument reads behind the call as it read before'; 0 by the template 'total and deterministic' (their statements: YtlalhieccbfndaaDoorTotals.lean).
  GIVEN WITH THE SEED: the statements are not yours to turn. If you find one false, say at which input.
  Laid BY PROGRAM, IN A SANDBOX (cutbox-rows.mjs): the forced cells as the released guide's own fill.sh prints them over the translation c5d4b3e82e7da11d… (all of the seat's roots in one cut). By AI agents, Wed Nov 11 2026. No macro, syntax, notation, axiom, sorry.
-/
import Derived.Test.YtlalhieccbfndaaDoorChecked
import GoSem.Claim
import GoSem.ClaimJoined
import GoSem.ClaimMapViews
import Derived.JoinedTies
import Derived.KernelRfl
namespace Go.Proofs.YtlalhieccbfndaaDoor
/- THE CELL 'sum', in the pinned program and in every row, IS THE sha256 OF THE DUMP (.gsa) THAT YtlalhieccbfndaaDoorProg.lean LOADS. Nothing in Lean hashes anything: it is a label: what it is worth is what the hold of that sum in a sandbox is worth. -/
noncomputable def Tryd.pinned : Pinned := { name := "ytlalhieccbfndaadoor", sum := "c5d4b3e82e7da11d64eccab5ebe38e4201ecb2f56de9d12586d9ff57bb387b2b", checked := Tryd.checked }
namespace Rows
def none {H : Type} : Left H := { results := [], args := [] }

/- WHAT THE LISTED PACKAGE-LEVEL VARIABLES READ AS WHEN THE CALL BEGINS. Each datum BY PROGRAM (the guide's laid-datum.mjs) off the statement by which the dump's own 'gosem.cut.vars' lays the variable. In a bare row this is a premise. The card (YtlalhieccbfndaaDoorCards.lean) ties it to the program's text. -/
def laid_flotsam_crcc_steps {H : Type} : DataW H := .agg [.lit (.int .u32 0), .lit (.int .u32 274646895), .lit (.int .u32 549293790), .lit (.int .u32 820201905), .lit (.int .u32 1098587580), .lit (.int .u32 1361435347), .lit (.int .u32 1640403810), .lit (.int .u32 1905808397), .lit (.int .u32 2197175160), .lit (.int .u32 2460548119), .lit (.int .u32 2722870694), .lit (.int .u32 2987750089), .lit (.int .u32 3280807620), .lit (.int .u32 3553878443), .lit (.int .u32 3811616794), .lit (.int .u32 4084100981)]

/-- 'flotsamlaw05.BatchEncodes': WHATEVER THE INPUT: true; the input reads as it did. -/
def batchEncodesSpec : ChangeSpec := { name := "batchEncodes", fn := fun _ => fun
  | [d] => { results := [.lit (.bool true)], args := [d] }
  | _ => none }
def batchEncodesRow : OpenClaim := { program := "ytlalhieccbfndaadoor", sum := "c5d4b3e82e7da11d64eccab5ebe38e4201ecb2f56de9d12586d9ff57bb387b2b", func := "flotsam/flotsamlaw05.BatchEncodes", spec := "batchEncodes", inPlace := ["internal/abi.NoEscape"], named := ["flotsam/crcc.steps"], apart := false, laid := [("flotsam/crcc.steps", laid_flotsam_crcc_steps)] }
def BatchEncodesSaid : Prop := batchEncodesRow.holds Tryd.pinned (OpenSpec.ofChange batchEncodesSpec)

/-- ITS FALSE NEIGHBOUR: 'it returns false'. Refute it at one input. -/
def batchEncodesWrong : ChangeSpec := { name := "batchEncodes", fn := fun _ => fun
  | [d] => { results := [.lit (.bool false)], args := [d] }
  | _ => none }
def BatchEncodesWrongFalsely : Prop := batchEncodesRow.holds Tryd.pinned (OpenSpec.ofChange batchEncodesWrong)

/-- 'flotsamlaw05.BatchDecodes': WHATEVER THE INPUT: true; the input reads as it did. -/
def batchDecodesSpec : ChangeSpec := { name := "batchDecodes", fn := fun _ => fun
  | [d1, d2] => { results := [.lit (.bool true)], args := [d1, d2] }
  | _ => none }
def batchDecodesRow : OpenClaim := { program := "ytlalhieccbfndaadoor", sum := "c5d4b3e82e7da11d64eccab5ebe38e4201ecb2f56de9d12586d9ff57bb387b2b", func := "flotsam/flotsamlaw05.BatchDecodes", spec := "batchDecodes", inPlace := ["internal/abi.NoEscape"], named := ["flotsam/crcc.steps"], apart := false, laid := [("flotsam/crcc.steps", laid_flotsam_crcc_steps)] }
def BatchDecodesSaid : Prop := batchDecodesRow.holds Tryd.pinned (OpenSpec.ofChange batchDecodesSpec)

/-- ITS FALSE NEIGHBOUR: 'it returns false'. Refute it at one input. -/
def batchDecodesWrong : ChangeSpec := { name := "batchDecodes", fn := fun _ => fun
  | [d1, d2] => { results := [.lit (.bool false)], args := [d1, d2] }
  | _ => none }
def BatchDecodesWrongFalsely : Prop := batchDecodesRow.holds Tryd.pinned (OpenSpec.ofChange batchDecodesWrong)

/-- 'flotsamlaw05.BatchScans': WHATEVER THE INPUT: true; the input reads as it did. -/
def batchScansSpec : ChangeSpec := { name := "batchScans", fn := fun _ => fun
  | [d] => { results := [.lit (.bool true)], args := [d] }
  | _ => none }
def batchScansRow : OpenClaim := { program := "ytlalhieccbfndaadoor", sum := "c5d4b3e82e7da11d64eccab5ebe38e4201ecb2f56de9d12586d9ff57bb387b2b", func := "flotsam/flotsamlaw05.BatchScans", spec := "batchScans", inPlace := ["internal/abi.NoEscape"], named := ["flotsam/crcc.steps"], apart := false, laid := [("flotsam/crcc.steps", laid_flotsam_crcc_steps)] }
def BatchScansSaid : Prop := batchScansRow.holds Tryd.pinned (OpenSpec.ofChange batchScansSpec)

/-- ITS FALSE NEIGHBOUR: 'it returns false'. Refute it at one input. -/
def batchScansWrong : ChangeSpec := { name := "batchScans", fn := fun _ => fun
  | [d] => { results := [.lit (.bool false)], args := [d] }
  | _ => none }
def BatchScansWrongFalsely : Prop := batchScansRow.holds Tryd.pinned (OpenSpec.ofChange batchScansWrong)

/-- 'flotsamlaw05.BatchBack': WHATEVER THE INPUT: true; the input reads as it did. -/
def batchBackSpec : ChangeSpec := { name := "batchBack", fn := fun _ => fun
  | [d1, d2] => { results := [.lit (.bool true)], args := [d1, d2] }
  | _ => none }
def batchBackRow : OpenClaim := { program := "ytlalhieccbfndaadoor", sum := "c5d4b3e82e7da11d64eccab5ebe38e4201ecb2f56de9d12586d9ff57bb387b2b", func := "flotsam/flotsamlaw05.BatchBack", spec := "batchBack", inPlace := ["internal/abi.NoEscape"], named := ["flotsam/crcc.steps"], apart := false, laid := [("flotsam/crcc.steps", laid_flotsam_crcc_steps)] }
def BatchBackSaid : Prop := batchBackRow.holds Tryd.pinned (OpenSpec.ofChange batchBackSpec)

/-- ITS FALSE NEIGHBOUR: 'it returns false'. Refute it at one input. -/
def batchBackWrong : ChangeSpec := { name := "batchBack", fn := fun _ => fun
  | [d1, d2] => { results := [.lit (.bool false)], args := [d1, d2] }
  | _ => none }
def BatchBackWrongFalsely : Prop := batchBackRow.holds Tryd.pinned (OpenSpec.ofChange batchBackWrong)

/-- 'flotsamlaw05.BatchTurned': WHATEVER THE INPUT: true; the input reads as it did. -/
def batchTurnedSpec : ChangeSpec := { name := "batchTurned", fn := fun _ => fun
  | [d1, d2, d3] => { results := [.lit (.bool true)], args := [d1, d2, d3] }
  | _ => none }
def batchTurnedRow : OpenClaim := { program := "ytlalhieccbfndaadoor", sum := "c5d4b3e82e7da11d64eccab5ebe38e4201ecb2f56de9d12586d9ff57bb387b2b", func := "flotsam/flotsamlaw05.BatchTurned", spec := "batchTurned", inPlace := ["internal/abi.NoEscape"], named := ["flotsam/crcc.steps"], apart := false, laid := [("flotsam/crcc.steps", laid_flotsam_crcc_steps)] }
def BatchTurnedSaid : Prop := batchTurnedRow.holds Tryd.pinned (OpenSpec.ofChange batchTurnedSpec)

/-- ITS FALSE NEIGHBOUR: 'it returns false'. Refute it at one input. -/
def batchTurnedWrong : ChangeSpec := { name := "batchTurned", fn := fun _ => fun
  | [d1, d2, d3] => { results := [.lit (.bool false)], args := [d1, d2, d3] }
  | _ => none }
def BatchTurnedWrongFalsely : Prop := batchTurnedRow.holds Tryd.pinned (OpenSpec.ofChange batchTurnedWrong)

/-- 'flotsamlaw05.BatchJoined': WHATEVER THE INPUT: true; the input reads as it did. -/
def batchJoinedSpec : ChangeSpec := { name := "batchJoined", fn := fun _ => fun
  | [d1, d2] => { results := [.lit (.bool true)], args := [d1, d2] }
  | _ => none }
def batchJoinedRow : OpenClaim := { program := "ytlalhieccbfndaadoor", sum := "c5d4b3e82e7da11d64eccab5ebe38e4201ecb2f56de9d12586d9ff57bb387b2b", func := "flotsam/flotsamlaw05.BatchJoined", spec := "batchJoined", inPlace := ["internal/abi.NoEscape"], named := ["flotsam/crcc.steps"], apart := false, laid := [("flotsam/crcc.steps", laid_flotsam_crcc_steps)] }
def BatchJoinedSaid : Prop := batchJoinedRow.holds Tryd.pinned (OpenSpec.ofChange batchJoinedSpec)

/-- ITS FALSE NEIGHBOUR: 'it returns false'. Refute it at one input. -/
def batchJoinedWrong : ChangeSpec := { name := "batchJoined", fn := fun _ => fun
  | [d1, d2] => { results := [.lit (.bool false)], args := [d1, d2] }
  | _ => none }
def BatchJoinedWrongFalsely : Prop := batchJoinedRow.holds Tryd.pinned (OpenSpec.ofChange batchJoinedWrong)

/- THE SECOND FORM. 'bulk': how many values and letters a reading holds, each counted each time it is reached (what is shared counts as often as it is met; a slice's spare places count too). A statement '..UptoSaid' is the law's where the arguments, and the package variables that the reading takes, are together of bulk at most 1048576: NARROWER than '..Said'. Prove '..Said' where nothing that the law and all that it calls make is longer than what came in: it says more and counts as full. Else prove '..UptoSaid'. A law counts once. -/
mutual
def uptoBulk {H : Type} : DataW H → Nat
  | .lit (.string bytes) => bytes.length + 1
  | .lit _ => 1
  | .nil => 1
  | .ptr d => uptoBulk d + 1
  | .slice elems spare => uptoBulkAll elems + uptoBulkAll spare + 1
  | .agg parts => uptoBulkAll parts + 1
  | .iface _ d => uptoBulk d + 1
  | .map entries => uptoBulkEntries entries + 1
  | .held _ => 1
def uptoBulkAll {H : Type} : List (DataW H) → Nat
  | [] => 0
  | d :: r => uptoBulk d + uptoBulkAll r
def uptoBulkEntries {H : Type} : List (Lit × DataW H) → Nat
  | [] => 0
  | x :: r => uptoBulkEntry x + uptoBulkEntries r
def uptoBulkEntry {H : Type} : Lit × DataW H → Nat
  | (.string bytes, d) => bytes.length + uptoBulk d + 1
  | (_, d) => uptoBulk d + 1
 end
def uptoSmall : (H : Type) → List (DataW H) → Bool := fun _ ds => decide (uptoBulkAll ds ≤ 1048576)
def OpenSpec.upto (s : _root_.Go.ChangeSpec) : _root_.Go.OpenSpec := { _root_.Go.OpenSpec.ofChange s with cond := some uptoSmall }

/-- 'flotsamlaw05.BatchEncodes', WHERE WHAT IT READS IS OF BULK AT MOST 1048576: true; the input reads as it did. -/
def batchEncodesUptoRow : OpenClaim := { program := "ytlalhieccbfndaadoor", sum := "c5d4b3e82e7da11d64eccab5ebe38e4201ecb2f56de9d12586d9ff57bb387b2b", func := "flotsam/flotsamlaw05.BatchEncodes", spec := "batchEncodes", inPlace := ["internal/abi.NoEscape"], named := ["flotsam/crcc.steps"], apart := false, laid := [("flotsam/crcc.steps", laid_flotsam_crcc_steps)], narrowed := true }
def BatchEncodesUptoSaid : Prop := batchEncodesUptoRow.holds Tryd.pinned (OpenSpec.upto batchEncodesSpec)

/-- 'flotsamlaw05.BatchDecodes', WHERE WHAT IT READS IS OF BULK AT MOST 1048576: true; the input reads as it did. -/
def batchDecodesUptoRow : OpenClaim := { program := "ytlalhieccbfndaadoor", sum := "c5d4b3e82e7da11d64eccab5ebe38e4201ecb2f56de9d12586d9ff57bb387b2b", func := "flotsam/flotsamlaw05.BatchDecodes", spec := "batchDecodes", inPlace := ["internal/abi.NoEscape"], named := ["flotsam/crcc.steps"], apart := false, laid := [("flotsam/crcc.steps", laid_flotsam_crcc_steps)], narrowed := true }
def BatchDecodesUptoSaid : Prop := batchDecodesUptoRow.holds Tryd.pinned (OpenSpec.upto batchDecodesSpec)

/-- 'flotsamlaw05.BatchScans', WHERE WHAT IT READS IS OF BULK AT MOST 1048576: true; the input reads as it did. -/
def batchScansUptoRow : OpenClaim := { program := "ytlalhieccbfndaadoor", sum := "c5d4b3e82e7da11d64eccab5ebe38e4201ecb2f56de9d12586d9ff57bb387b2b", func := "flotsam/flotsamlaw05.BatchScans", spec := "batchScans", inPlace := ["internal/abi.NoEscape"], named := ["flotsam/crcc.steps"], apart := false, laid := [("flotsam/crcc.steps", laid_flotsam_crcc_steps)], narrowed := true }
def BatchScansUptoSaid : Prop := batchScansUptoRow.holds Tryd.pinned (OpenSpec.upto batchScansSpec)

/-- 'flotsamlaw05.BatchBack', WHERE WHAT IT READS IS OF BULK AT MOST 1048576: true; the input reads as it did. -/
def batchBackUptoRow : OpenClaim := { program := "ytlalhieccbfndaadoor", sum := "c5d4b3e82e7da11d64eccab5ebe38e4201ecb2f56de9d12586d9ff57bb387b2b", func := "flotsam/flotsamlaw05.BatchBack", spec := "batchBack", inPlace := ["internal/abi.NoEscape"], named := ["flotsam/crcc.steps"], apart := false, laid := [("flotsam/crcc.steps", laid_flotsam_crcc_steps)], narrowed := true }
def BatchBackUptoSaid : Prop := batchBackUptoRow.holds Tryd.pinned (OpenSpec.upto batchBackSpec)

/-- 'flotsamlaw05.BatchTurned', WHERE WHAT IT READS IS OF BULK AT MOST 1048576: true; the input reads as it did. -/
def batchTurnedUptoRow : OpenClaim := { program := "ytlalhieccbfndaadoor", sum := "c5d4b3e82e7da11d64eccab5ebe38e4201ecb2f56de9d12586d9ff57bb387b2b", func := "flotsam/flotsamlaw05.BatchTurned", spec := "batchTurned", inPlace := ["internal/abi.NoEscape"], named := ["flotsam/crcc.steps"], apart := false, laid := [("flotsam/crcc.steps", laid_flotsam_crcc_steps)], narrowed := true }
def BatchTurnedUptoSaid : Prop := batchTurnedUptoRow.holds Tryd.pinned (OpenSpec.upto batchTurnedSpec)

/-- 'flotsamlaw05.BatchJoined', WHERE WHAT IT READS IS OF BULK AT MOST 1048576: true; the input reads as it did. -/
def batchJoinedUptoRow : OpenClaim := { program := "ytlalhieccbfndaadoor", sum := "c5d4b3e82e7da11d64eccab5ebe38e4201ecb2f56de9d12586d9ff57bb387b2b", func := "flotsam/flotsamlaw05.BatchJoined", spec := "batchJoined", inPlace := ["internal/abi.NoEscape"], named := ["flotsam/crcc.steps"], apart := false, laid := [("flotsam/crcc.steps", laid_flotsam_crcc_steps)], narrowed := true }
def BatchJoinedUptoSaid : Prop := batchJoinedUptoRow.holds Tryd.pinned (OpenSpec.upto batchJoinedSpec)

end Rows
end Go.Proofs.YtlalhieccbfndaaDoor
