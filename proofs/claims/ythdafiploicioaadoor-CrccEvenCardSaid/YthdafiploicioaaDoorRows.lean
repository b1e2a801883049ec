/-
  NARROWER THAN 'FOR EVERY INPUT', by the rows' own cells (each row's printed sentence says how): CrccSums: laid · CrccParts: laid · CrccTurned: laid · CrccApart: laid · CrccEven: laid · CrccEnds: laid.
  DERIVED. THE GIVEN ROWS OF THIS SEAT. 6 by the template 'for every input the law returns true; each argument reads behind the call as it read before'; 0 by the template 'total and deterministic' (their statements: YthdafiploicioaaDoorTotals.lean).
  GIVEN WITH THE SEED: the statements are not yours to turn. If you find one false, say at which input.
  Laid BY PROGRAM, IN A SANDBOX (cutbox-rows.mjs): the forced cells as the released guide's own fill.sh prints them over the translation 07005fd3b2be29ca… (all of the seat's roots in one cut). By AI agents, Wed Nov 11 2026. No macro, syntax, notation, axiom, sorry.
-/
import Derived.Test.YthdafiploicioaaDoorChecked
import GoSem.Claim
import GoSem.ClaimJoined
import GoSem.ClaimMapViews
import Derived.JoinedTies
import Derived.KernelRfl
namespace Go.Proofs.YthdafiploicioaaDoor
/- THE CELL 'sum', in the pinned program and in every row, IS THE sha256 OF THE DUMP (.gsa) THAT YthdafiploicioaaDoorProg.lean LOADS. Nothing in Lean hashes anything: it is a label: what it is worth is what the hold of that sum in a sandbox is worth. -/
noncomputable def Tryd.pinned : Pinned := { name := "ythdafiploicioaadoor", sum := "07005fd3b2be29cae1526c9727fa475cc5670e6d6adeb327e598b633a0a85964", checked := Tryd.checked }
namespace Rows
def none {H : Type} : Left H := { results := [], args := [] }

/- WHAT THE LISTED PACKAGE-LEVEL VARIABLES READ AS WHEN THE CALL BEGINS. Each datum BY PROGRAM (the guide's laid-datum.mjs) off the statement by which the dump's own 'gosem.cut.vars' lays the variable. In a bare row this is a premise. The card (YthdafiploicioaaDoorCards.lean) ties it to the program's text. -/
def laid_flotsam_crcc_steps {H : Type} : DataW H := .agg [.lit (.int .u32 0), .lit (.int .u32 274646895), .lit (.int .u32 549293790), .lit (.int .u32 820201905), .lit (.int .u32 1098587580), .lit (.int .u32 1361435347), .lit (.int .u32 1640403810), .lit (.int .u32 1905808397), .lit (.int .u32 2197175160), .lit (.int .u32 2460548119), .lit (.int .u32 2722870694), .lit (.int .u32 2987750089), .lit (.int .u32 3280807620), .lit (.int .u32 3553878443), .lit (.int .u32 3811616794), .lit (.int .u32 4084100981)]

/-- 'flotsamlaw02.CrccSums': WHATEVER THE INPUT: true; the input reads as it did. -/
def crccSumsSpec : ChangeSpec := { name := "crccSums", fn := fun _ => fun
  | [d1, d2] => { results := [.lit (.bool true)], args := [d1, d2] }
  | _ => none }
def crccSumsRow : OpenClaim := { program := "ythdafiploicioaadoor", sum := "07005fd3b2be29cae1526c9727fa475cc5670e6d6adeb327e598b633a0a85964", func := "flotsam/flotsamlaw02.CrccSums", spec := "crccSums", named := ["flotsam/crcc.steps"], apart := false, laid := [("flotsam/crcc.steps", laid_flotsam_crcc_steps)] }
def CrccSumsSaid : Prop := crccSumsRow.holds Tryd.pinned (OpenSpec.ofChange crccSumsSpec)

/-- ITS FALSE NEIGHBOUR: 'it returns false'. Refute it at one input. -/
def crccSumsWrong : ChangeSpec := { name := "crccSums", fn := fun _ => fun
  | [d1, d2] => { results := [.lit (.bool false)], args := [d1, d2] }
  | _ => none }
def CrccSumsWrongFalsely : Prop := crccSumsRow.holds Tryd.pinned (OpenSpec.ofChange crccSumsWrong)

/-- 'flotsamlaw02.CrccParts': WHATEVER THE INPUT: true; the input reads as it did. -/
def crccPartsSpec : ChangeSpec := { name := "crccParts", fn := fun _ => fun
  | [d1, d2, d3] => { results := [.lit (.bool true)], args := [d1, d2, d3] }
  | _ => none }
def crccPartsRow : OpenClaim := { program := "ythdafiploicioaadoor", sum := "07005fd3b2be29cae1526c9727fa475cc5670e6d6adeb327e598b633a0a85964", func := "flotsam/flotsamlaw02.CrccParts", spec := "crccParts", named := ["flotsam/crcc.steps"], apart := false, laid := [("flotsam/crcc.steps", laid_flotsam_crcc_steps)] }
def CrccPartsSaid : Prop := crccPartsRow.holds Tryd.pinned (OpenSpec.ofChange crccPartsSpec)

/-- ITS FALSE NEIGHBOUR: 'it returns false'. Refute it at one input. -/
def crccPartsWrong : ChangeSpec := { name := "crccParts", fn := fun _ => fun
  | [d1, d2, d3] => { results := [.lit (.bool false)], args := [d1, d2, d3] }
  | _ => none }
def CrccPartsWrongFalsely : Prop := crccPartsRow.holds Tryd.pinned (OpenSpec.ofChange crccPartsWrong)

/-- 'flotsamlaw02.CrccTurned': WHATEVER THE INPUT: true; the input reads as it did. -/
def crccTurnedSpec : ChangeSpec := { name := "crccTurned", fn := fun _ => fun
  | [d1, d2, d3] => { results := [.lit (.bool true)], args := [d1, d2, d3] }
  | _ => none }
def crccTurnedRow : OpenClaim := { program := "ythdafiploicioaadoor", sum := "07005fd3b2be29cae1526c9727fa475cc5670e6d6adeb327e598b633a0a85964", func := "flotsam/flotsamlaw02.CrccTurned", spec := "crccTurned", named := ["flotsam/crcc.steps"], apart := false, laid := [("flotsam/crcc.steps", laid_flotsam_crcc_steps)] }
def CrccTurnedSaid : Prop := crccTurnedRow.holds Tryd.pinned (OpenSpec.ofChange crccTurnedSpec)

/-- ITS FALSE NEIGHBOUR: 'it returns false'. Refute it at one input. -/
def crccTurnedWrong : ChangeSpec := { name := "crccTurned", fn := fun _ => fun
  | [d1, d2, d3] => { results := [.lit (.bool false)], args := [d1, d2, d3] }
  | _ => none }
def CrccTurnedWrongFalsely : Prop := crccTurnedRow.holds Tryd.pinned (OpenSpec.ofChange crccTurnedWrong)

/-- 'flotsamlaw02.CrccApart': WHATEVER THE INPUT: true; the input reads as it did. -/
def crccApartSpec : ChangeSpec := { name := "crccApart", fn := fun _ => fun
  | [d1, d2, d3] => { results := [.lit (.bool true)], args := [d1, d2, d3] }
  | _ => none }
def crccApartRow : OpenClaim := { program := "ythdafiploicioaadoor", sum := "07005fd3b2be29cae1526c9727fa475cc5670e6d6adeb327e598b633a0a85964", func := "flotsam/flotsamlaw02.CrccApart", spec := "crccApart", named := ["flotsam/crcc.steps"], apart := false, laid := [("flotsam/crcc.steps", laid_flotsam_crcc_steps)] }
def CrccApartSaid : Prop := crccApartRow.holds Tryd.pinned (OpenSpec.ofChange crccApartSpec)

/-- ITS FALSE NEIGHBOUR: 'it returns false'. Refute it at one input. -/
def crccApartWrong : ChangeSpec := { name := "crccApart", fn := fun _ => fun
  | [d1, d2, d3] => { results := [.lit (.bool false)], args := [d1, d2, d3] }
  | _ => none }
def CrccApartWrongFalsely : Prop := crccApartRow.holds Tryd.pinned (OpenSpec.ofChange crccApartWrong)

/-- 'flotsamlaw02.CrccEven': WHATEVER THE INPUT: true; the input reads as it did. -/
def crccEvenSpec : ChangeSpec := { name := "crccEven", fn := fun _ => fun
  | [d1, d2, d3] => { results := [.lit (.bool true)], args := [d1, d2, d3] }
  | _ => none }
def crccEvenRow : OpenClaim := { program := "ythdafiploicioaadoor", sum := "07005fd3b2be29cae1526c9727fa475cc5670e6d6adeb327e598b633a0a85964", func := "flotsam/flotsamlaw02.CrccEven", spec := "crccEven", named := ["flotsam/crcc.steps"], apart := false, laid := [("flotsam/crcc.steps", laid_flotsam_crcc_steps)] }
def CrccEvenSaid : Prop := crccEvenRow.holds Tryd.pinned (OpenSpec.ofChange crccEvenSpec)

/-- ITS FALSE NEIGHBOUR: 'it returns false'. Refute it at one input. -/
def crccEvenWrong : ChangeSpec := { name := "crccEven", fn := fun _ => fun
  | [d1, d2, d3] => { results := [.lit (.bool false)], args := [d1, d2, d3] }
  | _ => none }
def CrccEvenWrongFalsely : Prop := crccEvenRow.holds Tryd.pinned (OpenSpec.ofChange crccEvenWrong)

/-- 'flotsamlaw02.CrccEnds': WHATEVER THE INPUT: true; the input reads as it did. -/
def crccEndsSpec : ChangeSpec := { name := "crccEnds", fn := fun _ => fun
  | [d] => { results := [.lit (.bool true)], args := [d] }
  | _ => none }
def crccEndsRow : OpenClaim := { program := "ythdafiploicioaadoor", sum := "07005fd3b2be29cae1526c9727fa475cc5670e6d6adeb327e598b633a0a85964", func := "flotsam/flotsamlaw02.CrccEnds", spec := "crccEnds", named := ["flotsam/crcc.steps"], apart := false, laid := [("flotsam/crcc.steps", laid_flotsam_crcc_steps)] }
def CrccEndsSaid : Prop := crccEndsRow.holds Tryd.pinned (OpenSpec.ofChange crccEndsSpec)

/-- ITS FALSE NEIGHBOUR: 'it returns false'. Refute it at one input. -/
def crccEndsWrong : ChangeSpec := { name := "crccEnds", fn := fun _ => fun
  | [d] => { results := [.lit (.bool false)], args := [d] }
  | _ => none }
def CrccEndsWrongFalsely : Prop := crccEndsRow.holds Tryd.pinned (OpenSpec.ofChange crccEndsWrong)

/- THE SECOND FORM. 'bulk': how many values and letters a reading holds, each counted each time it is reached (what is shared counts as often as it is met; a slice's spare places count too). A statement '..UptoSaid' is the law's where the arguments, and the package variables that the reading takes, are together of bulk at most 1048576: NARROWER than '..Said'. Prove '..Said' where nothing that the law and all that it calls make is longer than what came in: it says more and counts as full. Else prove '..UptoSaid'. A law counts once. -/
mutual
def uptoBulk {H : Type} : DataW H → Nat
  | .lit (.string bytes) => bytes.length + 1
  | .lit _ => 1
  | .nil => 1
  | .ptr d => uptoBulk d + 1
  | .slice elems spare => uptoBulkAll elems + uptoBulkAll spare + 1
  | .agg parts => uptoBulkAll parts + 1
  | .iface _ d => uptoBulk d + 1
  | .map entries => uptoBulkEntries entries + 1
  | .held _ => 1
def uptoBulkAll {H : Type} : List (DataW H) → Nat
  | [] => 0
  | d :: r => uptoBulk d + uptoBulkAll r
def uptoBulkEntries {H : Type} : List (Lit × DataW H) → Nat
  | [] => 0
  | x :: r => uptoBulkEntry x + uptoBulkEntries r
def uptoBulkEntry {H : Type} : Lit × DataW H → Nat
  | (.string bytes, d) => bytes.length + uptoBulk d + 1
  | (_, d) => uptoBulk d + 1
 end
def uptoSmall : (H : Type) → List (DataW H) → Bool := fun _ ds => decide (uptoBulkAll ds ≤ 1048576)
def OpenSpec.upto (s : _root_.Go.ChangeSpec) : _root_.Go.OpenSpec := { _root_.Go.OpenSpec.ofChange s with cond := some uptoSmall }

/-- 'flotsamlaw02.CrccSums', WHERE WHAT IT READS IS OF BULK AT MOST 1048576: true; the input reads as it did. -/
def crccSumsUptoRow : OpenClaim := { program := "ythdafiploicioaadoor", sum := "07005fd3b2be29cae1526c9727fa475cc5670e6d6adeb327e598b633a0a85964", func := "flotsam/flotsamlaw02.CrccSums", spec := "crccSums", named := ["flotsam/crcc.steps"], apart := false, laid := [("flotsam/crcc.steps", laid_flotsam_crcc_steps)], narrowed := true }
def CrccSumsUptoSaid : Prop := crccSumsUptoRow.holds Tryd.pinned (OpenSpec.upto crccSumsSpec)

/-- 'flotsamlaw02.CrccParts', WHERE WHAT IT READS IS OF BULK AT MOST 1048576: true; the input reads as it did. -/
def crccPartsUptoRow : OpenClaim := { program := "ythdafiploicioaadoor", sum := "07005fd3b2be29cae1526c9727fa475cc5670e6d6adeb327e598b633a0a85964", func := "flotsam/flotsamlaw02.CrccParts", spec := "crccParts", named := ["flotsam/crcc.steps"], apart := false, laid := [("flotsam/crcc.steps", laid_flotsam_crcc_steps)], narrowed := true }
def CrccPartsUptoSaid : Prop := crccPartsUptoRow.holds Tryd.pinned (OpenSpec.upto crccPartsSpec)

/-- 'flotsamlaw02.CrccTurned', WHERE WHAT IT READS IS OF BULK AT MOST 1048576: true; the input reads as it did. -/
def crccTurnedUptoRow : OpenClaim := { program := "ythdafiploicioaadoor", sum := "07005fd3b2be29cae1526c9727fa475cc5670e6d6adeb327e598b633a0a85964", func := "flotsam/flotsamlaw02.CrccTurned", spec := "crccTurned", named := ["flotsam/crcc.steps"], apart := false, laid := [("flotsam/crcc.steps", laid_flotsam_crcc_steps)], narrowed := true }
def CrccTurnedUptoSaid : Prop := crccTurnedUptoRow.holds Tryd.pinned (OpenSpec.upto crccTurnedSpec)

/-- 'flotsamlaw02.CrccApart', WHERE WHAT IT READS IS OF BULK AT MOST 1048576: true; the input reads as it did. -/
def crccApartUptoRow : OpenClaim := { program := "ythdafiploicioaadoor", sum := "07005fd3b2be29cae1526c9727fa475cc5670e6d6adeb327e598b633a0a85964", func := "flotsam/flotsamlaw02.CrccApart", spec := "crccApart", named := ["flotsam/crcc.steps"], apart := false, laid := [("flotsam/crcc.steps", laid_flotsam_crcc_steps)], narrowed := true }
def CrccApartUptoSaid : Prop := crccApartUptoRow.holds Tryd.pinned (OpenSpec.upto crccApartSpec)

/-- 'flotsamlaw02.CrccEven', WHERE WHAT IT READS IS OF BULK AT MOST 1048576: true; the input reads as it did. -/
def crccEvenUptoRow : OpenClaim := { program := "ythdafiploicioaadoor", sum := "07005fd3b2be29cae1526c9727fa475cc5670e6d6adeb327e598b633a0a85964", func := "flotsam/flotsamlaw02.CrccEven", spec := "crccEven", named := ["flotsam/crcc.steps"], apart := false, laid := [("flotsam/crcc.steps", laid_flotsam_crcc_steps)], narrowed := true }
def CrccEvenUptoSaid : Prop := crccEvenUptoRow.holds Tryd.pinned (OpenSpec.upto crccEvenSpec)

/-- 'flotsamlaw02.CrccEnds', WHERE WHAT IT READS IS OF BULK AT MOST 1048576: true; the input reads as it did. -/
def crccEndsUptoRow : OpenClaim := { program := "ythdafiploicioaadoor", sum := "07005fd3b2be29cae1526c9727fa475cc5670e6d6adeb327e598b633a0a85964", func := "flotsam/flotsamlaw02.CrccEnds", spec := "crccEnds", named := ["flotsam/crcc.steps"], apart := false, laid := [("flotsam/crcc.steps", laid_flotsam_crcc_steps)], narrowed := true }
def CrccEndsUptoSaid : Prop := crccEndsUptoRow.holds Tryd.pinned (OpenSpec.upto crccEndsSpec)

end Rows
end Go.Proofs.YthdafiploicioaaDoor
