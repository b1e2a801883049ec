/-
  What the rows' list gives: the table's cells hold its sixteen numbers.
-/
import Derived.Test.YtgbnpehpfadehaaDoorRow
import Derived.Test.YtgbnpehpfadehaaDoorCrW
namespace Go.Proofs.YtgbnpehpfadehaaDoor
open Go.RowKit
theorem gTab : Tryd.prog.globalNamed "flotsam/crcc.steps" = some 0 := by kernel_rfl
theorem gTabType : (Tryd.prog.globals[0]?).map (·.type) = some 185 := by kernel_rfl
theorem cellsTab : Tryd.prog.cellsOf 185 = 16 := by kernel_rfl
theorem cellsU32 : Tryd.prog.cellsOf 146 = 1 := by kernel_rfl
theorem tab_of {W : World} (h : laidMetH Tryd.prog [("flotsam/crcc.steps", Rows.laid_flotsam_crcc_steps)] W) : Tab W := by
  have T : Lib.TabIs Tryd.prog W "flotsam/crcc.steps" .u32 [0, 274646895, 549293790, 820201905, 1098587580, 1361435347, 1640403810, 1905808397, 2197175160, 2460548119, 2722870694, 2987750089, 3280807620, 3553878443, 3811616794, 4084100981] :=
    Lib.tabIs_of_head (rest := []) gTab gTabType Tryd.underlying185 Tryd.underlying146 cellsU32 cellsTab h
  intro i hi
  have := T.cell gTab i (by simpa using hi)
  rw [this]
  have hall : ∀ i, i < 16 → ([0, 274646895, 549293790, 820201905, 1098587580, 1361435347, 1640403810, 1905808397, 2197175160, 2460548119, 2722870694, 2987750089, 3280807620, 3553878443, 3811616794, 4084100981] : List Int).getD i 0 = ((Crc.steps.getD i 0 : Nat) : Int) := by decide
  rw [hall i hi]
end Go.Proofs.YtgbnpehpfadehaaDoor
