/-
  What the rows' list gives: the two tables of unicode/utf8.
-/
import Derived.Test.YtojcfepbmnfflaaDoorRow
import Derived.Test.YtojcfepbmnfflaaDoorTkLetR
import Derived.Lib.LaidU8
import Derived.PinnedBridge
namespace Go.Proofs.YtojcfepbmnfflaaDoor
open Go.RowKit Go.Lib

theorem u8_of {W : World} (h : laidMet Tryd.prog [("unicode/utf8.acceptRanges", Rows.laid_unicode_utf8_acceptRanges), ("unicode/utf8.first", Rows.laid_unicode_utf8_first)] W) : U8 W := by
  have e1 : Rows.laid_unicode_utf8_first = firstData := Pinned.utf8First_eq
  have e2 : (Rows.laid_unicode_utf8_acceptRanges : DataW Unit) = acceptData := by kernel_rfl
  have h1 := Lib.laidMet.reads h (n := "unicode/utf8.first") (d := Rows.laid_unicode_utf8_first) (by simp)
  have h2 := Lib.laidMet.reads h (n := "unicode/utf8.acceptRanges") (d := Rows.laid_unicode_utf8_acceptRanges) (by simp)
  rw [e1] at h1
  rw [e2] at h2
  exact utf8Tabs_of_reads (ρ := Tryd.lays197_ren) { Tryd.lays197 with } ⟨by kernel_rfl, by kernel_rfl, by kernel_rfl, by kernel_rfl, by kernel_rfl, by kernel_rfl, by kernel_rfl⟩ h1 h2
/-- for the witness: what the two tables' blocks hold -/
def putCells (cs : List Value) : Obj → Obj
  | .cells _ t frozen => .cells cs.toArray t frozen
  | o => o
def firstCells : List Value := Pinned.utf8FirstZ.map fun (n : Nat) => Value.int .u8 (n : Int)
def acceptCells : List Value := (List.range 16).flatMap fun i => [Value.int .u8 (Lib.accLo i : Int), Value.int .u8 (Lib.accHi i : Int)]
end Go.Proofs.YtojcfepbmnfflaaDoor
