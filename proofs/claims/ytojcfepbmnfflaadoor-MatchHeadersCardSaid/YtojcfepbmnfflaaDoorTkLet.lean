/-
  token.letter, and the document's: the walks.
-/
import Derived.Test.YtojcfepbmnfflaaDoorTkFold
import Derived.Test.YtojcfepbmnfflaaDoorShelf
set_option linter.unusedVariables false
namespace Go.Proofs.YtojcfepbmnfflaaDoor
open Go.RowKit

/-- the tables of unicode/utf8 -/
abbrev U8 (w : World) : Prop := Lib.Utf8Tabs 0 1 w
theorem U8.keeps {w w' : World} (h : U8 w) (k : Keeps w w') : U8 w' := Utf8Tabs_below h k

set_option maxHeartbeats 800000 in
theorem tk_letter (c k : Nat) (w : World) :
    Calls Tryd.prog 51 #[.int .i32 c, .int .i64 k] w fun e w' => e = .returned (.bool (decide (1 < k) || Tk.asc c)) ∧ w = w' := by
  have hk : decide ((1 : Int) < (k : Int)) = decide (1 < k) := by simp; omega
  have h1 : decide ((48 : Int) ≤ (c : Int)) = decide (48 ≤ c) := by simp; omega
  have h2 : decide ((c : Int) ≤ 57) = decide (c ≤ 57) := by simp; omega
  have h3 : ((c : Int) == 95) = (c == 95) := by rw [Bool.eq_iff_iff]; simp; omega
  have h4 : decide ((65 : Int) ≤ (c : Int)) = decide (65 ≤ c) := by simp; omega
  have h5 : decide ((c : Int) ≤ 90) = decide (c ≤ 90) := by simp; omega
  have h6 : decide ((97 : Int) ≤ (c : Int)) = decide (97 ≤ c) := by simp; omega
  have h7 : decide ((c : Int) ≤ 122) = decide (c ≤ 122) := by simp; omega
  unfold Tk.asc
  generalize decide (1 < k) = a0 at *
  generalize decide (48 ≤ c) = a1 at *
  generalize decide (c ≤ 57) = a2 at *
  generalize (c == 95) = a3 at *
  generalize decide (65 ≤ c) = a4 at *
  generalize decide (c ≤ 90) = a5 at *
  generalize decide (97 ≤ c) = a6 at *
  generalize decide (c ≤ 122) = a7 at *
  go_enter Tryd.func51, Tryd.ntmps51
  cases a0
  · cases a1 <;> cases a2 <;> cases a3 <;> cases a4 <;> cases a5 <;> cases a6 <;> cases a7 <;> (go_wp2_with fail; go_ret; exact ⟨rfl, rfl⟩)
  · go_wp2_with fail
    go_ret
    exact ⟨rfl, rfl⟩
end Go.Proofs.YtojcfepbmnfflaaDoor
