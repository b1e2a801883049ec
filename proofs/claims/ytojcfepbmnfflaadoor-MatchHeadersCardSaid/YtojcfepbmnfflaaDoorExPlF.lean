/-
  Filters: what a part that fits is bounded by.
-/
import Derived.Test.YtojcfepbmnfflaaDoorEx3
import Derived.Test.YtojcfepbmnfflaaDoorBlk
set_option linter.unusedVariables false
namespace Go.Proofs.YtojcfepbmnfflaaDoor
open Go.RowKit
namespace Tree
theorem fits_bd {t : Tree} (h : t.fits = true) : (t.op = 0 ∨ t.op = 1 ∨ t.op = 2 ∨ t.op = 3 ∨ t.op = 4 ∨ t.op = 5 ∨ t.op = 6 ∨ t.op = 7) ∧ t.name.length ≤ 1000 ∧ t.value.length ≤ 1000 ∧ t.kids.length ≤ 30 := by
  cases fits_form h with
  | all => simp [op, name, value, kids]
  | many o ks ho h2 h30 => simp [op, name, value, kids]; omega
  | not k => simp [op, name, value, kids]
  | has n h0 h => simp [op, name, value, kids]; omega
  | is n v h0 h hv => simp [op, name, value, kids]; omega
  | val o v ho h0 hv => simp [op, name, value, kids]; omega
end Tree
theorem Blk.four {w : World} {q : Nat} {t : TypeId} {a0 a1 a2 a3 : Value} (h : Blk w q t #[a0, a1, a2, a3]) : w.cell? ⟨q, 0, none⟩ = some a0 ∧ w.cell? ⟨q, 1, none⟩ = some a1 ∧ w.cell? ⟨q, 2, none⟩ = some a2 ∧ w.cell? ⟨q, 3, none⟩ = some a3 :=
  ⟨h.cell 0 _ rfl, h.cell 1 _ rfl, h.cell 2 _ rfl, h.cell 3 _ rfl⟩
end Go.Proofs.YtojcfepbmnfflaaDoor
