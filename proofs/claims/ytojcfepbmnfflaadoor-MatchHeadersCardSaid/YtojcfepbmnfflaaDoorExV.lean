/-
  Filters in memory.
-/
import Derived.Test.YtojcfepbmnfflaaDoorBlk
import Derived.Test.YtojcfepbmnfflaaDoorEx3
import Derived.Test.YtojcfepbmnfflaaDoorRows
set_option linter.unusedVariables false
namespace Go.Proofs.YtojcfepbmnfflaaDoor
open Go.RowKit

/-- a filter's value -/
def treeV (t : Tree) (kv : Value) : Value := .agg #[.int .i64 t.op, .string (str t.name), .string (str t.value), kv]
/-- a slice of filters -/
inductive KAt (w : World) : Value → List Tree → Prop
  | mk (ad : Option Addr) (cap : Nat) (l : List Tree) (kv : Nat → Value) (g o : Nat) (hl : l.length ≤ 9223372036854775807) (h0 : ad = none → cap = 0) (ha : l ≠ [] → ad = some ⟨g, o, none⟩)
      (hc : ∀ (j : Nat) (t : Tree), l[j]? = some t → w.cell? ⟨g, o + j * 4, none⟩ = some (.int .i64 t.op) ∧ w.cell? ⟨g, o + j * 4 + 1, none⟩ = some (.string (str t.name)) ∧ w.cell? ⟨g, o + j * 4 + 2, none⟩ = some (.string (str t.value)) ∧ w.cell? ⟨g, o + j * 4 + 3, none⟩ = some (kv j))
      (hk : ∀ (j : Nat) (t : Tree), l[j]? = some t → KAt w (kv j) t.kids) : KAt w (.slice ad l.length cap) l
theorem KAt.keeps {w w' : World} (k : Keeps w w') {v : Value} {l : List Tree} (h : KAt w v l) : KAt w' v l := by
  induction h with
  | mk ad cap l kv g o hl h0 ha hc hk ih =>
    exact .mk ad cap l kv g o hl h0 ha (fun j t hj => ⟨k.cell (hc j t hj).1, k.cell (hc j t hj).2.1, k.cell (hc j t hj).2.2.1, k.cell (hc j t hj).2.2.2⟩) ih
theorem KAt.nil (w : World) : KAt w (.slice none 0 0) [] := .mk none 0 [] (fun _ => undef) 0 0 (by simp) (fun _ => rfl) (fun h => absurd rfl h) (fun j t h => by simp at h) (fun j t h => by simp at h)
theorem KAt.form {w : World} {v : Value} {l : List Tree} (h : KAt w v l) : ∃ ad cap, v = .slice ad l.length cap := by
  cases h with
  | mk ad cap l kv g o hl h0 ha hc hk => exact ⟨ad, cap, rfl⟩
/-- how deep, counted to 100 -/
def dep (t : Tree) : Int := min 100 (t.height : Int)
end Go.Proofs.YtojcfepbmnfflaaDoor
