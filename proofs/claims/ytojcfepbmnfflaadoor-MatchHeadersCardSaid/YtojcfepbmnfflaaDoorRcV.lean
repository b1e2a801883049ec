/-
  Records in memory: what a value of the type reads as.
-/
import Derived.Test.YtojcfepbmnfflaaDoorBlk
import Derived.Test.YtojcfepbmnfflaaDoorRc
import Derived.Test.YtojcfepbmnfflaaDoorRows
set_option linter.unusedVariables false
namespace Go.Proofs.YtojcfepbmnfflaaDoor
open Go.RowKit

/-- a slice of structs of two texts -/
def PairsAt (w : World) (v : Value) (l : List (List UInt8 × List UInt8)) : Prop :=
  ∃ ad cap, v = .slice ad l.length cap ∧ (ad = none → cap = 0) ∧ (l ≠ [] → ∃ g o, ad = some ⟨g, o, none⟩ ∧ ∀ j h, l[j]? = some h → w.cell? ⟨g, o + j * 2, none⟩ = some (.string (str h.1)) ∧ w.cell? ⟨g, o + j * 2 + 1, none⟩ = some (.string (str h.2)))
theorem PairsAt.keeps {w w' : World} {v : Value} {l : List (List UInt8 × List UInt8)} (h : PairsAt w v l) (k : Keeps w w') : PairsAt w' v l := by
  obtain ⟨ad, cap, rfl, h0, h⟩ := h
  refine ⟨ad, cap, rfl, h0, fun hl => ?_⟩
  obtain ⟨g, o, hg, hc⟩ := h hl
  exact ⟨g, o, hg, fun j x hj => ⟨k.cell (hc j x hj).1, k.cell (hc j x hj).2⟩⟩
theorem PairsAt.nil (w : World) : PairsAt w (.slice none 0 0) [] := ⟨none, 0, rfl, fun _ => rfl, fun h => absurd rfl h⟩
/-- the cells of a list of pairs -/
def pcells (l : List (List UInt8 × List UInt8)) : List Value := l.flatMap fun h => [.string (str h.1), .string (str h.2)]
theorem pcells_length : ∀ (l : List (List UInt8 × List UInt8)), (pcells l).length = l.length * 2
  | [] => rfl
  | h :: l => by have := pcells_length l; simp [pcells] at this ⊢; omega
theorem pcells_append (a b : List (List UInt8 × List UInt8)) : pcells (a ++ b) = pcells a ++ pcells b := by simp [pcells]
theorem pcells_at : ∀ (l : List (List UInt8 × List UInt8)) (j : Nat) (h : List UInt8 × List UInt8), l[j]? = some h → (pcells l)[j * 2]? = some (.string (str h.1)) ∧ (pcells l)[j * 2 + 1]? = some (.string (str h.2))
  | [], j, h, hj => by simp at hj
  | x :: l, 0, h, hj => by simp at hj; subst hj; exact ⟨rfl, rfl⟩
  | x :: l, j + 1, h, hj => by
    have ih := pcells_at l j h (by simpa using hj)
    have e : pcells (x :: l) = .string (str x.1) :: .string (str x.2) :: pcells l := rfl
    rw [e, show (j + 1) * 2 = j * 2 + 1 + 1 by omega, show j * 2 + 1 + 1 + 1 = (j * 2 + 1) + 1 + 1 by omega]
    simpa using ih
theorem PairsAt.of_own {w : World} {base : Nat} {v : Value} {l : List (List UInt8 × List UInt8)} (h : Own w base 2 v l.length (pcells l)) : PairsAt w v l := by
  obtain ⟨h1, h2⟩ := h
  rcases h2 with ⟨rfl, h0⟩ | ⟨g, cap, rfl, _, _, _, hc, _⟩
  · exact ⟨none, 0, by rw [h0], fun _ => rfl, fun hl => absurd (List.eq_nil_of_length_eq_zero h0) hl⟩
  · refine ⟨some ⟨g, 0, none⟩, cap, rfl, (fun h => by cases h), fun _ => ⟨g, 0, rfl, fun j x hj => ?_⟩⟩
    have := pcells_at l j x hj
    exact ⟨by rw [Nat.zero_add]; exact hc _ _ this.1, by rw [Nat.zero_add]; exact hc _ _ this.2⟩
/-- a record's value -/
def recV (r : Rec) (hv : Value) : Value := .agg #[.int .i64 r.at_, .int .i64 r.time, .bool r.bare, .string (str r.key), .bool r.gone, .string (str r.value), hv]
end Go.Proofs.YtojcfepbmnfflaaDoor
