/-
  Slices of texts.
-/
import Derived.Test.YtojcfepbmnfflaaDoorTkHas
set_option linter.unusedVariables false
namespace Go.Proofs.YtojcfepbmnfflaaDoor
open Go.RowKit

/-- a slice that holds these texts -/
def Strs (w : World) (v : Value) (l : List (List UInt8)) : Prop :=
  ∃ ad cap, v = .slice ad l.length cap ∧ (l ≠ [] → ∃ g, ad = some ⟨g, 0, none⟩ ∧ ∀ j x, l[j]? = some x → w.cell? ⟨g, j, none⟩ = some (sv x))
theorem Strs.keeps {w w' : World} {v : Value} {l : List (List UInt8)} (h : Strs w v l) (k : Keeps w w') : Strs w' v l := by
  obtain ⟨ad, cap, rfl, h⟩ := h
  refine ⟨ad, cap, rfl, fun hl => ?_⟩
  obtain ⟨g, hg, hc⟩ := h hl
  exact ⟨g, hg, fun j x hj => k.cell (hc j x hj)⟩
theorem Strs.of_own {w : World} {base : Nat} {v : Value} {l : List (List UInt8)} (h : Own w base 1 v l.length (l.map sv)) : Strs w v l := by
  obtain ⟨h1, h2⟩ := h
  rcases h2 with ⟨rfl, h0⟩ | ⟨g, cap, rfl, _, _, _, hc, _⟩
  · exact ⟨none, 0, by rw [h0], fun hl => absurd (List.eq_nil_of_length_eq_zero h0) hl⟩
  · exact ⟨some ⟨g, 0, none⟩, cap, rfl, fun _ => ⟨g, rfl, fun j x hj => hc j (sv x) (by rw [List.getElem?_map, hj]; rfl)⟩⟩
end Go.Proofs.YtojcfepbmnfflaaDoor
